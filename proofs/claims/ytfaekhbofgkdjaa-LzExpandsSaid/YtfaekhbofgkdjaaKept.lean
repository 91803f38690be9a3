/- What a call owns is kept by a later call; a place reckoned without a sign. -/
import Derived.Test.YtfaekhbofgkdjaaAppend
namespace Go.Proofs.Ytfaekhbofgkdjaa
open Go.RowKit

theorem own_below {w w' : World} {base : Nat} {e : TypeId} {size : Nat} {v : Value} {n : Nat} {xs : List Value} (h : w.ownsRow base e size v n xs) (hb : Below w.heap.size w w') : w'.ownsRow base e size v n xs := by
  refine ⟨h.1, h.2.imp id ?_⟩
  rintro ⟨g, cap, cur, e1, e2, e3, r⟩
  have hlt : g < w.heap.size := by
    rcases Nat.lt_or_ge g w.heap.size with hl | hl
    · exact hl
    · rw [Array.getElem?_eq_none hl] at e3; cases e3
  exact ⟨g, cap, cur, e1, e2, by rw [hb.block g hlt, e3], r⟩
theorem wrap_u64_nonneg (a : Int) : 0 ≤ IntKind.u64.wrap a := by
  have h : IntKind.u64.wrap a = a % 18446744073709551616 := by simp [IntKind.wrap, IntKind.bits, IntKind.signed]
  rw [h]; omega
/-- the place: what an int leaves by the length, reckoned without a sign -/
theorem place_of (at' : Int) (n : Nat) (hn : 0 < n) : ∃ (U : Int) (j : Nat), 0 ≤ U ∧ j < n ∧ IntKind.u64.wrap at' = U ∧ U % (n : Int) = j ∧ U.tmod (n : Int) = j := by
  have h0 := wrap_u64_nonneg at'
  have h1 := Int.emod_nonneg (IntKind.u64.wrap at') (show (n : Int) ≠ 0 by omega)
  have h2 := Int.emod_lt_of_pos (IntKind.u64.wrap at') (show (0 : Int) < n by omega)
  refine ⟨_, (IntKind.u64.wrap at' % (n : Int)).toNat, h0, by omega, rfl, by omega, ?_⟩
  rw [Int.tmod_eq_emod_of_nonneg h0]; omega
end Go.Proofs.Ytfaekhbofgkdjaa
