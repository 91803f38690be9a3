/- The program's run: how many bytes at a beginning are alike. -/
import Derived.Test.YtekhcinafcbndaaProg
import Derived.Test.YtekhcinafcbndaaMath
import Derived.Test.YtekhcinafcbndaaWords
import Derived.Test.YtekhcinafcbndaaAppend
import Derived.WalkKit
import Derived.WalkLawsBesides
import Derived.WalkSpells
import Derived.Lib.Hide
import Derived.Deep.QuietTactic
import Derived.BigQuiet
import Derived.Outline
namespace Go.Proofs.Ytekhcinafcbndaa
open Go.RowKit

theorem run_more {xs : List Int} {k : Nat} (h : ∀ j, j < k → xs.getD j 0 = xs.getD 0 0) (he : xs.getD k 0 = xs.getD 0 0) : ∀ j, j < k + 1 → xs.getD j 0 = xs.getD 0 0 := fun j hj => by
  rcases Nat.lt_or_ge j k with h1 | h1
  · exact h j h1
  · obtain rfl : j = k := by omega
    exact he
theorem run_stop {xs : List Int} {n k : Nat} (hn : xs.length = n) (hk : k ≤ n) (hk' : k ≤ 128) (h : ∀ j, j < k → xs.getD j 0 = xs.getD 0 0) (he : k = n ∨ k = 128 ∨ xs.getD k 0 ≠ xs.getD 0 0) : k = Pb.run xs :=
  (Pb.runF_eq 128 k _ xs h (by omega) hk' (by rcases he with h | h | h <;> simp_all)).symm

set_option maxRecDepth 10000 in
set_option maxHeartbeats 400000 in
theorem run_any (A : Option Addr) (n c B : Nat) (xs : List Int) (w : World) (hb : Bs w B A n xs) (hn : n ≤ 8000) :
    Calls Try.prog 12 #[.slice A n c] w fun e w' => e = .returned (.int .i64 (Pb.run xs : Nat)) ∧ ∃ m, w' = w.drewN m := by
  have HB := Lib.hid hb
  clear hb
  go_enter Try.func12, Try.ntmps12
  go_wp2
  go_loopw [3] (fun i wr => ∃ k m : Nat, i = .int .i64 k ∧ k ≤ n ∧ k ≤ 128 ∧ wr = w.drewN m ∧ Hid (∀ j, j < k → xs.getD j 0 = xs.getD 0 0)) (fun i _ => 128 - (intOf i).toNat)
  case atStart => exact ⟨0, 0, rfl, by omega, by omega, rfl, Lib.hid (fun j hj => by omega)⟩
  case round =>
    obtain ⟨k, m, rfl, hk, hk', rfl, HE⟩ := hrel
    have stop : (k = n ∨ k = 128 ∨ xs.getD k 0 ≠ xs.getD 0 0) → ∀ q, Ending.returned (Value.int .i64 (k : Int)) = .returned (.int .i64 (Pb.run xs : Nat)) ∧ ∃ m', (w.drewN m).drewN q = w.drewN m' := fun he q =>
      ⟨by rw [← run_stop HB.out.1 hk hk' HE.out he], m + q, by rw [World.drewN_drewN]⟩
    have STOP := Lib.hid stop
    clear stop
    by_cases h1 : k < n
    · by_cases h2 : k < 128
      · obtain ⟨z, hz⟩ : ∃ z, z = xs.getD k 0 := ⟨_, rfl⟩
        obtain ⟨y, hy⟩ : ∃ y, y = xs.getD 0 0 := ⟨_, rfl⟩
        obtain ⟨b, off, hA, _, hcell⟩ := HB.out.at_ h1
        obtain ⟨b', off', hA', _, hcell0⟩ := HB.out.at_ (show 0 < n by omega)
        rw [← hz] at hcell
        rw [← hy, Nat.add_zero] at hcell0
        rw [hA] at hA'
        injection hA' with hA'
        injection hA' with e1 e2
        subst e1 e2 hA
        have HZ := Lib.hid hz
        have HY := Lib.hid hy
        clear hz hy
        have d1 : decide ((k : Int) < (n : Int)) = true := by simp; omega
        have d2 : decide ((k : Int) < 128) = true := by simp; omega
        go_wp2_with fail
        go_quiet (fail)
        go_wp2
        · have he : (z == y) = true := by assumption
          go_roundw
          case rel =>
            refine ⟨k + 1, m + nq, by go_num, by omega, by omega, rfl, Lib.hid (run_more HE.out ?_)⟩
            rw [← HZ.out, ← HY.out]; simpa using he
          case measure => simp [intOf]; omega
        · have he : (z == y) = false := by assumption
          go_ret
          refine STOP.out (.inr (.inr ?_)) _
          rw [← HZ.out, ← HY.out]; simpa using he
      · have d1 : decide ((k : Int) < (n : Int)) = true := by simp; omega
        have d2 : decide ((k : Int) < 128) = false := by simp; omega
        go_wp2_with fail
        go_quiet (fail)
        go_wp2
        go_ret
        exact STOP.out (.inr (.inl (by omega))) _
    · go_wp2_with fail
      go_quiet (fail)
      go_wp2
      go_ret
      exact STOP.out (.inl (by omega)) _
end Go.Proofs.Ytekhcinafcbndaa
