/- The walk of LzExpands. -/
import Derived.Test.YtfaekhbofgkdjaaG
import Derived.Test.YtfaekhbofgkdjaaU
namespace Go.Proofs.Ytfaekhbofgkdjaa
open Go.RowKit

/-- string(..) of a slice of bytes, in the worlds that come -/
theorem convs {w : World} {B : Nat} {A : Option Addr} {n : Nat} {xs : List Int} (h : Bs w B A n xs) (c : Nat) : ∀ m, (convert 22 9 (.slice A n c)).run Try.prog (w.drewN m) = .ok (.string (strOfNums xs)) (w.drewN m) := fun m => conv_of (h.drewN m) c

set_option maxRecDepth 10000 in
set_option maxHeartbeats 2000000 in
theorem expands_walk (A : Option Addr) (n c : Nat) (most : Int) (ts : List Lz.Tok) (w : World) (ht : Ts w w.heap.size A n ts) (hn' : n ≤ maxLen) (hm0 : -9223372036854775808 ≤ most) (hm1 : most ≤ 9223372036854775807) :
    Calls Try.prog 4 #[.slice A n c, .int .i64 most] w fun e w' => e = .returned (.bool true) ∧ Below w.heap.size w w' := by
  unfold maxLen at hn'
  have HA := Lib.hid ht
  clear ht
  obtain ⟨i0, hi, hz0, hz1, hz2⟩ := info_parts info33
  by_cases hn : 100 < n
  · go_enter Try.func4, Try.ntmps4
    go_wp2_with fail
    refine (lives_any _).mono ?_
    rintro e w1 ⟨rfl, hb1⟩
    go_wp2_with fail
    refine (lives_any _).mono ?_
    rintro e w2 ⟨rfl, hb2⟩
    go_wp2
    go_ret
    exact ⟨rfl, hb1.trans (hb2.mono hb1.size)⟩
  by_cases hmost : 100000 < most
  · go_enter Try.func4, Try.ntmps4
    go_wp2_with fail
    refine (lives_any _).mono ?_
    rintro e w1 ⟨rfl, hb1⟩
    go_wp2_with fail
    refine (lives_any _).mono ?_
    rintro e w2 ⟨rfl, hb2⟩
    go_wp2
    go_ret
    exact ⟨rfl, hb1.trans (hb2.mono hb1.size)⟩
  obtain ⟨er, ys, hexp⟩ : ∃ er ys, Lz.exp ts [] most = (er, ys) := ⟨_, _, rfl⟩
  have HE := Lib.hid hexp
  clear hexp
  go_enter Try.func4, Try.ntmps4
  go_wp2_with fail
  refine (lives_any _).mono ?_
  rintro e w1 ⟨rfl, hb1⟩
  have HA1 := Lib.hid (HA.out.below hb1)
  have hs1 := hb1.size
  have hw0 : (w1.alloc (.cells #[] 33)).ownsRow w1.heap.size 33 3 (.slice (some ⟨w1.heap.size, 0, none⟩) 0 0) 0 (cellsOf []) :=
    World.ownsRow_made w1 #[] 0 (Nat.le_refl _) (by unfold maxLen; omega) (by simp)
  have hb2 : Below w.heap.size w (w1.alloc (.cells #[] 33)) := hb1.alloc hs1 _
  go_wp2_with (first
    | (at_builtin; refine wpList_append_ts _ rfl (.tmp 23) (.tmp 24) _ rfl w1.heap.size 33 i0 _ Try.underlying24 hi hz0 hz1 hz2 rfl _ 0 [] rfl hw0 w.heap.size A n c ts rfl (HA1.out.alloc hs1 _) (by omega) (by simp) ?_; intro A2 c2 w2 own2 h2 h2' g2 l2; simp only [Nat.zero_add, List.nil_append] at own2 h2 g2 l2; have hb3 := Lib.hid (below_append3 hb2 hw0 hs1 (by simp; omega) g2)))
  have HO2 := Lib.hid (Ts.of_own own2 HA.out.2.1)
  have hs2 := hb3.out.size
  clear own2 g2 l2 hw0 hb1 hb2 HA1
  refine (expand_is HE.out HO2.out (by omega) (Nat.le_refl _) (by omega) (by omega)).mono ?_
  rintro e w3 ⟨A3, m3, c3, rfl, hr3, hbel3⟩
  have hb4 := Lib.hid (hb3.out.trans (hbel3.mono hs2))
  have hs4 := hb4.out.size
  have HO3 := Lib.hid (HO2.out.below hbel3)
  have HR3 := Lib.hid hr3
  have HA3 := Lib.hid (HA.out.below hb4.out)
  have hs23 := hbel3.size
  clear hr3 hbel3
  go_wp2_with fail
  refine (refexp_is HE.out HA3.out (by omega) hs4 (by omega) (by omega)).mono ?_
  rintro e w5 ⟨rfl, hbel5⟩
  have hb6 := Lib.hid (hb4.out.trans (hbel5.mono hs4))
  have HO5 := Lib.hid (HO3.out.below (hbel5.mono hs23))
  have HA5 := Lib.hid (HA.out.below hb6.out)
  have k3 := convs (HR3.out.below hbel5) c3
  clear hbel5
  go_wp2_with fail
  go_loopw [40] (fun i wr => ∃ k q : Nat, i = .int .i64 k ∧ k ≤ n ∧ wr = w5.drewN q) (fun i _ => n - (intOf i).toNat)
  case atStart => exact ⟨0, 0, rfl, by omega, rfl⟩
  case round =>
    obtain ⟨k, q, rfl, hk, rfl⟩ := hrel
    by_cases hkn : k < n
    · obtain ⟨b, off, ⟨u, l, d⟩, hA, _, htk, _, c0, c1, c2'⟩ := HA5.out.at_ hkn
      obtain ⟨b', off', ⟨u', l', d'⟩, hA', _, htk', _, d0, d1, d2'⟩ := HO5.out.at_ hkn
      rw [htk] at htk'
      injection htk' with htk'
      injection htk' with e1 e2 e3
      subst e1 e2 e3
      simp only at c0 c1 c2' d0 d1 d2'
      subst hA hA'
      clear htk
      go_wp2_with fail
      go_quiet (fail)
      go_wp2_with fail
      go_roundw
      case rel => exact ⟨k + 1, q + nq, by go_num, by omega, rfl⟩
      case measure => simp [intOf]; omega
    · go_wp2
      go_ret
      exact ⟨rfl, below_drewN hb6.out _⟩
end Go.Proofs.Ytfaekhbofgkdjaa
