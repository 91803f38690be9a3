/- The walk of LzTokens. -/
import Derived.Test.YtfaekhbofgkdjaaG
namespace Go.Proofs.Ytfaekhbofgkdjaa
open Go.RowKit

theorem info5b : (Try.prog.info? 5).map (fun i => (i.zero, i.size, i.bytes)) = some (some (.int .u8 0), 1, 1) := info5

set_option maxRecDepth 10000 in
set_option maxHeartbeats 2000000 in
theorem tokens_walk (A : Option Addr) (n c : Nat) (xs : List Int) (w : World) (hb : Bs w w.heap.size A n xs) (hn' : n ≤ maxLen) :
    Calls Try.prog 5 #[.slice A n c] w fun e w' => e = .returned (.bool true) ∧ Below w.heap.size w w' := by
  unfold maxLen at hn'
  have HA := Lib.hid hb
  clear hb
  obtain ⟨i0, hi, hz0, hz1, hz2⟩ := info_parts info5
  by_cases hn : 2000 < n
  · go_enter Try.func5, Try.ntmps5
    go_wp2_with fail
    refine (lives_any _).mono ?_
    rintro e w1 ⟨rfl, hb1⟩
    go_wp2_with fail
    refine (lives_any _).mono ?_
    rintro e w2 ⟨rfl, hb2⟩
    go_wp2
    go_ret
    exact ⟨rfl, hb1.trans (hb2.mono hb1.size)⟩
  go_enter Try.func5, Try.ntmps5
  go_wp2_with fail
  refine (lives_any _).mono ?_
  rintro e w1 ⟨rfl, hb1⟩
  have HA1 := Lib.hid (HA.out.below hb1)
  have hs1 := hb1.size
  have hw0 : (w1.alloc (.cells #[] 5)).ownsRow w1.heap.size 5 1 (.slice (some ⟨w1.heap.size, 0, none⟩) 0 0) 0 (([] : List Int).map (Value.int .u8)) :=
    World.ownsRow_made w1 #[] 0 (Nat.le_refl _) (by unfold maxLen; omega) (by simp)
  have hb2 : Below w.heap.size w (w1.alloc (.cells #[] 5)) := hb1.alloc hs1 _
  go_wp2_with (first
    | (at_builtin; refine wpList_append_bs _ rfl (.tmp 17) (.tmp 18) _ rfl w1.heap.size 5 i0 _ Try.underlying22 hi hz0 hz1 hz2 rfl _ 0 [] rfl hw0 w.heap.size A n c xs rfl (HA1.out.alloc hs1 _) (by omega) (by simp) ?_; intro A2 c2 w2 own2 h2 h2' g2 l2; simp only [Nat.zero_add, List.nil_append] at own2 h2 g2 l2; have hb3 := Lib.hid (below_append hb2 hw0 hs1 (by simp; omega) g2)))
  have HO2 := Lib.hid (Bs.of_own own2 HA.out.2.1)
  have hs2 := hb3.out.size
  clear own2 g2 l2 hw0 hb1 hb2 HA1
  refine (tokens_any _ _ _ _ _ _ HO2.out h2 (by omega) (Nat.le_refl _)).mono ?_
  rintro e w3 ⟨A3, m3, c3, ts, rfl, hc3, hm3, own3, hts, htk, hbel3⟩
  have hb4 := Lib.hid (hb3.out.trans (hbel3.mono hs2))
  have hs4 := hb4.out.size
  have hs23 := hbel3.size
  have HT3 := Lib.hid (Ts.of_own own3 (fun t ht => (hts t ht).1))
  have HX3 := Lib.hid (HO2.out.below hbel3)
  have HTS := Lib.hid hts
  have HE : Hid (Lz.exp ts [] n = (0, xs)) := Lib.hid ((htk [] _).1 (by rw [HA.out.1]; simp))
  clear own3 hts htk hbel3
  go_wp2_with fail
  refine (refexp_is HE.out HT3.out (by omega) (Nat.le_refl _) (by omega) (by omega)).mono ?_
  rintro e w5 ⟨rfl, hbel5⟩
  have hb6 := Lib.hid (hb4.out.trans (hbel5.mono hs4))
  have HT5 := Lib.hid (HT3.out.below hbel5)
  have HX5 := Lib.hid (HX3.out.below (hbel5.mono hs23))
  have hs35 := hbel5.size
  have hs6 := hb6.out.size
  clear hbel5
  go_wp2_with fail
  go_loopw [31] (fun i wr => ∃ k : Nat, i = .int .i64 k ∧ k ≤ m3 ∧ Hid (Below w5.heap.size w5 wr)) (fun i _ => m3 - (intOf i).toNat)
  case atStart => exact ⟨0, rfl, by omega, Lib.hid (Below.refl _ _)⟩
  case round =>
    obtain ⟨k, rfl, hk, HW⟩ := hrel
    by_cases hkm : k < m3
    · obtain ⟨b, off, ⟨u, l, d⟩, hA, hbB, htk, hok, c0, c1, c2'⟩ := (HT5.out.below (HW.out.mono hs35)).at_ hkm
      have hcan := (HTS.out _ (List.mem_of_getElem? htk)).2
      obtain ⟨hcan1, hcan2⟩ := hcan
      simp only at c0 c1 c2' hcan1 hcan2
      subst hA
      have hsr := HW.out.size
      by_cases hl0 : l = 0
      · subst hl0
        obtain rfl : d = 0 := hcan1 rfl
        clear hcan1 hcan2 htk
        go_wp2_with fail
        go_roundw
        case rel => exact ⟨k + 1, by go_num, by omega, Lib.hid (HW.out.alloc hsr _)⟩
        case measure => simp [intOf]; omega
      · obtain rfl : u = 0 := hcan2 hl0
        clear hcan1 hcan2 htk
        have hne : (l == 0) = false := by simp; omega
        go_wp2_with fail
        go_roundw
        case rel => exact ⟨k + 1, by go_num, by omega, Lib.hid (HW.out.alloc hsr _)⟩
        case measure => simp [intOf]; omega
    · have hb7 := Lib.hid (hb6.out.trans (HW.out.mono hs6))
      have k1 := conv_of (HA.out.below hb7.out) c
      have k2 := conv_of (HX5.out.below (HW.out.mono (Nat.le_trans hs23 hs35))) c2
      go_wp2
      go_ret
      exact ⟨rfl, hb7.out⟩
end Go.Proofs.Ytfaekhbofgkdjaa
