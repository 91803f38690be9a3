/- The walk of the statement on three texts. -/
import Derived.Test.YteohinhiemibgaaC
namespace Go.Proofs.Yteohinhiemibgaa
open Go.RowKit

set_option maxHeartbeats 1000000 in
theorem three_walk (A B D : Option Addr) (n m k c d f : Nat) (xs ys zs : List Int) (w : World) (ha : Bs w w.heap.size A n xs) (hb : Bs w w.heap.size B m ys) (hd : Bs w w.heap.size D k zs)
    (hn : n ≤ 140737488351232) (hm : m ≤ 140737488351232) (hk : k ≤ 140737488351232) :
    Calls Try.prog 7 #[.slice A n c, .slice B m d, .slice D k f] w fun e w' => e = .returned (.bool true) ∧ Below w.heap.size w w' := by
  have HA := Lib.hid ha
  have HB := Lib.hid hb
  have HD := Lib.hid hd
  clear ha hb hd
  obtain ⟨i0, hi, hz0, hz1, hz2⟩ := info_parts info5
  by_cases hl : 3000 < n + m + k
  · go_enter Try.func7, Try.ntmps7
    go_wp2_with fail
    refine (lives_any _).mono ?_
    rintro e w1 ⟨rfl, hb1⟩
    go_wp2_with fail
    refine (lives_any _).mono ?_
    rintro e w2 ⟨rfl, hb2⟩
    go_wp2
    go_ret
    exact ⟨rfl, hb1.trans (hb2.mono hb1.size)⟩
  · go_enter Try.func7, Try.ntmps7
    go_wp2_with fail
    refine (lives_any _).mono ?_
    rintro e w1 ⟨rfl, hb1⟩
    have HA1 := Lib.hid (HA.out.below hb1)
    have HB1 := Lib.hid (HB.out.below hb1)
    have HD1 := Lib.hid (HD.out.below hb1)
    have hs1 := hb1.size
    obtain ⟨X, x0, x1, HX⟩ := sum_name xs
    obtain ⟨Y, y0, y1, HY⟩ := sum_name ys
    obtain ⟨Z, z0, z1, HZ⟩ := sum_name zs
    obtain ⟨XY, p0, p1, HXY⟩ := sum_name (xs ++ ys)
    obtain ⟨YZ, q0, q1, HYZ⟩ := sum_name (ys ++ zs)
    obtain ⟨S, s0, s1, HS⟩ := sum_name (xs ++ ys ++ zs)
    obtain ⟨E, e0, e1, HE⟩ := sum_name []
    have HU : Hid (Adl.adl X ys = XY) := Lib.hid (by rw [← HX.out, ← HXY.out]; exact Adl.adl_append 1 xs ys)
    have HV : Hid (Adl.adl XY zs = S) := Lib.hid (by rw [← HXY.out, ← HS.out]; exact Adl.adl_append 1 (xs ++ ys) zs)
    have HJ1 : Hid (Adl.join X Y m = XY) := Lib.hid (by rw [← HX.out, ← HY.out, ← HXY.out]; exact Adl.join_adl xs ys m (by rw [HB.out.1]))
    have HJ2 : Hid (Adl.join XY Z k = S) := Lib.hid (by rw [← HXY.out, ← HZ.out, ← HS.out]; exact Adl.join_adl (xs ++ ys) zs k (by rw [HD.out.1]))
    have HJ3 : Hid (Adl.join Y Z k = YZ) := Lib.hid (by rw [← HY.out, ← HZ.out, ← HYZ.out]; exact Adl.join_adl ys zs k (by rw [HD.out.1]))
    have HJ4 : Hid (Adl.join X YZ ((m : Int) + k) = S) := Lib.hid (by rw [← HX.out, ← HYZ.out, ← HS.out, List.append_assoc]; exact Adl.join_adl xs (ys ++ zs) _ (by rw [List.length_append, HB.out.1, HD.out.1]; omega))
    have HJ5 : Hid (Adl.join X E 0 = X) := Lib.hid (by rw [← HX.out, ← HE.out]; exact Adl.join_nothing xs)
    have hw0 : (w1.alloc (.cells #[] 5)).ownsRow w1.heap.size 5 1 (.slice (some ⟨w1.heap.size, 0, none⟩) 0 0) 0 (([] : List Int).map (Value.int .u8)) :=
      World.ownsRow_made w1 #[] 0 (Nat.le_refl _) (by unfold maxLen; omega) (by simp)
    have hb2 : Below w.heap.size w (w1.alloc (.cells #[] 5)) := hb1.alloc hs1 _
    go_wp2_with fail
    refine (sum_is HX.out HA1.out (by omega)).mono ?_
    rintro e w' ⟨rfl, rfl⟩
    go_wp2_with fail
    refine (sum_is HY.out HB1.out (by omega)).mono ?_
    rintro e w' ⟨rfl, rfl⟩
    go_wp2_with fail
    refine (sum_is HZ.out HD1.out (by omega)).mono ?_
    rintro e w' ⟨rfl, rfl⟩
    go_wp2_with (first
      | (at_builtin; refine wpList_append_bs _ rfl (.tmp 39) (.tmp 40) _ rfl w1.heap.size 5 i0 _ Try.underlying23 hi hz0 hz1 hz2 rfl _ 0 [] rfl hw0 w.heap.size A n c xs rfl (HA1.out.alloc hs1 _) (by omega) (by simp) ?_; intro A2 c2 w2 own2 h2 h2' g2 l2; simp only [Nat.zero_add, List.nil_append] at own2 h2 g2 l2; have hb3 := Lib.hid (below_append hb2 hw0 hs1 (by simp; omega) g2))
      | (at_builtin; refine wpList_append_bs _ rfl (.tmp 41) (.tmp 42) _ rfl w1.heap.size 5 i0 _ Try.underlying23 hi hz0 hz1 hz2 rfl _ n xs rfl own2 w.heap.size B m d ys rfl (HB.out.below hb3.out) (by omega) (by have := g2.size; simp at this; omega) ?_; intro A3 c3 w3 own3 h3 h3' g3 l3; have hb4 := Lib.hid (below_append hb3.out own2 hs1 hb3.out.size g3))
      | (at_builtin; refine wpList_append_bs _ rfl (.tmp 43) (.tmp 44) _ rfl w1.heap.size 5 i0 _ Try.underlying23 hi hz0 hz1 hz2 rfl _ (n + m) (xs ++ ys) rfl own3 w.heap.size D k f zs rfl (HD.out.below hb4.out) (by omega) (by have := g2.size; have := g3.size; simp at *; omega) ?_; intro A4 c4 w4 own4 h4 h4' g4 l4; have hb5 := Lib.hid (below_append hb4.out own3 hs1 hb4.out.size g4)))
    have HA4 := Lib.hid (HA.out.below hb5.out)
    have HB4 := Lib.hid (HB.out.below hb5.out)
    have HD4 := Lib.hid (HD.out.below hb5.out)
    have HC := Lib.hid (Bs.of_own own4 (fun x hx => (List.mem_append.1 hx).elim (fun h => (List.mem_append.1 h).elim (HA.out.2.1 x) (HB.out.2.1 x)) (HD.out.2.1 x)))
    clear own2 own3 own4 g2 g3 g4 l2 l3 l4 hw0
    refine (sum_is HS.out HC.out (by omega)).mono ?_
    rintro e w' ⟨rfl, rfl⟩
    go_wp2_with fail
    refine (join_is HJ1.out x0 x1 y0 y1 (by omega) (by omega)).mono ?_
    rintro e w' ⟨rfl, rfl⟩
    go_wp2_with fail
    refine (join_is HJ2.out p0 p1 z0 z1 (by omega) (by omega)).mono ?_
    rintro e w' ⟨rfl, rfl⟩
    go_wp2_with fail
    refine (join_is HJ3.out y0 y1 z0 z1 (by omega) (by omega)).mono ?_
    rintro e w' ⟨rfl, rfl⟩
    go_wp2_with fail
    refine (join_is HJ4.out x0 x1 q0 q1 (by omega) (by omega)).mono ?_
    rintro e w' ⟨rfl, rfl⟩
    go_wp2_with fail
    refine (sum_is HE.out (Bs.nil _ 0 _) (by omega)).mono ?_
    rintro e w' ⟨rfl, rfl⟩
    go_wp2_with fail
    refine (join_is HJ5.out x0 x1 e0 e1 (by omega) (by omega)).mono ?_
    rintro e w' ⟨rfl, rfl⟩
    go_wp2_with fail
    refine (update_is HU.out x0 x1 HB4.out (by omega)).mono ?_
    rintro e w' ⟨rfl, rfl⟩
    go_wp2_with fail
    refine (update_is HV.out p0 p1 HD4.out (by omega)).mono ?_
    rintro e w' ⟨rfl, rfl⟩
    go_wp2
    go_ret
    exact ⟨rfl, hb5.out⟩
