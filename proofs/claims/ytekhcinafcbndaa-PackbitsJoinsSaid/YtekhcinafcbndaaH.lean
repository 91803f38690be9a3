/- The walks of PackbitsAgain and PackbitsJoins. -/
import Derived.Test.YtekhcinafcbndaaG
namespace Go.Proofs.Ytekhcinafcbndaa
open Go.RowKit

theorem bd_append {xs ys : List Int} (h : ∀ x ∈ xs, 0 ≤ x ∧ x ≤ 255) (k : ∀ x ∈ ys, 0 ≤ x ∧ x ≤ 255) : ∀ x ∈ xs ++ ys, 0 ≤ x ∧ x ≤ 255 := fun x hx => (List.mem_append.1 hx).elim (h x) (k x)

set_option maxRecDepth 10000 in
set_option maxHeartbeats 1000000 in
theorem again_walk (A C : Option Addr) (n c m d : Nat) (at' : Int) (xs zs : List Int) (w : World) (hb : Bs w w.heap.size A n xs) (hd : Bs w w.heap.size C m zs) (hc : n ≤ c) (hn' : n ≤ maxLen) (hm' : m ≤ maxLen) :
    Calls Try.prog 5 #[.slice A n c, .slice C m d, .int .i64 at'] w fun e w' => e = .returned (.bool true) ∧ Below w.heap.size w w' := by
  unfold maxLen at hn' hm'
  have HB := Lib.hid hb
  have HD := Lib.hid hd
  clear hb hd
  obtain ⟨i0, hi, hz0, hz1, hz2⟩ := info_parts info5
  by_cases hn : 2000 < n
  · go_enter Try.func5, Try.ntmps5
    go_wp2_with fail
    refine (lives_any _).mono ?_
    rintro e w1 ⟨rfl, hb1⟩
    go_wp2_with fail
    refine (lives_any _).mono ?_
    rintro e w2 ⟨rfl, hb2⟩
    go_wp2
    go_ret
    exact ⟨rfl, hb1.trans (hb2.mono hb1.size)⟩
  by_cases hm : 50 < m
  · go_enter Try.func5, Try.ntmps5
    go_wp2_with fail
    refine (lives_any _).mono ?_
    rintro e w1 ⟨rfl, hb1⟩
    go_wp2_with fail
    refine (lives_any _).mono ?_
    rintro e w2 ⟨rfl, hb2⟩
    go_wp2
    go_ret
    exact ⟨rfl, hb1.trans (hb2.mono hb1.size)⟩
  go_enter Try.func5, Try.ntmps5
  go_wp2_with fail
  refine (lives_any _).mono ?_
  rintro e w1 ⟨rfl, hb1⟩
  have HB1 := Lib.hid (HB.out.below hb1)
  have HD1 := Lib.hid (HD.out.below hb1)
  have hs1 := hb1.size
  go_wp2_with fail
  refine (encode_any _ _ _ _ _ _ HB1.out hc (by omega) hs1).mono ?_
  rintro e w2 ⟨A2, m2, c2, x, rfl, hc2, own2, hx, hpk, hlen, hbel2⟩
  have hb2 := Lib.hid (hb1.trans (hbel2.mono hs1))
  have HX2 := Lib.hid (Bs.of_own own2 hx)
  have HPK := Lib.hid hpk
  have HX := Lib.hid hx
  have hs2 := hb2.out.size
  clear hbel2 own2 hx hpk
  have hw0 : (w2.alloc (.cells #[] 5)).ownsRow w2.heap.size 5 1 (.slice (some ⟨w2.heap.size, 0, none⟩) 0 0) 0 (([] : List Int).map (Value.int .u8)) :=
    World.ownsRow_made w2 #[] 0 (Nat.le_refl _) (by unfold maxLen; omega) (by simp)
  have hb3 : Below w.heap.size w (w2.alloc (.cells #[] 5)) := hb2.out.alloc hs2 _
  have hc3 : Below w2.heap.size w2 (w2.alloc (.cells #[] 5)) := (Below.refl _ _).alloc (Nat.le_refl _) _
  go_wp2_with (first
    | (at_builtin; refine wpList_append_bs _ rfl (.tmp 29) (.tmp 30) _ rfl w2.heap.size 5 i0 _ Try.underlying22 hi hz0 hz1 hz2 rfl _ 0 [] rfl hw0 w2.heap.size A2 m2 c2 x rfl (HX2.out.alloc (Nat.le_refl _) _) (by omega) (by simp) ?_; intro A3 c3 w3 own3 h3 h3' g3 l3; simp only [Nat.zero_add, List.nil_append] at own3 h3 g3 l3; have hb4 := Lib.hid (below_append hb3 hw0 hs2 (by simp; omega) g3); have hc4 := Lib.hid (below_append hc3 hw0 (Nat.le_refl _) (by simp) g3))
    | (at_builtin; refine wpList_append_bs _ rfl (.tmp 31) (.tmp 32) _ rfl w2.heap.size 5 i0 _ Try.underlying22 hi hz0 hz1 hz2 rfl _ m2 x rfl own3 w.heap.size C m d zs rfl (HD.out.below hb4.out) (by omega) hc4.out.size ?_; intro A4 c4 w4 own4 h4 h4' g4 l4; have hb5 := Lib.hid (below_append hb4.out own3 hs2 hb4.out.size g4); have hc5 := Lib.hid (below_append hc4.out own3 (Nat.le_refl _) hc4.out.size g4)))
  have HO4 := Lib.hid (Bs.of_own own4 (bd_append HX.out HD.out.2.1))
  have HRES : Hid (Pb.res n (x ++ zs) = (xs, (m2 : Int), 0)) := Lib.hid (by have := pk_res HPK.out zs; rw [HB.out.1, HX2.out.1] at this; exact this)
  clear own3 own4 g3 g4 l3 l4 hw0 hb3 hc3 hb4 hc4
  refine (decode_is HRES.out HO4.out h4 (by omega) (by omega) (Nat.le_refl _)).mono ?_
  rintro e w5 ⟨A5, m5, c5, rfl, hr5, hbel5⟩
  have hb6 := Lib.hid (hb5.out.trans (hbel5.mono hb5.out.size))
  have hs6 := hb6.out.size
  have HX6 := Lib.hid ((HX2.out.below hc5.out).below (hbel5.mono hc5.out.size))
  have hs62 := Nat.le_trans hc5.out.size hbel5.size
  have k1 := (HB.out.below hb6.out).run_string (P := Try.prog) Try.underlying22 Try.underlying5 Try.underlying9 c
  have k2 := hr5.run_string (P := Try.prog) Try.underlying22 Try.underlying5 Try.underlying9 c5
  clear hr5 hbel5
  by_cases h0 : n = 0
  · subst h0
    have hx0 : m2 = 0 := by
      have := HPK.out
      rw [List.eq_nil_of_length_eq_zero HB.out.1] at this
      have := this.none_
      rw [← HX2.out.1, this]; rfl
    subst hx0
    go_wp2
    go_ret
    exact ⟨rfl, hb6.out⟩
  · have hpos : 0 < m2 := by
      have := HPK.out.some_ (fun h => h0 (by rw [← HB.out.1, h]; rfl))
      rw [HX2.out.1] at this; exact this
    have hne : ((n : Int) == 0) = false := by simp; omega
    obtain ⟨U, j, u0, hj, hU, hj1, hj2⟩ := place_of at' m2 hpos
    have HRC : Hid (Pb.res n (x.take j) = ([], 0, 2)) := Lib.hid (by have := pk_res_cut HPK.out (m := j) (by rw [HX2.out.1]; exact hj); rw [HB.out.1] at this; exact this)
    have hjc : (j : Int) ≤ (c2 : Int) := by omega
    go_wp2_with fail
    refine (decode_is HRC.out (HX6.out.take (by omega)) (by omega) (by omega) (by omega) hs62).mono ?_
    rintro e w7 ⟨A7, m7, c7, rfl, hr7, hbel7⟩
    have hm7 : m7 = 0 := by rw [← hr7.1]; rfl
    subst hm7
    go_wp2
    go_ret
    exact ⟨rfl, hb6.out.trans (hbel7.mono hs6)⟩
end Go.Proofs.Ytekhcinafcbndaa
