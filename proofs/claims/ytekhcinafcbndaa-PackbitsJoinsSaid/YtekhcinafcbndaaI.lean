/- The walk of PackbitsJoins. -/
import Derived.Test.YtekhcinafcbndaaH
namespace Go.Proofs.Ytekhcinafcbndaa
open Go.RowKit

set_option maxRecDepth 10000 in
set_option maxHeartbeats 1000000 in
theorem joins_walk (A C D : Option Addr) (n c m d k f : Nat) (xs ys zs : List Int) (w : World) (hb : Bs w w.heap.size A n xs) (hd : Bs w w.heap.size C m ys) (hf : Bs w w.heap.size D k zs) (hc : n ≤ c) (hdc : m ≤ d)
    (hn' : n ≤ 140737488351232) (hm' : m ≤ 140737488351232) (hk' : k ≤ 140737488351232) :
    Calls Try.prog 6 #[.slice A n c, .slice C m d, .slice D k f] w fun e w' => e = .returned (.bool true) ∧ Below w.heap.size w w' := by
  have HA := Lib.hid hb
  have HB := Lib.hid hd
  have HC := Lib.hid hf
  clear hb hd hf
  obtain ⟨i0, hi, hz0, hz1, hz2⟩ := info_parts info5
  by_cases hn : 3000 < n + m
  · go_enter Try.func6, Try.ntmps6
    go_wp2_with fail
    refine (lives_any _).mono ?_
    rintro e w1 ⟨rfl, hb1⟩
    go_wp2_with fail
    refine (lives_any _).mono ?_
    rintro e w2 ⟨rfl, hb2⟩
    go_wp2
    go_ret
    exact ⟨rfl, hb1.trans (hb2.mono hb1.size)⟩
  by_cases hk : 100 < k
  · go_enter Try.func6, Try.ntmps6
    go_wp2_with fail
    refine (lives_any _).mono ?_
    rintro e w1 ⟨rfl, hb1⟩
    go_wp2_with fail
    refine (lives_any _).mono ?_
    rintro e w2 ⟨rfl, hb2⟩
    go_wp2
    go_ret
    exact ⟨rfl, hb1.trans (hb2.mono hb1.size)⟩
  go_enter Try.func6, Try.ntmps6
  go_wp2_with fail
  refine (lives_any _).mono ?_
  rintro e w1 ⟨rfl, hb1⟩
  have HA1 := Lib.hid (HA.out.below hb1)
  have HB1 := Lib.hid (HB.out.below hb1)
  have hs1 := hb1.size
  go_wp2_with fail
  refine (encode_any _ _ _ _ _ _ HA1.out hc (by omega) hs1).mono ?_
  rintro e w2 ⟨A2, m2, c2, x, rfl, hc2, own2, hx, hpk, hlen, hbel2⟩
  have hb2 := Lib.hid (hb1.trans (hbel2.mono hs1))
  have HO2 := Lib.hid own2
  have HPX := Lib.hid hpk
  have HX := Lib.hid hx
  have hs2 := hb2.out.size
  have hs12 := hbel2.size
  have HB2 := Lib.hid (HB.out.below hb2.out)
  clear hbel2 own2 hx hpk
  go_wp2_with fail
  refine (encode_any _ _ _ _ _ _ HB2.out hdc (by omega) hs2).mono ?_
  rintro e w3 ⟨A3, m3, c3, y, rfl, hc3, own3, hy, hpk, hlen3, hbel3⟩
  have hb3 := Lib.hid (hb2.out.trans (hbel3.mono hs2))
  have HO23 := Lib.hid (own_below HO2.out hbel3)
  have HY3 := Lib.hid (Bs.of_own own3 hy)
  have HPY := Lib.hid hpk
  have HY := Lib.hid hy
  have hs3 := hb3.out.size
  have hs23 := hbel3.size
  clear hbel3 own3 hy hpk HO2
  have HXL := Lib.hid (show x.length = m2 from by have := HO23.out.1; simpa using this)
  go_wp2_with (first
    | (at_builtin; refine wpList_append_bs _ rfl (.tmp 28) (.tmp 30) _ rfl w1.heap.size 5 i0 _ Try.underlying22 hi hz0 hz1 hz2 rfl _ m2 x rfl HO23.out w3.heap.size A3 m3 c3 y rfl HY3.out (by omega) (by omega) ?_; intro A4 c4 w4 own4 h4 h4' g4 l4; have hb4 := Lib.hid (below_append hb3.out HO23.out hs1 hs3 g4); have hs4 := hb4.out.size; have HP4 := Lib.hid (Bs.of_own own4 (bd_append HX.out HY.out)); have hw0 : (w4.alloc (.cells #[] 5)).ownsRow w4.heap.size 5 1 (.slice (some ⟨w4.heap.size, 0, none⟩) 0 0) 0 (([] : List Int).map (Value.int .u8)) := World.ownsRow_made w4 #[] 0 (Nat.le_refl _) (by unfold maxLen; omega) (by simp); have hb5 : Below w.heap.size w (w4.alloc (.cells #[] 5)) := hb4.out.alloc hs4 _; clear own4 g4 l4)
    | (at_builtin; refine wpList_append_bs _ rfl (.tmp 33) (.tmp 34) _ rfl w4.heap.size 5 i0 _ Try.underlying22 hi hz0 hz1 hz2 rfl _ 0 [] rfl hw0 w4.heap.size A4 (m2 + m3) c4 (x ++ y) rfl (HP4.out.alloc (Nat.le_refl _) _) (by omega) (by simp) ?_; intro A5 c5 w5 own5 h5 h5' g5 l5; simp only [Nat.zero_add, List.nil_append] at own5 h5 g5 l5; have hb6 := Lib.hid (below_append hb5 hw0 hs4 (by simp; omega) g5); have hs5 := (below_append (B := w4.heap.size) ((Below.refl _ _).alloc (Nat.le_refl _) _) hw0 (Nat.le_refl _) (by simp) g5).size)
    | (at_builtin; refine wpList_append_bs _ rfl (.tmp 35) (.tmp 36) _ rfl w4.heap.size 5 i0 _ Try.underlying22 hi hz0 hz1 hz2 rfl _ (m2 + m3) (x ++ y) rfl own5 w.heap.size D k f zs rfl (HC.out.below hb6.out) (by omega) hs5 ?_; intro A6 c6 w6 own6 h6 h6' g6 l6; have hb7 := Lib.hid (below_append hb6.out own5 hs4 hb6.out.size g6)))
  have HO6 := Lib.hid (Bs.of_own own6 (bd_append (bd_append HX.out HY.out) HC.out.2.1))
  have HRES : Hid (Pb.res ((n : Int) + m) (x ++ y ++ zs) = (xs ++ ys, (m2 : Int) + m3, 0)) := Lib.hid (by
    have := pk_res (HPX.out.append HPY.out) zs
    rw [List.length_append, List.length_append, HA.out.1, HB.out.1, HXL.out, HY3.out.1] at this
    exact this)
  clear own5 own6 g5 g6 l5 l6 hw0 hb5
  refine (decode_is HRES.out HO6.out h6 (by omega) (by omega) (Nat.le_refl _)).mono ?_
  rintro e w8 ⟨A8, m8, c8, rfl, hr8, hbel8⟩
  have hb8 := Lib.hid (hb7.out.trans (hbel8.mono hb7.out.size))
  have k1 := (HA.out.below hb8.out).run_string (P := Try.prog) Try.underlying22 Try.underlying5 Try.underlying9 c
  have k2 := (HB.out.below hb8.out).run_string (P := Try.prog) Try.underlying22 Try.underlying5 Try.underlying9 d
  have k3 := hr8.run_string (P := Try.prog) Try.underlying22 Try.underlying5 Try.underlying9 c8
  have z1 : (strOfNums xs).size = n := by rw [strOfNums_size, HA.out.1]
  have z2 : (strOfNums ys).size = m := by rw [strOfNums_size, HB.out.1]
  have z3 : strOfNums xs ++ strOfNums ys = strOfNums (xs ++ ys) := (str_append xs ys).symm
  clear hr8 hbel8
  go_wp2
  go_ret
  exact ⟨rfl, hb8.out⟩
end Go.Proofs.Ytekhcinafcbndaa
