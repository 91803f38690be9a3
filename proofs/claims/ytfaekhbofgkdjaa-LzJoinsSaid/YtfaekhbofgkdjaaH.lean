/- The walk of LzJoins. -/
import Derived.Test.YtfaekhbofgkdjaaG
import Derived.Test.YtfaekhbofgkdjaaU
namespace Go.Proofs.Ytfaekhbofgkdjaa
open Go.RowKit

set_option maxRecDepth 10000 in
set_option maxHeartbeats 2000000 in
theorem joins_walk (A C : Option Addr) (n c m d : Nat) (xs ys : List Int) (w : World) (hb : Bs w w.heap.size A n xs) (hd : Bs w w.heap.size C m ys) (hc : n ≤ c) (hdc : m ≤ d) (hn' : n ≤ 140737488351232) (hm' : m ≤ 140737488351232) :
    Calls Try.prog 3 #[.slice A n c, .slice C m d] w fun e w' => e = .returned (.bool true) ∧ Below w.heap.size w w' := by
  have HA := Lib.hid hb
  have HB := Lib.hid hd
  clear hb hd
  obtain ⟨i0, hi, hz0, hz1, hz2⟩ := info_parts info33
  by_cases hn : 2000 < n + m
  · go_enter Try.func3, Try.ntmps3
    go_wp2_with fail
    refine (lives_any _).mono ?_
    rintro e w1 ⟨rfl, hb1⟩
    go_wp2_with fail
    refine (lives_any _).mono ?_
    rintro e w2 ⟨rfl, hb2⟩
    go_wp2
    go_ret
    exact ⟨rfl, hb1.trans (hb2.mono hb1.size)⟩
  go_enter Try.func3, Try.ntmps3
  go_wp2_with fail
  refine (lives_any _).mono ?_
  rintro e w1 ⟨rfl, hb1⟩
  have hs1 := hb1.size
  have hw0 : (w1.alloc (.cells #[] 33)).ownsRow w1.heap.size 33 3 (.slice (some ⟨w1.heap.size, 0, none⟩) 0 0) 0 (cellsOf []) :=
    World.ownsRow_made w1 #[] 0 (Nat.le_refl _) (by unfold maxLen; omega) (by simp)
  have HW0 := Lib.hid hw0
  have hb2 := Lib.hid (hb1.alloc hs1 (.cells #[] 33))
  have HA2 := Lib.hid (HA.out.below hb2.out)
  clear hw0
  go_wp2_with fail
  refine (tokens_any _ _ _ _ _ _ HA2.out hc (by omega) (by simp; omega)).mono ?_
  rintro e w3 ⟨A3, m3, c3, ts, rfl, hc3, hm3, own3, hts, htk, hbel3⟩
  have hb3 := Lib.hid (hb2.out.trans (hbel3.mono (by simp; omega)))
  have hs3 := hb3.out.size
  have HW3 := Lib.hid (own_below HW0.out hbel3)
  have HT3 := Lib.hid (Ts.of_own own3 (fun t ht => (hts t ht).1))
  have HTK := Lib.hid htk
  have hs13 := hbel3.size
  clear own3 hts htk hbel3 HW0
  go_wp2_with (first
    | (at_builtin; refine wpList_append_ts _ rfl (.tmp 27) (.tmp 29) _ rfl w1.heap.size 33 i0 _ Try.underlying24 hi hz0 hz1 hz2 rfl _ 0 [] rfl HW3.out w3.heap.size A3 m3 c3 ts rfl HT3.out (by omega) (by simp at hs13; omega) ?_; intro A4 c4 w4 own4 h4 h4' g4 l4; simp only [Nat.zero_add, List.nil_append] at own4 h4 g4 l4; have hb4 := Lib.hid (below_append3 hb3.out HW3.out hs1 hs3 g4); have HO4 := Lib.hid own4; have hs4 := hb4.out.size; have HB4 := Lib.hid (HB.out.below hb4.out); have hs14 := g4.size; clear own4 g4 l4))
  refine (tokens_any _ _ _ _ _ _ HB4.out hdc (by omega) hs4).mono ?_
  rintro e w5 ⟨A5, m5, c5, us, rfl, hc5, hm5, own5, hus, huk, hbel5⟩
  have hb5 := Lib.hid (hb4.out.trans (hbel5.mono hs4))
  have hs5 := hb5.out.size
  have HO5 := Lib.hid (own_below HO4.out hbel5)
  have HT5 := Lib.hid (Ts.of_own own5 (fun t ht => (hus t ht).1))
  have HUK := Lib.hid huk
  have HUS := Lib.hid hus
  have hs45 := hbel5.size
  clear own5 hus huk hbel5 HO4
  go_wp2_with (first
    | (at_builtin; refine wpList_append_ts _ rfl (.tmp 30) (.tmp 32) _ rfl w1.heap.size 33 i0 _ Try.underlying24 hi hz0 hz1 hz2 rfl _ m3 ts rfl HO5.out w5.heap.size A5 m5 c5 us rfl HT5.out (by omega) (by simp at hs13; omega) ?_; intro A6 c6 w6 own6 h6 h6' g6 l6; have hb6 := Lib.hid (below_append3 hb5.out HO5.out hs1 hs5 g6); have HO6 := Lib.hid own6; have hs6 := hb6.out.size; clear own6 g6 l6))
  have HT6 := Lib.hid (Ts.of_own HO6.out (fun t ht => (List.mem_append.1 ht).elim (HT3.out.2.1 t) (HT5.out.2.1 t)))
  have HXY := Lib.hid (HTK.out.append HUK.out)
  have HE1 : Hid (Lz.exp (ts ++ us) [] ((n : Int) + m) = (0, xs ++ ys)) := Lib.hid ((HXY.out [] _).1 (by rw [List.length_append, HA.out.1, HB.out.1]; simp))
  refine (expand_is HE1.out HT6.out (by omega) (Nat.le_refl _) (by omega) (by omega)).mono ?_
  rintro e w7 ⟨A7, m7, c7, rfl, hr7, hbel7⟩
  have hb7 := Lib.hid (hb6.out.trans (hbel7.mono hs6))
  have HT7 := Lib.hid (HT6.out.below hbel7)
  have hs67 := hbel7.size
  have k1 := conv_of (HA.out.below hb7.out) c
  have k2 := conv_of (HB.out.below hb7.out) d
  have k3 := conv_of hr7 c7
  have z1 : (strOfNums xs).size = n := by rw [strOfNums_size, HA.out.1]
  have z2 : (strOfNums ys).size = m := by rw [strOfNums_size, HB.out.1]
  have z3 : strOfNums xs ++ strOfNums ys = strOfNums (xs ++ ys) := (str_append xs ys).symm
  clear hr7 hbel7
  by_cases h0 : n + m = 0
  · obtain ⟨rfl, rfl⟩ : n = 0 ∧ m = 0 := by omega
    have HE2 : ∃ er ys', Lz.exp (ts ++ us) [] (-1) = (er, ys') := ⟨_, _, rfl⟩
    obtain ⟨er, ys', he2⟩ := HE2
    have HE2 := Lib.hid he2
    clear he2
    go_wp2_with fail
    refine (expand_is HE2.out HT7.out (by omega) hs67 (by omega) (by omega)).mono ?_
    rintro e w8 ⟨A8, m8, c8, rfl, hr8, hbel8⟩
    have hb8 := hb7.out.trans (hbel8.mono hb7.out.size)
    clear hr8 hbel8
    go_wp2
    go_ret
    exact ⟨rfl, hb8⟩
  · have HE2 : Hid (Lz.exp (ts ++ us) [] ((n : Int) + m - 1) = (8, [])) := Lib.hid ((HXY.out [] _).2 (by simp; omega) (by rw [List.length_append, HA.out.1, HB.out.1]; simp; omega))
    have hne : ((n : Int) + m == 0) = false := by simp; omega
    go_wp2_with fail
    refine (expand_is HE2.out HT7.out (by omega) hs67 (by omega) (by omega)).mono ?_
    rintro e w8 ⟨A8, m8, c8, rfl, hr8, hbel8⟩
    have hb8 := hb7.out.trans (hbel8.mono hb7.out.size)
    clear hr8 hbel8
    go_wp2
    go_ret
    exact ⟨rfl, hb8⟩
end Go.Proofs.Ytfaekhbofgkdjaa
