/- The walks of PackbitsDecodes and PackbitsEncodes. -/
import Derived.Test.YtekhcinafcbndaaF
import Derived.Test.YtekhcinafcbndaaKept
namespace Go.Proofs.Ytekhcinafcbndaa
open Go.RowKit

theorem pk_res {b x : List Int} (h : Pb.Pk b x) (r : List Int) : Pb.res (b.length : Int) (x ++ r) = (b, (x.length : Int), 0) := by
  have hd := h.dec r
  rw [Pb.res_of (N := (b.length : Int)) (by omega) (by simpa using hd), if_pos rfl, List.length_append]
  congr 1; congr 1; omega
theorem pk_res_cut {b x : List Int} (h : Pb.Pk b x) {m : Nat} (hm : m < x.length) : Pb.res (b.length : Int) (x.take m) = ([], 0, 2) := by
  rw [Pb.res_of (N := (b.length : Int)) (by omega) (by simpa using h.cut m hm), if_neg (by decide)]

/-- string(..) of a slice of bytes, in the worlds that come -/
theorem convs {w : World} {B : Nat} {A : Option Addr} {n : Nat} {xs : List Int} (h : Bs w B A n xs) (c : Nat) : ∀ m, (convert 22 9 (.slice A n c)).run Try.prog (w.drewN m) = .ok (.string (strOfNums xs)) (w.drewN m) := fun m =>
  (h.drewN m).run_string Try.underlying22 Try.underlying5 Try.underlying9 c

set_option maxRecDepth 10000 in
set_option maxHeartbeats 1000000 in
theorem decodes_walk (A : Option Addr) (n c : Nat) (N : Int) (xs : List Int) (w : World) (hb : Bs w w.heap.size A n xs) (hm : n ≤ maxLen) (N0 : -9223372036854775808 ≤ N) (N1 : N ≤ 9223372036854775807) :
    Calls Try.prog 3 #[.slice A n c, .int .i64 N] w fun e w' => e = .returned (.bool true) ∧ Below w.heap.size w w' := by
  unfold maxLen at hm
  have HB := Lib.hid hb
  clear hb
  obtain ⟨i0, hi, hz0, hz1, hz2⟩ := info_parts info5
  by_cases hn : 2000 < n
  · go_enter Try.func3, Try.ntmps3
    go_wp2_with fail
    refine (lives_any _).mono ?_
    rintro e w1 ⟨rfl, hb1⟩
    go_wp2_with fail
    refine (lives_any _).mono ?_
    rintro e w2 ⟨rfl, hb2⟩
    go_wp2
    go_ret
    exact ⟨rfl, hb1.trans (hb2.mono hb1.size)⟩
  by_cases hN : 100000 < N
  · go_enter Try.func3, Try.ntmps3
    go_wp2_with fail
    refine (lives_any _).mono ?_
    rintro e w1 ⟨rfl, hb1⟩
    go_wp2_with fail
    refine (lives_any _).mono ?_
    rintro e w2 ⟨rfl, hb2⟩
    go_wp2
    go_ret
    exact ⟨rfl, hb1.trans (hb2.mono hb1.size)⟩
  obtain ⟨ys, k, er, hres⟩ : ∃ ys k er, Pb.res N xs = (ys, k, er) := ⟨_, _, _, rfl⟩
  have HRES := Lib.hid hres
  clear hres
  go_enter Try.func3, Try.ntmps3
  go_wp2_with fail
  refine (lives_any _).mono ?_
  rintro e w1 ⟨rfl, hb1⟩
  have HB1 := Lib.hid (HB.out.below hb1)
  have hs1 := hb1.size
  have hw0 : (w1.alloc (.cells #[] 5)).ownsRow w1.heap.size 5 1 (.slice (some ⟨w1.heap.size, 0, none⟩) 0 0) 0 (([] : List Int).map (Value.int .u8)) :=
    World.ownsRow_made w1 #[] 0 (Nat.le_refl _) (by unfold maxLen; omega) (by simp)
  have hb2 : Below w.heap.size w (w1.alloc (.cells #[] 5)) := hb1.alloc hs1 _
  go_wp2_with (first
    | (at_builtin; refine wpList_append_bs _ rfl (.tmp 24) (.tmp 25) _ rfl w1.heap.size 5 i0 _ Try.underlying22 hi hz0 hz1 hz2 rfl _ 0 [] rfl hw0 w.heap.size A n c xs rfl (HB1.out.alloc hs1 _) (by omega) (by simp) ?_; intro A2 c2 w2 own2 h2 h2' g2 l2; simp only [Nat.zero_add, List.nil_append] at own2 h2 g2 l2; have hb3 := Lib.hid (below_append hb2 hw0 hs1 (by simp; omega) g2)))
  have HO2 := Lib.hid (Bs.of_own own2 HB.out.2.1)
  clear own2 g2 l2 hw0 hb1 hb2 HB1
  refine (decode_is HRES.out HO2.out h2 (by omega) (by omega) (Nat.le_refl _)).mono ?_
  rintro e w3 ⟨A3, m3, c3, rfl, hr3, hbel3⟩
  have hb4 := Lib.hid (hb3.out.trans (hbel3.mono hb3.out.size))
  have HR3 := Lib.hid hr3
  have k0 := (HB.out.below hb4.out).run_string (P := Try.prog) Try.underlying22 Try.underlying5 Try.underlying9 c
  have k1 := convs (HB.out.below hb4.out) c
  have k2 := convs (HO2.out.below hbel3) c2
  have k3 := convs hr3 c3
  clear hbel3 hr3
  go_wp2_with fail
  refine (refdec_is HRES.out HB.out.2.1 (by rw [HB.out.1]; omega) (by omega)).mono ?_
  rintro e w4 ⟨rfl, m, rfl⟩
  go_wp2
  go_ret
  exact ⟨rfl, below_drewN hb4.out _⟩

set_option maxRecDepth 10000 in
set_option maxHeartbeats 1000000 in
theorem encodes_walk (A : Option Addr) (n c : Nat) (xs : List Int) (w : World) (hb : Bs w w.heap.size A n xs) (hm : n ≤ maxLen) :
    Calls Try.prog 4 #[.slice A n c] w fun e w' => e = .returned (.bool true) ∧ Below w.heap.size w w' := by
  unfold maxLen at hm
  have HB := Lib.hid hb
  clear hb
  obtain ⟨i0, hi, hz0, hz1, hz2⟩ := info_parts info5
  by_cases hn : 3000 < n
  · go_enter Try.func4, Try.ntmps4
    go_wp2_with fail
    refine (lives_any _).mono ?_
    rintro e w1 ⟨rfl, hb1⟩
    go_wp2_with fail
    refine (lives_any _).mono ?_
    rintro e w2 ⟨rfl, hb2⟩
    go_wp2
    go_ret
    exact ⟨rfl, hb1.trans (hb2.mono hb1.size)⟩
  go_enter Try.func4, Try.ntmps4
  go_wp2_with fail
  refine (lives_any _).mono ?_
  rintro e w1 ⟨rfl, hb1⟩
  have HB1 := Lib.hid (HB.out.below hb1)
  have hs1 := hb1.size
  have hw0 : (w1.alloc (.cells #[] 5)).ownsRow w1.heap.size 5 1 (.slice (some ⟨w1.heap.size, 0, none⟩) 0 0) 0 (([] : List Int).map (Value.int .u8)) :=
    World.ownsRow_made w1 #[] 0 (Nat.le_refl _) (by unfold maxLen; omega) (by simp)
  have hb2 : Below w.heap.size w (w1.alloc (.cells #[] 5)) := hb1.alloc hs1 _
  go_wp2_with (first
    | (at_builtin; refine wpList_append_bs _ rfl (.tmp 16) (.tmp 17) _ rfl w1.heap.size 5 i0 _ Try.underlying22 hi hz0 hz1 hz2 rfl _ 0 [] rfl hw0 w.heap.size A n c xs rfl (HB1.out.alloc hs1 _) (by omega) (by simp) ?_; intro A2 c2 w2 own2 h2 h2' g2 l2; simp only [Nat.zero_add, List.nil_append] at own2 h2 g2 l2; have hb3 := Lib.hid (below_append hb2 hw0 hs1 (by simp; omega) g2)))
  have HO2 := Lib.hid (Bs.of_own own2 HB.out.2.1)
  clear own2 g2 l2 hw0 hb1 hb2 HB1
  refine (encode_any _ _ _ _ _ _ HO2.out h2 (by omega) (Nat.le_refl _)).mono ?_
  rintro e w3 ⟨A3, m3, c3, x, rfl, _, own3, hx, hpk, hlen, hbel3⟩
  have hb4 := Lib.hid (hb3.out.trans (hbel3.mono hb3.out.size))
  have hr3 := Bs.of_own own3 hx
  have HRES : Hid (Pb.res n x = (xs, (m3 : Int), 0)) := Lib.hid (by have := pk_res hpk []; rw [List.append_nil, HB.out.1, hr3.1] at this; exact this)
  have HX := Lib.hid hx
  have HR3 := Lib.hid hr3
  have k0 := hr3.run_string (P := Try.prog) Try.underlying22 Try.underlying5 Try.underlying9 c3
  have k1 := convs (HB.out.below hb4.out) c
  have k2 := convs (HO2.out.below hbel3) c2
  clear hbel3 hr3 own3 hx hpk
  go_wp2_with fail
  refine (refdec_is HRES.out HX.out (by rw [HR3.out.1]; omega) (by omega)).mono ?_
  rintro e w4 ⟨rfl, m, rfl⟩
  go_wp2
  go_ret
  exact ⟨rfl, below_drewN hb4.out _⟩
end Go.Proofs.Ytekhcinafcbndaa
