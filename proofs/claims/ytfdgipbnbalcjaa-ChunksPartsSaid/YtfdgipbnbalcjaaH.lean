/- The walk of ChunksFind. -/
import Derived.Test.YtfdgipbnbalcjaaF
import Derived.Test.YtfdgipbnbalcjaaG
namespace Go.Proofs.Ytfdgipbnbalcjaa
open Go.RowKit

set_option maxRecDepth 10000 in
set_option maxHeartbeats 2000000 in
theorem find_walk_no (a b : Int) (t : Bool) (c d x y : Int) (w : World) (h : ¬ (Ch.Right a b t c d ∧ 0 ≤ x ∧ 0 ≤ y ∧ x < a ∧ y < b)) (wc : I64 c) (wd : I64 d) :
    Calls Try.prog 5 #[.agg #[.int .i64 a, .int .i64 b, .bool t, .int .i64 c, .int .i64 d], .int .i64 x, .int .i64 y] w fun e w' => e = .returned (.bool true) ∧ Below w.heap.size w w' := by
  have HF := Lib.hid (fun w => find_no a b t c d x y w h wc wd)
  by_cases hr : Ch.Right a b t c d
  · have HR := Lib.hid (rightB_yes hr)
    by_cases h1 : x < 0
    all_goals by_cases h2 : y < 0
    all_goals by_cases h3 : a ≤ x
    all_goals by_cases h4 : b ≤ y
    all_goals first | exact absurd ⟨hr, by omega, by omega, by omega, by omega⟩ h | skip
    all_goals
      clear h hr
      go_enter Try.func5, Try.ntmps5
      go_wp2_with fail
      refine (lives_any _).mono ?_
      rintro e w1 ⟨rfl, hb1⟩
      have HL := Lib.hid ((LayAt.made w a b t c d).below hb1 (by simp))
      have hb1' := Lib.hid (((Below.refl _ w).alloc (Nat.le_refl _) _).trans (hb1.mono (by simp)))
      have hs1 := hb1.size
      simp only [World.size_alloc] at hs1
      clear hb1
      obtain ⟨l0, l1, l2, l3, l4⟩ := HL.out
      go_wp2_with fail
      refine (HF.out _).mono ?_
      rintro e w2 ⟨rfl, hb2⟩
      clear l0 l1 l2 l3 l4
      have HL2 := Lib.hid (HL.out.below hb2 (by omega))
      have hb2' := Lib.hid (hb1'.out.trans (hb2.mono hb1'.out.size))
      have hs2 := hb2.size
      clear hb2
      obtain ⟨l0, l1, l2, l3, l4⟩ := HL2.out
      go_wp2_with fail
      refine (refRight_is HR.out wc wd).mono ?_
      rintro e w3 ⟨rfl, hb3⟩
      clear l0 l1 l2 l3 l4
      obtain ⟨l0, l1, l2, l3, l4⟩ := HL2.out.below hb3 (by omega)
      have hb3' := Lib.hid (hb2'.out.trans (hb3.mono hb2'.out.size))
      clear hb3
      go_wp2
      go_ret
      exact ⟨rfl, hb3'.out⟩
  · clear h
    go_enter Try.func5, Try.ntmps5
    go_wp2_with fail
    refine (lives_any _).mono ?_
    rintro e w1 ⟨rfl, hb1⟩
    have HL := Lib.hid ((LayAt.made w a b t c d).below hb1 (by simp))
    have hb1' := Lib.hid (((Below.refl _ w).alloc (Nat.le_refl _) _).trans (hb1.mono (by simp)))
    have hs1 := hb1.size
    simp only [World.size_alloc] at hs1
    clear hb1
    obtain ⟨l0, l1, l2, l3, l4⟩ := HL.out
    go_wp2_with fail
    refine (HF.out _).mono ?_
    rintro e w2 ⟨rfl, hb2⟩
    clear l0 l1 l2 l3 l4
    have HL2 := Lib.hid (HL.out.below hb2 (by omega))
    have hb2' := Lib.hid (hb1'.out.trans (hb2.mono hb1'.out.size))
    clear hb2
    obtain ⟨l0, l1, l2, l3, l4⟩ := HL2.out
    go_wp2_with fail
    refine (refRight_is (rightB_no hr) wc wd).mono ?_
    rintro e w3 ⟨rfl, hb3⟩
    have hb3' := Lib.hid (hb2'.out.trans (hb3.mono hb2'.out.size))
    clear hb3
    go_wp2
    go_ret
    exact ⟨rfl, hb3'.out⟩

theorem inside_is {a b : Int} {t : Bool} {c d i X Y V H : Int} (w : World) (h : Ch.Right a b t c d) (i0 : 0 ≤ i) (i1 : i < Ch.cnt a c * Ch.cnt b d)
    (hX : X = Ch.partX a c i) (hY : Y = Ch.partY a c d i) (hV : V = Ch.mini c (a - X)) (hH : H = Ch.mini (Ch.partH b t d Y) (b - Y)) :
    Calls Try.prog 11 #[.agg #[.int .i64 a, .int .i64 b, .bool t, .int .i64 c, .int .i64 d], .int .i64 i] w fun e w' =>
      e = .returned (.tuple #[rectV X Y V H, .int .i64 0]) ∧ Below w.heap.size w w' := by
  subst hV hH hX hY; exact inside_yes a b t c d i w h i0 i1

set_option maxRecDepth 10000 in
set_option maxHeartbeats 2000000 in
theorem find_walk_yes (a b : Int) (t : Bool) (c d x y : Int) (w : World) (h : Ch.Right a b t c d) (x0 : 0 ≤ x) (x1 : x < a) (y0 : 0 ≤ y) (y1 : y < b) :
    Calls Try.prog 5 #[.agg #[.int .i64 a, .int .i64 b, .bool t, .int .i64 c, .int .i64 d], .int .i64 x, .int .i64 y] w fun e w' => e = .returned (.bool true) ∧ Below w.heap.size w w' := by
  obtain ⟨a0, b0, a1, b1, ab, c0, d0, c1, d1⟩ := h.bd
  obtain ⟨k0, k1, _, _⟩ := Ch.idx_ok h x0 x1 y0 y1
  obtain ⟨eX, eY, r0, r1, s0, s1⟩ := Ch.find_ok h x0 x1 y0 y1
  have hf := fun w => find_yes a b t c d x y w h x0 x1 y0 y1
  obtain ⟨i, hi⟩ : ∃ i, i = Ch.idx a c d x y := ⟨_, rfl⟩
  rw [← hi] at k0 k1 eX eY r1 s1 hf
  have hpb := Ch.part_bd h k0 k1
  obtain ⟨X, hX⟩ : ∃ X, X = Ch.partX a c i := ⟨_, rfl⟩
  obtain ⟨Y, hY⟩ : ∃ Y, Y = Ch.partY a c d i := ⟨_, rfl⟩
  rw [← hX] at eX r1 hpb
  rw [← hY] at eY s1 hpb
  obtain ⟨V, hV⟩ : ∃ V, V = Ch.mini c (a - X) := ⟨_, rfl⟩
  obtain ⟨H, hH⟩ : ∃ H, H = Ch.mini (Ch.partH b t d Y) (b - Y) := ⟨_, rfl⟩
  rw [← hV] at r1
  rw [← hH] at s1
  obtain ⟨p, hp⟩ : ∃ p, p = x % c := ⟨_, rfl⟩
  obtain ⟨q, hq⟩ : ∃ q, q = y % d := ⟨_, rfl⟩
  rw [← hp] at eX r0 r1 hf
  rw [← hq] at eY s0 s1 hf
  have hin := fun w => inside_is w h k0 k1 hX hY hV hH
  unfold rectV at hin
  have HF := Lib.hid hf
  have HI := Lib.hid hin
  have HR := Lib.hid h
  obtain ⟨X0, X1, Y0, Y1, _, _⟩ := hpb
  clear hf hin h hi hX hY hV hH hp hq
  go_enter Try.func5, Try.ntmps5
  go_wp2_with fail
  refine (lives_any _).mono ?_
  rintro e w1 ⟨rfl, hb1⟩
  have HL := Lib.hid ((LayAt.made w a b t c d).below hb1 (by simp))
  have hb1' := Lib.hid (((Below.refl _ w).alloc (Nat.le_refl _) _).trans (hb1.mono (by simp)))
  have hs1 := hb1.size
  simp only [World.size_alloc] at hs1
  clear hb1
  obtain ⟨l0, l1, l2, l3, l4⟩ := HL.out
  go_wp2_with fail
  refine (HF.out _).mono ?_
  rintro e w2 ⟨rfl, hb2⟩
  clear l0 l1 l2 l3 l4
  have HL2 := Lib.hid (HL.out.below hb2 (by omega))
  have hb2' := Lib.hid (hb1'.out.trans (hb2.mono hb1'.out.size))
  have hs2 := hb2.size
  clear hb2
  obtain ⟨l0, l1, l2, l3, l4⟩ := HL2.out
  go_wp2_with fail
  refine (refRight_is (rightB_yes HR.out) (Right.w64 HR.out).1 (Right.w64 HR.out).2).mono ?_
  rintro e w3 ⟨rfl, hb3⟩
  clear l0 l1 l2 l3 l4
  have HL3 := Lib.hid (HL2.out.below hb3 (by omega))
  have hb3' := Lib.hid (hb2'.out.trans (hb3.mono hb2'.out.size))
  have hs3 := hb3.size
  clear hb3
  obtain ⟨l0, l1, l2, l3, l4⟩ := HL3.out
  go_wp2_with fail
  refine (HI.out _).mono ?_
  rintro e w4 ⟨rfl, hb4⟩
  have hb4' := Lib.hid (hb3'.out.trans (hb4.mono hb3'.out.size))
  have hs4 := hb4.size
  clear l0 l1 l2 l3 l4 hb4
  go_wp2
  go_ret
  exact ⟨rfl, hb4'.out.alloc hb4'.out.size _⟩

theorem find_walk (a b : Int) (t : Bool) (c d x y : Int) (w : World) (wc : I64 c) (wd : I64 d) :
    Calls Try.prog 5 #[.agg #[.int .i64 a, .int .i64 b, .bool t, .int .i64 c, .int .i64 d], .int .i64 x, .int .i64 y] w fun e w' => e = .returned (.bool true) ∧ Below w.heap.size w w' := by
  by_cases h : Ch.Right a b t c d ∧ 0 ≤ x ∧ 0 ≤ y ∧ x < a ∧ y < b
  · exact find_walk_yes a b t c d x y w h.1 h.2.1 h.2.2.2.1 h.2.2.1 h.2.2.2.2
  · exact find_walk_no a b t c d x y w h wc wd
end Go.Proofs.Ytfdgipbnbalcjaa
