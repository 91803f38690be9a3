/- What of a part lies inside the page. -/
import Derived.Test.YtfdgipbnbalcjaaE
namespace Go.Proofs.Ytfdgipbnbalcjaa
open Go.RowKit

namespace Ch
theorem mini_eq (x y : Int) : (if y < x then y else x) = mini x y := by
  unfold mini
  split <;> split <;> omega
theorem partH_bd {b d y : Int} {t : Bool} (d0 : 1 ≤ d) (d1 : d ≤ 32768) (y1 : y < b) : 1 ≤ partH b t d y ∧ partH b t d y ≤ 32768 := by
  unfold partH mini
  split
  · omega
  · split <;> omega
theorem part_bd {a b : Int} {t : Bool} {c d i : Int} (h : Right a b t c d) (i0 : 0 ≤ i) (i1 : i < cnt a c * cnt b d) :
    0 ≤ partX a c i ∧ partX a c i < a ∧ 0 ≤ partY a c d i ∧ partY a c d i < b ∧ 1 ≤ partH b t d (partY a c d i) ∧ partH b t d (partY a c d i) ≤ 32768 := by
  obtain ⟨a0, b0, a1, b1, ab, c0, d0, c1, d1⟩ := h.bd
  obtain ⟨n0, n1⟩ := cnt_bd a0 a1 c0
  obtain ⟨z0, z1, z2, z3⟩ := quo_lt n0 i0 i1
  obtain ⟨y0, y1⟩ := begin_lt b0 d0 z0 z1
  obtain ⟨x0, x1⟩ := begin_lt a0 c0 z2 z3
  exact ⟨x0, x1, y0, y1, partH_bd d0 d1 y1⟩
end Ch

set_option maxRecDepth 10000 in
set_option maxHeartbeats 2000000 in
theorem inside_yes (a b : Int) (t : Bool) (c d i : Int) (w : World) (h : Ch.Right a b t c d) (i0 : 0 ≤ i) (i1 : i < Ch.cnt a c * Ch.cnt b d) :
    Calls Try.prog 11 #[.agg #[.int .i64 a, .int .i64 b, .bool t, .int .i64 c, .int .i64 d], .int .i64 i] w fun e w' =>
      e = .returned (.tuple #[rectV (Ch.partX a c i) (Ch.partY a c d i) (Ch.mini c (a - Ch.partX a c i)) (Ch.mini (Ch.partH b t d (Ch.partY a c d i)) (b - Ch.partY a c d i)), .int .i64 0]) ∧ Below w.heap.size w w' := by
  obtain ⟨a0, b0, a1, b1, ab, c0, d0, c1, d1⟩ := h.bd
  obtain ⟨x0, x1, y0, y1, v0, v1⟩ := Ch.part_bd h i0 i1
  have hp := fun w => part_yes a b t c d i w h i0 i1
  clear h i0 i1
  obtain ⟨X, hX⟩ : ∃ X, X = Ch.partX a c i := ⟨_, rfl⟩
  obtain ⟨Y, hY⟩ : ∃ Y, Y = Ch.partY a c d i := ⟨_, rfl⟩
  rw [← hY] at y0 y1 v0 v1 hp ⊢
  obtain ⟨V, hV⟩ : ∃ V, V = Ch.partH b t d Y := ⟨_, rfl⟩
  rw [← hX] at x0 x1 hp ⊢
  rw [← hV] at v0 v1 hp ⊢
  unfold rectV at hp
  have HP := Lib.hid hp
  clear hp hX hY hV
  go_enter Try.func11, Try.ntmps11
  go_wp2_with fail
  refine (HP.out _).mono ?_
  rintro e w1 ⟨rfl, hb1⟩
  obtain ⟨⟨q0, q1, q2, q3⟩, f0, f1, f2, f3⟩ := (RectAt.made (w.alloc (.cells #[.int .i64 a, .int .i64 b, .bool t, .int .i64 c, .int .i64 d] 23)) 0 0 0 0 30).below hb1 (by simp)
  simp only [World.size_alloc] at q0 q1 q2 q3 f0 f1 f2 f3
  obtain ⟨l0, l1, l2, l3, l4⟩ := ((LayAt.made w a b t c d).below ((Below.refl (w.heap.size + 1) _).alloc (by simp) (.cells #[.int .i64 0, .int .i64 0, .int .i64 0, .int .i64 0] 30)) (by omega)).below hb1 (by simp; omega)
  have hb1' := Lib.hid ((((Below.refl _ w).alloc (Nat.le_refl _) _).alloc (by simp) _).trans (hb1.mono (by simp; omega)))
  have hlt : w.heap.size + 1 < w1.heap.size := by have := hb1.size; simp only [World.size_alloc] at this; omega
  have hlt' : w.heap.size < w1.heap.size := by omega
  clear hb1
  go_wp2_with fail
  go_region
  obtain ⟨P, hP⟩ : ∃ P, (if a - X < c then a - X else c) = P := ⟨_, rfl⟩
  obtain ⟨Q, hQ⟩ : ∃ Q, (if b - Y < V then b - Y else V) = Q := ⟨_, rfl⟩
  rw [hP, hQ]
  have EP := Lib.hid (show P = Ch.mini c (a - X) from by rw [← hP, Ch.mini_eq])
  have EQ := Lib.hid (show Q = Ch.mini V (b - Y) from by rw [← hQ, Ch.mini_eq])
  clear hP hQ
  go_wp2
  refine bodyPost_ret (results11 (p := w.heap.size + 1) rfl rfl (cells_drew (cells_alloc (stores_rect q0 q1 q2 q3 (.int .i64 X) (.int .i64 Y) (.int .i64 P) (.int .i64 Q))))) rfl ⟨by rw [EP.out, EQ.out], ?_⟩
  have hb3 := Lib.hid (below_stores hb1'.out (p := w.heap.size + 1) (by omega) (.int .i64 X) (.int .i64 Y) (.int .i64 P) (.int .i64 Q))
  exact (hb3.out.alloc hb3.out.size _).drew
end Go.Proofs.Ytfdgipbnbalcjaa
