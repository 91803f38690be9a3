/- The parts that there are. -/
import Derived.Test.YtfdgipbnbalcjaaR
namespace Go.Proofs.Ytfdgipbnbalcjaa
open Go.RowKit

theorem cells_drew {w : World} {p : Nat} {x y v h : Value} (c : w.cell? ⟨p, 0, none⟩ = some x ∧ w.cell? ⟨p, 1, none⟩ = some y ∧ w.cell? ⟨p, 2, none⟩ = some v ∧ w.cell? ⟨p, 3, none⟩ = some h) :
    w.drew.cell? ⟨p, 0, none⟩ = some x ∧ w.drew.cell? ⟨p, 1, none⟩ = some y ∧ w.drew.cell? ⟨p, 2, none⟩ = some v ∧ w.drew.cell? ⟨p, 3, none⟩ = some h := c
set_option maxRecDepth 10000 in
set_option maxHeartbeats 2000000 in
theorem part_yes (a b : Int) (t : Bool) (c d i : Int) (w : World) (h : Ch.Right a b t c d) (i0 : 0 ≤ i) (i1 : i < Ch.cnt a c * Ch.cnt b d) :
    Calls Try.prog 10 #[.agg #[.int .i64 a, .int .i64 b, .bool t, .int .i64 c, .int .i64 d], .int .i64 i] w fun e w' => e = .returned (.tuple #[rectV (Ch.partX a c i) (Ch.partY a c d i) c (Ch.partH b t d (Ch.partY a c d i)), .int .i64 0]) ∧ Below w.heap.size w w' := by
  obtain ⟨a0, b0, a1, b1, ab, c0, d0, c1, d1⟩ := h.bd
  obtain ⟨n0, n1⟩ := Ch.cnt_bd a0 a1 c0
  obtain ⟨m0, m1⟩ := Ch.cnt_bd b0 b1 d0
  obtain ⟨z0, z1, z2, z3⟩ := Ch.quo_lt n0 i0 i1
  obtain ⟨y0, y1⟩ := Ch.begin_lt b0 d0 z0 z1
  obtain ⟨x0, x1⟩ := Ch.begin_lt a0 c0 z2 z3
  have hcnt := fun w => count_yes a b t c d w h
  have hacr := fun w => across_any a b t c d w h
  unfold Ch.partX Ch.partY
  obtain ⟨m, hm⟩ : ∃ m, m = Ch.cnt a c * Ch.cnt b d := ⟨_, rfl⟩
  rw [← hm] at i1 hcnt
  obtain ⟨nx, hnx⟩ : ∃ nx, nx = Ch.cnt a c := ⟨_, rfl⟩
  obtain ⟨ny, hny⟩ : ∃ ny, ny = Ch.cnt b d := ⟨_, rfl⟩
  rw [← hnx] at n0 n1 z0 z1 z2 z3 y0 y1 x0 x1 hacr ⊢
  rw [← hny] at hacr z1 m0 m1
  have HC := Lib.hid hcnt
  have HA := Lib.hid hacr
  clear hcnt hacr hm hnx hny h
  have hq : wrap64 (i.tdiv nx) = i / nx := by rw [Int.tdiv_eq_ediv_of_nonneg i0]; exact IntWalk.wrap64_in _ ⟨by omega, by omega⟩
  have hqd : wrap64 (i / nx * d) = i / nx * d := IntWalk.wrap64_in _ ⟨by omega, by omega⟩
  go_enter Try.func10, Try.ntmps10
  go_wp2_with fail
  refine (HC.out _).mono ?_
  rintro e w1 ⟨rfl, hb1⟩
  have HR1 := Lib.hid ((RectAt.made (w.alloc (.cells #[.int .i64 a, .int .i64 b, .bool t, .int .i64 c, .int .i64 d] 23)) 0 0 0 0 30).below hb1 (by simp))
  have HL1 := Lib.hid (((LayAt.made w a b t c d).below ((Below.refl (w.heap.size + 1) _).alloc (by simp) (.cells #[.int .i64 0, .int .i64 0, .int .i64 0, .int .i64 0] 30)) (by omega)).below hb1 (by simp; omega))
  obtain ⟨l0, l1, l2, l3, l4⟩ := HL1.out
  have hb1' := Lib.hid ((((Below.refl _ w).alloc (Nat.le_refl _) _).alloc (by simp) _).trans (hb1.mono (by simp; omega)))
  have hs1 := hb1.size
  simp only [World.size_alloc] at hs1
  clear hb1
  go_wp2_with fail
  refine (HA.out _).mono ?_
  rintro e w2 ⟨rfl, hb2⟩
  clear l0 l1 l2 l3 l4
  obtain ⟨l0, l1, l2, l3, l4⟩ := HL1.out.below hb2 (by omega)
  obtain ⟨⟨q0, q1, q2, q3⟩, f0, f1, f2, f3⟩ := HR1.out.below hb2 (by simp; omega)
  simp only [World.size_alloc] at q0 q1 q2 q3 f0 f1 f2 f3
  have hb2' := Lib.hid (hb1'.out.trans (hb2.mono hb1'.out.size))
  have hs2 := hb2.size
  clear hb2
  have hlt : w.heap.size < w2.heap.size := by omega
  have hlt' : w.heap.size + 1 < w2.heap.size := by omega
  go_wp2_with fail
  go_region
  have hb3 := Lib.hid (hb2'.out.alloc (by omega) (.cells #[.int .i64 (i % nx * c), .int .i64 (i / nx * d), .int .i64 c, .int .i64 d] 30)).drew
  cases t
  · by_cases hmin : d ≤ b - i / nx * d
    · go_wp2
      refine bodyPost_ret (results10 (p := w.heap.size + 1) rfl rfl (cells_drew (cells_alloc (stores_rect q0 q1 q2 q3 (.int .i64 (i % nx * c)) (.int .i64 (i / nx * d)) (.int .i64 c) (.int .i64 (d)))))) rfl ⟨by rw [Ch.partH_low hmin], ?_⟩
      have hb3 := Lib.hid (below_stores hb2'.out (p := w.heap.size + 1) (by omega) (.int .i64 (i % nx * c)) (.int .i64 (i / nx * d)) (.int .i64 c) (.int .i64 (d)))
      exact (hb3.out.alloc hb3.out.size _).drew
    · go_wp2
      refine bodyPost_ret (results10 (p := w.heap.size + 1) rfl rfl (cells_drew (cells_alloc (stores_rect q0 q1 q2 q3 (.int .i64 (i % nx * c)) (.int .i64 (i / nx * d)) (.int .i64 c) (.int .i64 (b - i / nx * d)))))) rfl ⟨by rw [Ch.partH_high (by omega)], ?_⟩
      have hb3 := Lib.hid (below_stores hb2'.out (p := w.heap.size + 1) (by omega) (.int .i64 (i % nx * c)) (.int .i64 (i / nx * d)) (.int .i64 c) (.int .i64 (b - i / nx * d)))
      exact (hb3.out.alloc hb3.out.size _).drew
  · go_wp2
    refine bodyPost_ret (results10 (p := w.heap.size + 1) rfl rfl (cells_drew (cells_alloc (stores_rect q0 q1 q2 q3 (.int .i64 (i % nx * c)) (.int .i64 (i / nx * d)) (.int .i64 c) (.int .i64 (d)))))) rfl ⟨by rw [Ch.partH_tiled], ?_⟩
    have hb3 := Lib.hid (below_stores hb2'.out (p := w.heap.size + 1) (by omega) (.int .i64 (i % nx * c)) (.int .i64 (i / nx * d)) (.int .i64 c) (.int .i64 (d)))
    exact (hb3.out.alloc hb3.out.size _).drew
end Go.Proofs.Ytfdgipbnbalcjaa
