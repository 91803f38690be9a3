/- What of a part lies inside the page; in which part a pixel lies. -/
import Derived.Test.YtfdgipbnbalcjaaC
import Derived.Test.YtfdgipbnbalcjaaD
namespace Go.Proofs.Ytfdgipbnbalcjaa
open Go.RowKit

theorem results11 {tmps : Array Value} {p : Nat} {x y v h e : Int} {w : World} (h4 : tmps[4]?.getD undef = .pointer (some ⟨p, 0, none⟩)) (h5 : tmps[5]?.getD undef = .int .i64 e)
    (c : w.cell? ⟨p, 0, none⟩ = some (.int .i64 x) ∧ w.cell? ⟨p, 1, none⟩ = some (.int .i64 y) ∧ w.cell? ⟨p, 2, none⟩ = some (.int .i64 v) ∧ w.cell? ⟨p, 3, none⟩ = some (.int .i64 h)) :
    (results Try.f11 tmps).run Try.prog w = .ok (.tuple #[rectV x y v h, .int .i64 e]) w := by
  obtain ⟨c0, c1, c2, c3⟩ := c
  simp [results, rectV, go_sem, h4, h5, c0, c1, c2, c3]

set_option maxRecDepth 10000 in
set_option maxHeartbeats 1000000 in
theorem inside_no (a b : Int) (t : Bool) (c d i : Int) (w : World) (h : ¬ Ch.Right a b t c d ∨ (Ch.Right a b t c d ∧ (i < 0 ∨ Ch.cnt a c * Ch.cnt b d ≤ i))) (wc : I64 c) (wd : I64 d) :
    Calls Try.prog 11 #[.agg #[.int .i64 a, .int .i64 b, .bool t, .int .i64 c, .int .i64 d], .int .i64 i] w fun e w' => e = .returned (.tuple #[rectV 0 0 0 0, .int .i64 1]) ∧ Below w.heap.size w w' := by
  have hp : ∀ w, Calls Try.prog 10 #[.agg #[.int .i64 a, .int .i64 b, .bool t, .int .i64 c, .int .i64 d], .int .i64 i] w fun e w' => e = .returned (.tuple #[rectV 0 0 0 0, .int .i64 1]) ∧ Below w.heap.size w w' := fun w => by
    rcases h with h | ⟨h, k⟩
    · exact part_no a b t c d i w h wc wd
    · exact part_oob a b t c d i w h k
  have HP := Lib.hid hp
  clear hp h
  go_enter Try.func11, Try.ntmps11
  go_wp2_with fail
  refine (HP.out _).mono ?_
  rintro e w1 ⟨rfl, hb1⟩
  obtain ⟨⟨q0, q1, q2, q3⟩, f0, f1, f2, f3⟩ := (RectAt.made (w.alloc (.cells #[.int .i64 a, .int .i64 b, .bool t, .int .i64 c, .int .i64 d] 23)) 0 0 0 0 30).below hb1 (by simp)
  simp only [World.size_alloc] at q0 q1 q2 q3 f0 f1 f2 f3
  have hb1' := Lib.hid ((((Below.refl _ w).alloc (Nat.le_refl _) _).alloc (by simp) _).trans (hb1.mono (by simp; omega)))
  have hlt : w.heap.size + 1 < w1.heap.size := by have := hb1.size; simp only [World.size_alloc] at this; omega
  clear hb1
  unfold rectV
  go_wp2
  refine bodyPost_ret (results11 (p := w.heap.size + 1) rfl rfl (cells_alloc (stores_rect q0 q1 q2 q3 (.int .i64 0) (.int .i64 0) (.int .i64 0) (.int .i64 0)))) rfl ⟨rfl, ?_⟩
  have hb3 := Lib.hid (below_stores hb1'.out (p := w.heap.size + 1) (by omega) (.int .i64 0) (.int .i64 0) (.int .i64 0) (.int .i64 0))
  exact hb3.out.alloc hb3.out.size _
end Go.Proofs.Ytfdgipbnbalcjaa
