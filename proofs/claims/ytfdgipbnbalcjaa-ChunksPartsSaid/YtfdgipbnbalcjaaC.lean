/- The parts that there aren't. -/
import Derived.Test.YtfdgipbnbalcjaaR
namespace Go.Proofs.Ytfdgipbnbalcjaa
open Go.RowKit

set_option maxRecDepth 10000 in
set_option maxHeartbeats 1000000 in
theorem part_no (a b : Int) (t : Bool) (c d i : Int) (w : World) (h : ¬ Ch.Right a b t c d) (wc : I64 c) (wd : I64 d) :
    Calls Try.prog 10 #[.agg #[.int .i64 a, .int .i64 b, .bool t, .int .i64 c, .int .i64 d], .int .i64 i] w fun e w' => e = .returned (.tuple #[rectV 0 0 0 0, .int .i64 1]) ∧ Below w.heap.size w w' := by
  go_enter Try.func10, Try.ntmps10
  go_wp2_with fail
  refine (count_no a b t c d _ h wc wd).mono ?_
  rintro e w1 ⟨rfl, hb1⟩
  obtain ⟨⟨q0, q1, q2, q3⟩, f0, f1, f2, f3⟩ := (RectAt.made (w.alloc (.cells #[.int .i64 a, .int .i64 b, .bool t, .int .i64 c, .int .i64 d] 23)) 0 0 0 0 30).below hb1 (by simp)
  simp only [World.size_alloc] at q0 q1 q2 q3 f0 f1 f2 f3
  have hb1' := Lib.hid ((((Below.refl _ w).alloc (Nat.le_refl _) _).alloc (by simp) _).trans (hb1.mono (by simp; omega)))
  clear hb1
  go_wp2
  refine bodyPost_ret (v := .tuple #[rectV 0 0 0 0, .int .i64 1]) (by simp [results, rectV, go_sem, q0, q1, q2, q3]) rfl ⟨rfl, ?_⟩
  exact (((hb1'.out.setCell (by show _ ≤ w.heap.size + 1; omega) _).setCell (by show _ ≤ w.heap.size + 1; omega) _).setCell (by show _ ≤ w.heap.size + 1; omega) _).setCell (by show _ ≤ w.heap.size + 1; omega) _
set_option maxRecDepth 10000 in
set_option maxHeartbeats 1000000 in
theorem part_oob (a b : Int) (t : Bool) (c d i : Int) (w : World) (h : Ch.Right a b t c d) (hi : i < 0 ∨ Ch.cnt a c * Ch.cnt b d ≤ i) :
    Calls Try.prog 10 #[.agg #[.int .i64 a, .int .i64 b, .bool t, .int .i64 c, .int .i64 d], .int .i64 i] w fun e w' => e = .returned (.tuple #[rectV 0 0 0 0, .int .i64 1]) ∧ Below w.heap.size w w' := by
  obtain ⟨m, hm⟩ : ∃ m, m = Ch.cnt a c * Ch.cnt b d := ⟨_, rfl⟩
  have hcnt := fun w => count_yes a b t c d w h
  rw [← hm] at hi hcnt
  have HC := Lib.hid hcnt
  clear hcnt hm h
  by_cases h0 : i < 0
  · go_enter Try.func10, Try.ntmps10
    go_wp2_with fail
    refine (HC.out _).mono ?_
    rintro e w1 ⟨rfl, hb1⟩
    obtain ⟨⟨q0, q1, q2, q3⟩, f0, f1, f2, f3⟩ := (RectAt.made (w.alloc (.cells #[.int .i64 a, .int .i64 b, .bool t, .int .i64 c, .int .i64 d] 23)) 0 0 0 0 30).below hb1 (by simp)
    simp only [World.size_alloc] at q0 q1 q2 q3 f0 f1 f2 f3
    have hb1' := Lib.hid ((((Below.refl _ w).alloc (Nat.le_refl _) _).alloc (by simp) _).trans (hb1.mono (by simp; omega)))
    clear hb1
    go_wp2
    refine bodyPost_ret (v := .tuple #[rectV 0 0 0 0, .int .i64 1]) (by simp [results, rectV, go_sem, q0, q1, q2, q3]) rfl ⟨rfl, ?_⟩
    exact (((hb1'.out.setCell (by show _ ≤ w.heap.size + 1; omega) _).setCell (by show _ ≤ w.heap.size + 1; omega) _).setCell (by show _ ≤ w.heap.size + 1; omega) _).setCell (by show _ ≤ w.heap.size + 1; omega) _
  · have h1 : m ≤ i := by omega
    clear hi
    go_enter Try.func10, Try.ntmps10
    go_wp2_with fail
    refine (HC.out _).mono ?_
    rintro e w1 ⟨rfl, hb1⟩
    obtain ⟨⟨q0, q1, q2, q3⟩, f0, f1, f2, f3⟩ := (RectAt.made (w.alloc (.cells #[.int .i64 a, .int .i64 b, .bool t, .int .i64 c, .int .i64 d] 23)) 0 0 0 0 30).below hb1 (by simp)
    simp only [World.size_alloc] at q0 q1 q2 q3 f0 f1 f2 f3
    have hb1' := Lib.hid ((((Below.refl _ w).alloc (Nat.le_refl _) _).alloc (by simp) _).trans (hb1.mono (by simp; omega)))
    clear hb1
    go_wp2
    refine bodyPost_ret (v := .tuple #[rectV 0 0 0 0, .int .i64 1]) (by simp [results, rectV, go_sem, q0, q1, q2, q3]) rfl ⟨rfl, ?_⟩
    exact (((hb1'.out.setCell (by show _ ≤ w.heap.size + 1; omega) _).setCell (by show _ ≤ w.heap.size + 1; omega) _).setCell (by show _ ≤ w.heap.size + 1; omega) _).setCell (by show _ ≤ w.heap.size + 1; omega) _

end Go.Proofs.Ytfdgipbnbalcjaa
