/- The document's Inside. -/
import Derived.Test.YtfdgipbnbalcjaaN
import Derived.Test.YtfdgipbnbalcjaaF
namespace Go.Proofs.Ytfdgipbnbalcjaa
open Go.RowKit

namespace Ch
theorem mini_low {x y : Int} (h : x ≤ y) : mini x y = x := by unfold mini; rw [if_pos h]
theorem mini_high {x y : Int} (h : ¬ x ≤ y) : mini x y = y := by unfold mini; rw [if_neg h]
end Ch
set_option maxRecDepth 10000 in
set_option maxHeartbeats 2000000 in
theorem refInside_any (a b : Int) (t : Bool) (c d x y v h : Int) (w : World) (xb : 0 ≤ x ∧ x ≤ 32768) (yb : 0 ≤ y ∧ y ≤ 32768) (vb : 0 ≤ v ∧ v ≤ 32768) (hb : 0 ≤ h ∧ h ≤ 32768) (ab : 0 ≤ a ∧ a ≤ 32768) (bb : 0 ≤ b ∧ b ≤ 32768) :
    Calls Try.prog 13 #[.agg #[.int .i64 a, .int .i64 b, .bool t, .int .i64 c, .int .i64 d], .agg #[.int .i64 x, .int .i64 y, .int .i64 v, .int .i64 h]] w fun e w' =>
      e = .returned (rectV x y (Ch.mini v (a - x)) (Ch.mini h (b - y))) ∧ Below w.heap.size w w' := by
  by_cases hx : a < x + v
  all_goals by_cases hy : b < y + h
  · rw [Ch.mini_high (by omega), Ch.mini_high (by omega)]
    go_enter Try.func13, Try.ntmps13
    go_wp2
    refine bodyPost_ret (v := rectV x y (a - x) (b - y)) (by simp [results, rectV, go_sem]) rfl ⟨rfl, ?_⟩
    exact (((Below.refl _ w).alloc (Nat.le_refl _) _).alloc (by simp) _).alloc (by simp; omega) _
  · rw [Ch.mini_high (by omega), Ch.mini_low (by omega)]
    go_enter Try.func13, Try.ntmps13
    go_wp2
    refine bodyPost_ret (v := rectV x y (a - x) (h)) (by simp [results, rectV, go_sem]) rfl ⟨rfl, ?_⟩
    exact (((Below.refl _ w).alloc (Nat.le_refl _) _).alloc (by simp) _).alloc (by simp; omega) _
  · rw [Ch.mini_low (by omega), Ch.mini_high (by omega)]
    go_enter Try.func13, Try.ntmps13
    go_wp2
    refine bodyPost_ret (v := rectV x y (v) (b - y)) (by simp [results, rectV, go_sem]) rfl ⟨rfl, ?_⟩
    exact (((Below.refl _ w).alloc (Nat.le_refl _) _).alloc (by simp) _).alloc (by simp; omega) _
  · rw [Ch.mini_low (by omega), Ch.mini_low (by omega)]
    go_enter Try.func13, Try.ntmps13
    go_wp2
    refine bodyPost_ret (v := rectV x y (v) (h)) (by simp [results, rectV, go_sem]) rfl ⟨rfl, ?_⟩
    exact (((Below.refl _ w).alloc (Nat.le_refl _) _).alloc (by simp) _).alloc (by simp; omega) _
end Go.Proofs.Ytfdgipbnbalcjaa
