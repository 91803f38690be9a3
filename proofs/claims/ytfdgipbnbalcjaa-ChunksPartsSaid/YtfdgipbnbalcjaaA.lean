/- Both 'Right's: each tells the plain 'rightB'. Printed by wip/tools/gen20.py. -/
import Derived.Test.YtfdgipbnbalcjaaProg
import Derived.Test.YtfdgipbnbalcjaaMath
import Derived.Test.YtfdgipbnbalcjaaWords
import Derived.WalkKit
import Derived.WalkLawsBesides
import Derived.WalkSpells
import Derived.Lib.Hide
import Derived.Outline
namespace Go.Proofs.Ytfdgipbnbalcjaa
open Go.RowKit

set_option maxRecDepth 10000 in
set_option maxHeartbeats 1000000 in
theorem right_any (a b : Int) (t : Bool) (c d : Int) (w : World) (wc : -9223372036854775808 ≤ c ∧ c ≤ 9223372036854775807) (wd : -9223372036854775808 ≤ d ∧ d ≤ 9223372036854775807) :
    Calls Try.prog 7 #[.agg #[.int .i64 a, .int .i64 b, .bool t, .int .i64 c, .int .i64 d]] w fun e w' => e = .returned (.bool (Ch.rightB a b t c d)) ∧ Below w.heap.size w w' := by
  by_cases b0 : a < 1
  · go_enter Try.func7, Try.ntmps7
    go_wp2
    go_ret
    exact ⟨ret_bool (Ch.right_no (fun h => by have := h.1; omega)), (Below.refl _ _).alloc (Nat.le_refl _) _⟩
  by_cases b1 : b < 1
  · go_enter Try.func7, Try.ntmps7
    go_wp2
    go_ret
    exact ⟨ret_bool (Ch.right_no (fun h => by have := h.1; omega)), (Below.refl _ _).alloc (Nat.le_refl _) _⟩
  by_cases b2 : 32768 < a
  · go_enter Try.func7, Try.ntmps7
    go_wp2
    go_ret
    exact ⟨ret_bool (Ch.right_no (fun h => by have := h.1; omega)), (Below.refl _ _).alloc (Nat.le_refl _) _⟩
  by_cases b3 : 32768 < b
  · go_enter Try.func7, Try.ntmps7
    go_wp2
    go_ret
    exact ⟨ret_bool (Ch.right_no (fun h => by have := h.1; omega)), (Below.refl _ _).alloc (Nat.le_refl _) _⟩
  have pab := Ch.prod_bd (a := a) (b := b) (by omega) (by omega) (by omega) (by omega)
  by_cases b4 : 4194304 < a * b
  · go_enter Try.func7, Try.ntmps7
    go_wp2
    go_ret
    exact ⟨ret_bool (Ch.right_no (fun h => by have := h.1; omega)), (Below.refl _ _).alloc (Nat.le_refl _) _⟩
  cases t
  · by_cases s0 : ¬ c = a
    · go_enter Try.func7, Try.ntmps7
      go_wp2
      go_ret
      exact ⟨ret_bool (Ch.right_no (fun h => by have := h.2.2 rfl; omega)), (Below.refl _ _).alloc (Nat.le_refl _) _⟩
    by_cases s1 : d < 1
    · go_enter Try.func7, Try.ntmps7
      go_wp2
      go_ret
      exact ⟨ret_bool (Ch.right_no (fun h => by have := h.2.2 rfl; omega)), (Below.refl _ _).alloc (Nat.le_refl _) _⟩
    go_enter Try.func7, Try.ntmps7
    go_wp2
    go_ret
    exact ⟨ret_bool (Ch.right_dec ⟨fun _ => ⟨by omega, ⟨(fun h => nomatch h), fun _ => by omega⟩⟩, fun h => by have := h.2.2 rfl; omega⟩), (Below.refl _ _).alloc (Nat.le_refl _) _⟩
  · by_cases t0 : c < 16
    · go_enter Try.func7, Try.ntmps7
      go_wp2
      go_ret
      exact ⟨ret_bool (Ch.right_no (fun h => by have := h.2.1 rfl; omega)), (Below.refl _ _).alloc (Nat.le_refl _) _⟩
    by_cases t1 : d < 16
    · go_enter Try.func7, Try.ntmps7
      go_wp2
      go_ret
      exact ⟨ret_bool (Ch.right_no (fun h => by have := h.2.1 rfl; omega)), (Below.refl _ _).alloc (Nat.le_refl _) _⟩
    by_cases t2 : ¬ c % 16 = 0
    · go_enter Try.func7, Try.ntmps7
      go_wp2
      go_ret
      exact ⟨ret_bool (Ch.right_no (fun h => by have := h.2.1 rfl; omega)), (Below.refl _ _).alloc (Nat.le_refl _) _⟩
    by_cases t3 : ¬ d % 16 = 0
    · go_enter Try.func7, Try.ntmps7
      go_wp2
      go_ret
      exact ⟨ret_bool (Ch.right_no (fun h => by have := h.2.1 rfl; omega)), (Below.refl _ _).alloc (Nat.le_refl _) _⟩
    by_cases t4 : 32768 < c
    · go_enter Try.func7, Try.ntmps7
      go_wp2
      go_ret
      exact ⟨ret_bool (Ch.right_no (fun h => by have := h.2.1 rfl; omega)), (Below.refl _ _).alloc (Nat.le_refl _) _⟩
    by_cases t5 : 32768 < d
    · go_enter Try.func7, Try.ntmps7
      go_wp2
      go_ret
      exact ⟨ret_bool (Ch.right_no (fun h => by have := h.2.1 rfl; omega)), (Below.refl _ _).alloc (Nat.le_refl _) _⟩
    have pcd := Ch.prod_bd (a := c) (b := d) (by omega) (by omega) (by omega) (by omega)
    go_enter Try.func7, Try.ntmps7
    go_wp2
    go_ret
    exact ⟨ret_bool (Ch.right_dec ⟨fun _ => ⟨by omega, ⟨fun _ => by omega, (fun h => nomatch h)⟩⟩, fun h => by have := h.2.1 rfl; omega⟩), (Below.refl _ _).alloc (Nat.le_refl _) _⟩

set_option maxRecDepth 10000 in
set_option maxHeartbeats 1000000 in
theorem refRight_any (a b : Int) (t : Bool) (c d : Int) (w : World) (wc : -9223372036854775808 ≤ c ∧ c ≤ 9223372036854775807) (wd : -9223372036854775808 ≤ d ∧ d ≤ 9223372036854775807) :
    Calls Try.prog 8 #[.agg #[.int .i64 a, .int .i64 b, .bool t, .int .i64 c, .int .i64 d]] w fun e w' => e = .returned (.bool (Ch.rightB a b t c d)) ∧ Below w.heap.size w w' := by
  by_cases b0 : a < 1
  · go_enter Try.func8, Try.ntmps8
    go_wp2
    go_ret
    exact ⟨ret_bool (Ch.right_no (fun h => by have := h.1; omega)), (Below.refl _ _).alloc (Nat.le_refl _) _⟩
  by_cases b1 : b < 1
  · go_enter Try.func8, Try.ntmps8
    go_wp2
    go_ret
    exact ⟨ret_bool (Ch.right_no (fun h => by have := h.1; omega)), (Below.refl _ _).alloc (Nat.le_refl _) _⟩
  by_cases b2 : 32768 < a
  · go_enter Try.func8, Try.ntmps8
    go_wp2
    go_ret
    exact ⟨ret_bool (Ch.right_no (fun h => by have := h.1; omega)), (Below.refl _ _).alloc (Nat.le_refl _) _⟩
  by_cases b3 : 32768 < b
  · go_enter Try.func8, Try.ntmps8
    go_wp2
    go_ret
    exact ⟨ret_bool (Ch.right_no (fun h => by have := h.1; omega)), (Below.refl _ _).alloc (Nat.le_refl _) _⟩
  have pab := Ch.prod_bd (a := a) (b := b) (by omega) (by omega) (by omega) (by omega)
  by_cases b4 : 4194304 < a * b
  · go_enter Try.func8, Try.ntmps8
    go_wp2
    go_ret
    exact ⟨ret_bool (Ch.right_no (fun h => by have := h.1; omega)), (Below.refl _ _).alloc (Nat.le_refl _) _⟩
  cases t
  · by_cases s0 : ¬ c = a
    · go_enter Try.func8, Try.ntmps8
      go_wp2
      go_ret
      exact ⟨ret_bool (Ch.right_no (fun h => by have := h.2.2 rfl; omega)), (Below.refl _ _).alloc (Nat.le_refl _) _⟩
    by_cases s1 : d < 1
    · go_enter Try.func8, Try.ntmps8
      go_wp2
      go_ret
      exact ⟨ret_bool (Ch.right_no (fun h => by have := h.2.2 rfl; omega)), (Below.refl _ _).alloc (Nat.le_refl _) _⟩
    go_enter Try.func8, Try.ntmps8
    go_wp2
    go_ret
    exact ⟨ret_bool (Ch.right_dec ⟨fun _ => ⟨by omega, ⟨(fun h => nomatch h), fun _ => by omega⟩⟩, fun h => by have := h.2.2 rfl; omega⟩), (Below.refl _ _).alloc (Nat.le_refl _) _⟩
  · by_cases t0 : c < 1
    · go_enter Try.func8, Try.ntmps8
      go_wp2
      go_ret
      exact ⟨ret_bool (Ch.right_no (fun h => by have := h.2.1 rfl; omega)), (Below.refl _ _).alloc (Nat.le_refl _) _⟩
    by_cases t1 : d < 1
    · go_enter Try.func8, Try.ntmps8
      go_wp2
      go_ret
      exact ⟨ret_bool (Ch.right_no (fun h => by have := h.2.1 rfl; omega)), (Below.refl _ _).alloc (Nat.le_refl _) _⟩
    by_cases t2 : 32768 < c
    · go_enter Try.func8, Try.ntmps8
      go_wp2
      go_ret
      exact ⟨ret_bool (Ch.right_no (fun h => by have := h.2.1 rfl; omega)), (Below.refl _ _).alloc (Nat.le_refl _) _⟩
    by_cases t3 : 32768 < d
    · go_enter Try.func8, Try.ntmps8
      go_wp2
      go_ret
      exact ⟨ret_bool (Ch.right_no (fun h => by have := h.2.1 rfl; omega)), (Below.refl _ _).alloc (Nat.le_refl _) _⟩
    by_cases t4 : ¬ c % 16 + d % 16 = 0
    · go_enter Try.func8, Try.ntmps8
      go_wp2
      go_ret
      exact ⟨ret_bool (Ch.right_no (fun h => by have := h.2.1 rfl; omega)), (Below.refl _ _).alloc (Nat.le_refl _) _⟩
    have pcd := Ch.prod_bd (a := c) (b := d) (by omega) (by omega) (by omega) (by omega)
    go_enter Try.func8, Try.ntmps8
    go_wp2
    go_ret
    exact ⟨ret_bool (Ch.right_dec ⟨fun _ => ⟨by omega, ⟨fun _ => by omega, (fun h => nomatch h)⟩⟩, fun h => by have := h.2.1 rfl; omega⟩), (Below.refl _ _).alloc (Nat.le_refl _) _⟩

end Go.Proofs.Ytfdgipbnbalcjaa
