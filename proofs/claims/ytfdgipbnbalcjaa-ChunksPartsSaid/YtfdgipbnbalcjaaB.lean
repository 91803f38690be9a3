/- How many parts there are. -/
import Derived.Test.YtfdgipbnbalcjaaA
import Derived.Deep.QuietTactic
import Derived.BigQuiet
import Derived.BigRegion
import Derived.Deep.RegionWith
namespace Go.Proofs.Ytfdgipbnbalcjaa
open Go.RowKit

/-- a layout lies in block tb -/
def LayAt (w : World) (tb : Nat) (a b : Int) (t : Bool) (c d : Int) : Prop :=
  w.cell? ⟨tb, 0, none⟩ = some (.int .i64 a) ∧ w.cell? ⟨tb, 1, none⟩ = some (.int .i64 b) ∧ w.cell? ⟨tb, 2, none⟩ = some (.bool t) ∧ w.cell? ⟨tb, 3, none⟩ = some (.int .i64 c) ∧ w.cell? ⟨tb, 4, none⟩ = some (.int .i64 d)
section
variable {w w' : World} {tb B : Nat} {a b : Int} {t : Bool} {c d : Int}
theorem LayAt.made (w : World) (a b : Int) (t : Bool) (c d : Int) : LayAt (w.alloc (.cells #[.int .i64 a, .int .i64 b, .bool t, .int .i64 c, .int .i64 d] 23)) w.heap.size a b t c d := by
  refine ⟨?_, ?_, ?_, ?_, ?_⟩ <;> (rw [World.cell?_alloc_mark]; rfl)
theorem LayAt.below (h : LayAt w tb a b t c d) (hb : Below B w w') (hB : tb < B) : LayAt w' tb a b t c d := by
  obtain ⟨h0, h1, h2, h3, h4⟩ := h
  refine ⟨?_, ?_, ?_, ?_, ?_⟩ <;> (rw [hb.cell (by exact hB)]; assumption)
end

/-- numbers that an int holds -/
def I64 (x : Int) : Prop := -9223372036854775808 ≤ x ∧ x ≤ 9223372036854775807

set_option maxRecDepth 10000 in
set_option maxHeartbeats 400000 in
theorem across_any (a b : Int) (t : Bool) (c d : Int) (w : World) (h : Ch.Right a b t c d) :
    Calls Try.prog 15 #[.agg #[.int .i64 a, .int .i64 b, .bool t, .int .i64 c, .int .i64 d]] w fun e w' => e = .returned (.tuple #[.int .i64 (Ch.cnt a c), .int .i64 (Ch.cnt b d)]) ∧ Below w.heap.size w w' := by
  obtain ⟨a0, b0, a1, b1, ab, c0, d0, c1, d1⟩ := h.bd
  clear h
  go_enter Try.func15, Try.ntmps15
  go_wp2
  go_quiet (fail)
  go_wp2
  go_ret2
  exact ⟨rfl, below_drewN ((Below.refl _ _).alloc (Nat.le_refl _) _) _⟩
theorem right_is {a b : Int} {t : Bool} {c d : Int} {r : Bool} {w : World} (hr : Ch.rightB a b t c d = r) (wc : I64 c) (wd : I64 d) :
    Calls Try.prog 7 #[.agg #[.int .i64 a, .int .i64 b, .bool t, .int .i64 c, .int .i64 d]] w fun e w' => e = .returned (.bool r) ∧ Below w.heap.size w w' := by
  subst hr; exact right_any a b t c d w wc wd
theorem refRight_is {a b : Int} {t : Bool} {c d : Int} {r : Bool} {w : World} (hr : Ch.rightB a b t c d = r) (wc : I64 c) (wd : I64 d) :
    Calls Try.prog 8 #[.agg #[.int .i64 a, .int .i64 b, .bool t, .int .i64 c, .int .i64 d]] w fun e w' => e = .returned (.bool r) ∧ Below w.heap.size w w' := by
  subst hr; exact refRight_any a b t c d w wc wd
theorem rightB_yes {a b : Int} {t : Bool} {c d : Int} (h : Ch.Right a b t c d) : Ch.rightB a b t c d = true := (Ch.right_yes h).symm
theorem rightB_no {a b : Int} {t : Bool} {c d : Int} (h : ¬ Ch.Right a b t c d) : Ch.rightB a b t c d = false := (Ch.right_no h).symm
theorem Right.w64 {a b : Int} {t : Bool} {c d : Int} (h : Ch.Right a b t c d) : I64 c ∧ I64 d := by
  obtain ⟨a0, b0, a1, b1, ab, c0, d0, c1, d1⟩ := h.bd
  unfold I64; omega

set_option maxRecDepth 10000 in
set_option maxHeartbeats 400000 in
theorem count_no (a b : Int) (t : Bool) (c d : Int) (w : World) (h : ¬ Ch.Right a b t c d) (wc : I64 c) (wd : I64 d) :
    Calls Try.prog 9 #[.agg #[.int .i64 a, .int .i64 b, .bool t, .int .i64 c, .int .i64 d]] w fun e w' => e = .returned (.tuple #[.int .i64 0, .int .i64 1]) ∧ Below w.heap.size w w' := by
  go_enter Try.func9, Try.ntmps9
  go_wp2_with fail
  refine (right_is (rightB_no h) wc wd).mono ?_
  rintro e w1 ⟨rfl, hb1⟩
  go_wp2
  go_ret2
  exact ⟨rfl, ((Below.refl _ _).alloc (Nat.le_refl _) _).trans (hb1.mono (by simp))⟩
set_option maxRecDepth 10000 in
set_option maxHeartbeats 400000 in
theorem count_yes (a b : Int) (t : Bool) (c d : Int) (w : World) (h : Ch.Right a b t c d) :
    Calls Try.prog 9 #[.agg #[.int .i64 a, .int .i64 b, .bool t, .int .i64 c, .int .i64 d]] w fun e w' => e = .returned (.tuple #[.int .i64 (Ch.cnt a c * Ch.cnt b d), .int .i64 0]) ∧ Below w.heap.size w w' := by
  obtain ⟨a0, b0, a1, b1, ab, c0, d0, c1, d1⟩ := h.bd
  obtain ⟨x0, x1⟩ := Ch.cnt_bd a0 a1 c0
  obtain ⟨y0, y1⟩ := Ch.cnt_bd b0 b1 d0
  have pxy := Ch.prod_bd x0 x1 y0 y1
  obtain ⟨x, hx⟩ : ∃ x, x = Ch.cnt a c := ⟨_, rfl⟩
  obtain ⟨y, hy⟩ : ∃ y, y = Ch.cnt b d := ⟨_, rfl⟩
  rw [← hx] at x0 x1 pxy
  rw [← hy] at y0 y1 pxy
  have ha := fun w => across_any a b t c d w h
  rw [← hx, ← hy] at ha
  rw [← hx, ← hy]
  have HA := Lib.hid ha
  have HR := Lib.hid h
  clear ha hx hy h
  go_enter Try.func9, Try.ntmps9
  go_wp2_with fail
  refine (right_is (rightB_yes HR.out) (Right.w64 HR.out).1 (Right.w64 HR.out).2).mono ?_
  rintro e w1 ⟨rfl, hb1⟩
  obtain ⟨k0, k1, k2, k3, k4⟩ := (LayAt.made w a b t c d).below hb1 (by simp)
  have hb1' := Lib.hid (((Below.refl _ w).alloc (Nat.le_refl _) _).trans (hb1.mono (by simp)))
  clear hb1
  go_wp2_with fail
  refine (HA.out _).mono ?_
  rintro e w2 ⟨rfl, hb2⟩
  go_wp2
  go_ret2
  exact ⟨rfl, hb1'.out.trans (hb2.mono hb1'.out.size)⟩
end Go.Proofs.Ytfdgipbnbalcjaa
