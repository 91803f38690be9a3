/- Words for rectangles. -/
import Derived.Test.YtfdgipbnbalcjaaB
namespace Go.Proofs.Ytfdgipbnbalcjaa
open Go.RowKit

/-- a rectangle as a value -/
def rectV (x y v h : Int) : Value := .agg #[.int .i64 x, .int .i64 y, .int .i64 v, .int .i64 h]
/-- four numbers in block rb, which may be written -/
def RectAt (w : World) (rb : Nat) (x y v h : Int) : Prop :=
  (w.cell? ⟨rb, 0, none⟩ = some (.int .i64 x) ∧ w.cell? ⟨rb, 1, none⟩ = some (.int .i64 y) ∧ w.cell? ⟨rb, 2, none⟩ = some (.int .i64 v) ∧ w.cell? ⟨rb, 3, none⟩ = some (.int .i64 h)) ∧
    w.frozen? ⟨rb, 0, none⟩ = false ∧ w.frozen? ⟨rb, 1, none⟩ = false ∧ w.frozen? ⟨rb, 2, none⟩ = false ∧ w.frozen? ⟨rb, 3, none⟩ = false
section
variable {w w' : World} {rb B : Nat} {x y v h : Int}
theorem RectAt.made (w : World) (x y v h : Int) (e : TypeId) : RectAt (w.alloc (.cells #[.int .i64 x, .int .i64 y, .int .i64 v, .int .i64 h] e)) w.heap.size x y v h := by
  refine ⟨⟨?_, ?_, ?_, ?_⟩, World.frozen?_alloc_new .., World.frozen?_alloc_new .., World.frozen?_alloc_new .., World.frozen?_alloc_new ..⟩ <;> (rw [World.cell?_alloc_mark]; rfl)
theorem RectAt.below (k : RectAt w rb x y v h) (hb : Below B w w') (hB : rb < B) : RectAt w' rb x y v h := by
  obtain ⟨⟨h0, h1, h2, h3⟩, f0, f1, f2, f3⟩ := k
  refine ⟨⟨?_, ?_, ?_, ?_⟩, ?_, ?_, ?_, ?_⟩
  all_goals first | (rw [hb.cell (by exact hB)]; assumption) | (rw [hb.frozen (by exact hB)]; assumption)
end

theorem below_stores {w0 w : World} {B p : Nat} (h : Below B w0 w) (hp : B ≤ p) (v0 v1 v2 v3 : Value) :
    Below B w0 ((((w.setCell ⟨p, 0, none⟩ v0).setCell ⟨p, 1, none⟩ v1).setCell ⟨p, 2, none⟩ v2).setCell ⟨p, 3, none⟩ v3) :=
  (((h.setCell (by exact hp) _).setCell (by exact hp) _).setCell (by exact hp) _).setCell (by exact hp) _
theorem stores_rect {w : World} {p : Nat} {u0 u1 u2 u3 : Value} (q0 : w.cell? ⟨p, 0, none⟩ = some u0) (q1 : w.cell? ⟨p, 1, none⟩ = some u1) (q2 : w.cell? ⟨p, 2, none⟩ = some u2) (q3 : w.cell? ⟨p, 3, none⟩ = some u3) (v0 v1 v2 v3 : Value) :
    ((((w.setCell ⟨p, 0, none⟩ v0).setCell ⟨p, 1, none⟩ v1).setCell ⟨p, 2, none⟩ v2).setCell ⟨p, 3, none⟩ v3).cell? ⟨p, 0, none⟩ = some v0 ∧
    ((((w.setCell ⟨p, 0, none⟩ v0).setCell ⟨p, 1, none⟩ v1).setCell ⟨p, 2, none⟩ v2).setCell ⟨p, 3, none⟩ v3).cell? ⟨p, 1, none⟩ = some v1 ∧
    ((((w.setCell ⟨p, 0, none⟩ v0).setCell ⟨p, 1, none⟩ v1).setCell ⟨p, 2, none⟩ v2).setCell ⟨p, 3, none⟩ v3).cell? ⟨p, 2, none⟩ = some v2 ∧
    ((((w.setCell ⟨p, 0, none⟩ v0).setCell ⟨p, 1, none⟩ v1).setCell ⟨p, 2, none⟩ v2).setCell ⟨p, 3, none⟩ v3).cell? ⟨p, 3, none⟩ = some v3 := by
  have o : ∀ {w : World} {i j : Nat} {u v : Value}, i ≠ j → w.cell? ⟨p, j, none⟩ = some v → (w.setCell ⟨p, i, none⟩ u).cell? ⟨p, j, none⟩ = some v := fun hne h => by
    rw [World.cell?_setCell_other _ _ _ _ (by intro e; injection e with _ e; omega)]; exact h
  exact ⟨o (by decide) (o (by decide) (o (by decide) (World.cell?_setCell_same _ _ _ q0))), o (by decide) (o (by decide) (World.cell?_setCell_same _ _ _ (o (by decide) q1))),
    o (by decide) (World.cell?_setCell_same _ _ _ (o (by decide) (o (by decide) q2))), World.cell?_setCell_same _ _ _ (o (by decide) (o (by decide) (o (by decide) q3)))⟩
theorem cell_alloc {w : World} {o : Obj} {a : Addr} {v : Value} (h : w.cell? a = some v) : (w.alloc o).cell? a = some v := (World.cell?_alloc_lt w o a (World.block_lt_of_cell? w a h)).trans h
theorem results10 {tmps : Array Value} {p : Nat} {x y v h e : Int} {w : World} (h4 : tmps[4]?.getD undef = .pointer (some ⟨p, 0, none⟩)) (h5 : tmps[5]?.getD undef = .int .i64 e)
    (c : w.cell? ⟨p, 0, none⟩ = some (.int .i64 x) ∧ w.cell? ⟨p, 1, none⟩ = some (.int .i64 y) ∧ w.cell? ⟨p, 2, none⟩ = some (.int .i64 v) ∧ w.cell? ⟨p, 3, none⟩ = some (.int .i64 h)) :
    (results Try.f10 tmps).run Try.prog w = .ok (.tuple #[rectV x y v h, .int .i64 e]) w := by
  obtain ⟨c0, c1, c2, c3⟩ := c
  simp [results, rectV, go_sem, h4, h5, c0, c1, c2, c3]
theorem cells_alloc {w : World} {o : Obj} {p : Nat} {x y v h : Value} (c : w.cell? ⟨p, 0, none⟩ = some x ∧ w.cell? ⟨p, 1, none⟩ = some y ∧ w.cell? ⟨p, 2, none⟩ = some v ∧ w.cell? ⟨p, 3, none⟩ = some h) :
    (w.alloc o).cell? ⟨p, 0, none⟩ = some x ∧ (w.alloc o).cell? ⟨p, 1, none⟩ = some y ∧ (w.alloc o).cell? ⟨p, 2, none⟩ = some v ∧ (w.alloc o).cell? ⟨p, 3, none⟩ = some h :=
  ⟨cell_alloc c.1, cell_alloc c.2.1, cell_alloc c.2.2.1, cell_alloc c.2.2.2⟩
namespace Ch
theorem partH_low {b d y : Int} (h : d ≤ b - y) : partH b false d y = d := by unfold partH mini; simp [h]
theorem partH_high {b d y : Int} (h : ¬ d ≤ b - y) : partH b false d y = b - y := by unfold partH mini; simp [h]
theorem partH_tiled {b d y : Int} : partH b true d y = d := rfl
end Ch

end Go.Proofs.Ytfdgipbnbalcjaa
