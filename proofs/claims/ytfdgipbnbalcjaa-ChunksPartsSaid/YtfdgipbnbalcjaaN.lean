/- Words for a slice of rectangles; the list of the parts. -/
import Derived.Test.YtfdgipbnbalcjaaM
import Derived.Test.YtfdgipbnbalcjaaB
import Derived.Test.YtfdgipbnbalcjaaR
import Derived.OwnWalk
import Derived.Laws.OwnMore
import Derived.Deep.AppendLies
namespace Go.Proofs.Ytfdgipbnbalcjaa
open Go.RowKit

structure Rc where
  x : Int
  y : Int
  v : Int
  h : Int
def rcCells (r : Rc) : List Value := [.int .i64 r.x, .int .i64 r.y, .int .i64 r.v, .int .i64 r.h]
def cellsOf (rs : List Rc) : List Value := rs.flatMap rcCells
theorem cellsOf_append (a b : List Rc) : cellsOf (a ++ b) = cellsOf a ++ cellsOf b := by simp [cellsOf]
theorem cellsOf_length (rs : List Rc) : (cellsOf rs).length = rs.length * 4 := by
  induction rs with
  | nil => rfl
  | cons r rs ih =>
    have : cellsOf (r :: rs) = rcCells r ++ cellsOf rs := by simp [cellsOf]
    rw [this, List.length_append, ih]; simp [rcCells]; omega
theorem cellsOf_at (rs : List Rc) (j : Nat) (r : Rc) (h : rs[j]? = some r) :
    (cellsOf rs)[j * 4]? = some (.int .i64 r.x) ∧ (cellsOf rs)[j * 4 + 1]? = some (.int .i64 r.y) ∧ (cellsOf rs)[j * 4 + 2]? = some (.int .i64 r.v) ∧ (cellsOf rs)[j * 4 + 3]? = some (.int .i64 r.h) := by
  induction rs generalizing j with
  | nil => simp at h
  | cons x rs ih =>
    have e : cellsOf (x :: rs) = .int .i64 x.x :: .int .i64 x.y :: .int .i64 x.v :: .int .i64 x.h :: cellsOf rs := by simp [cellsOf, rcCells]
    rw [e]
    cases j with
    | zero => simp at h; subst h; exact ⟨rfl, rfl, rfl, rfl⟩
    | succ j =>
      have := ih j (by simpa using h)
      rw [show (j + 1) * 4 = j * 4 + 4 from by omega]
      simpa using this
theorem rcCells_oneCell (r : Rc) : ∀ u ∈ rcCells r, u.oneCell' = true := by
  intro u hu
  simp only [rcCells, List.mem_cons, List.not_mem_nil, or_false] at hu
  rcases hu with rfl | rfl | rfl | rfl <;> rfl
/-- the cells of a new rectangle -/
theorem rc_new (w : World) (e : TypeId) (fr : Nat × Nat) (r : Rc) {g : Nat} (hg : w.heap.size = g) : ∀ (j : Nat) (u : Value), (rcCells r)[j]? = some u →
    (w.alloc (.cells #[.int .i64 r.x, .int .i64 r.y, .int .i64 r.v, .int .i64 r.h] e fr)).cell? ((⟨g, 0, none⟩ : Addr).add j) = some u := by
  subst hg
  intro j u hu
  have he : (⟨w.heap.size, 0, none⟩ : Addr).add j = ⟨w.heap.size, 0 + j, none⟩ := by unfold Addr.add; split <;> simp_all
  rw [he, Nat.zero_add, World.cell?_alloc_mark]
  match j, hu with
  | 0, hu => simpa [rcCells] using hu
  | 1, hu => simpa [rcCells] using hu
  | 2, hu => simpa [rcCells] using hu
  | 3, hu => simpa [rcCells] using hu
  | j + 4, hu => simp [rcCells] at hu

/-- the slice value '.slice A n c' holds the rectangles rs, below block B -/
def Rs (w : World) (B : Nat) (A : Option Addr) (n : Nat) (rs : List Rc) : Prop :=
  rs.length = n ∧ (0 < n → ∃ g, A = some ⟨g, 0, none⟩ ∧ g < B ∧ ∀ j r, rs[j]? = some r →
    w.cell? ⟨g, j * 4, none⟩ = some (.int .i64 r.x) ∧ w.cell? ⟨g, j * 4 + 1, none⟩ = some (.int .i64 r.y) ∧ w.cell? ⟨g, j * 4 + 2, none⟩ = some (.int .i64 r.v) ∧ w.cell? ⟨g, j * 4 + 3, none⟩ = some (.int .i64 r.h))
theorem Rs.below {w w' : World} {B n : Nat} {A : Option Addr} {rs : List Rc} (h : Rs w B A n rs) (hb : Below B w w') : Rs w' B A n rs :=
  ⟨h.1, fun hn => by
    obtain ⟨g, e, hg, hc⟩ := h.2 hn
    refine ⟨g, e, hg, fun j r hr => ?_⟩
    rw [hb.cell (p := ⟨g, j * 4, none⟩) hg, hb.cell (p := ⟨g, j * 4 + 1, none⟩) hg, hb.cell (p := ⟨g, j * 4 + 2, none⟩) hg, hb.cell (p := ⟨g, j * 4 + 3, none⟩) hg]
    exact hc j r hr⟩
theorem Rs.of_own {w : World} {base : Nat} {e : TypeId} {A : Option Addr} {n c : Nat} {rs : List Rc} (h : w.ownsRow base e 4 (.slice A n c) n (cellsOf rs)) : Rs w w.heap.size A n rs := by
  have hl : rs.length = n := by have := h.1; rw [cellsOf_length] at this; omega
  refine ⟨hl, fun hn => ?_⟩
  obtain ⟨g, cap, hv, _, hlt⟩ := h.form hn
  have hA : A = some ⟨g, 0, none⟩ := by injection hv
  subst hA
  refine ⟨g, rfl, hlt, fun j r hr => ?_⟩
  have he : ∀ j, (⟨g, 0, none⟩ : Addr).add j = ⟨g, 0 + j, none⟩ := fun j => by unfold Addr.add; split <;> simp_all
  obtain ⟨d0, d1, d2, d3⟩ := cellsOf_at rs j r hr
  have c0 := h.cells (g := g) rfl _ _ d0
  have c1 := h.cells (g := g) rfl _ _ d1
  have c2 := h.cells (g := g) rfl _ _ d2
  have c3 := h.cells (g := g) rfl _ _ d3
  rw [he, Nat.zero_add] at c0 c1 c2 c3
  exact ⟨c0, c1, c2, c3⟩

namespace Ch
/-- the i-th part -/
def part (a b : Int) (t : Bool) (c d : Int) (i : Nat) : Rc := ⟨partX a c i, partY a c d i, c, partH b t d (partY a c d i)⟩
/-- the first k parts -/
def parts (a b : Int) (t : Bool) (c d : Int) (k : Nat) : List Rc := (List.range k).map (part a b t c d)
theorem parts_succ (a b : Int) (t : Bool) (c d : Int) (k : Nat) : parts a b t c d (k + 1) = parts a b t c d k ++ [part a b t c d k] := by
  unfold parts; rw [List.range_succ, List.map_append]; rfl
theorem parts_at (a b : Int) (t : Bool) (c d : Int) {k i : Nat} (h : i < k) : (parts a b t c d k)[i]? = some (part a b t c d i) := by
  unfold parts; rw [List.getElem?_map, List.getElem?_range h]; rfl
theorem part_here {a b : Int} {t : Bool} {c d x y : Int} {n q r k : Nat} (hn : cnt a c = n) (hr : r < n) (hk : k = q * n + r) (hx : x = r * c) (hy : y = q * d) : part a b t c d k = ⟨x, y, c, partH b t d y⟩ := by
  subst hk hx hy
  obtain ⟨e0, e1⟩ := at_idx (n := (n : Int)) (q := q) (r := r) (by omega) (by omega)
  unfold part partX partY
  rw [hn, show ((q * n + r : Nat) : Int) = (q : Int) * n + r from by push_cast; rfl, e0, e1]
theorem partH_arms (b : Int) (t : Bool) (d y : Int) : (t = true ∧ d = partH b t d y) ∨ (t = false ∧ y + d ≤ b ∧ d = partH b t d y) ∨ (t = false ∧ b < y + d ∧ b - y = partH b t d y) := by
  cases t
  · by_cases h : y + d ≤ b
    · exact .inr (.inl ⟨rfl, h, (partH_low (by omega)).symm⟩)
    · exact .inr (.inr ⟨rfl, by omega, (partH_high (by omega)).symm⟩)
  · exact .inl ⟨rfl, rfl⟩
end Ch

/-- what stands at the head of a round of Parts: k parts are laid -/
def Ps (w : World) (a b : Int) (t : Bool) (c d : Int) (k : Nat) (A : Option Addr) (cap : Nat) (wr : World) : Prop :=
  LayAt wr w.heap.size a b t c d ∧ wr.ownsRow (w.heap.size + 1) 30 4 (.slice A k cap) k (cellsOf (Ch.parts a b t c d k)) ∧ Below w.heap.size w wr ∧ w.heap.size < wr.heap.size
theorem Ps.append {w wr w1 : World} {a b : Int} {t : Bool} {c d : Int} {k g cap' cap : Nat} {A : Option Addr} {o : Obj} {r : Rc} (h : Ps w a b t c d k A cap wr)
    (own1 : w1.ownsRow (w.heap.size + 1) 30 4 (.slice (some ⟨g, 0, none⟩) (k + 1) cap') (k + 1) (cellsOf (Ch.parts a b t c d k) ++ rcCells r)) (g1 : (wr.alloc o).grownBy w1 (Value.slice A k cap).ownBlock)
    (hr : Ch.part a b t c d k = r) : Ps w a b t c d (k + 1) (some ⟨g, 0, none⟩) cap' w1 := by
  obtain ⟨h1, h2, h3, h4⟩ := h
  have hb : Below (w.heap.size + 1) wr w1 := ((Below.refl _ wr).alloc (by omega) o).grown g1 (by simp; omega) (fun q hq => (h2.lt q hq).1)
  refine ⟨h1.below hb (by omega), ?_, h3.trans (hb.mono (by omega)), by have := hb.size; omega⟩
  rw [Ch.parts_succ, cellsOf_append, hr, show cellsOf [r] = rcCells r from by simp [cellsOf]]
  exact own1
theorem info30 : (Try.prog.info? 30).map (fun i => (i.zero, i.size, i.bytes)) = some (some (.agg #[.int .i64 0, .int .i64 0, .int .i64 0, .int .i64 0]), 4, 32) := by kernel_rfl
end Go.Proofs.Ytfdgipbnbalcjaa
