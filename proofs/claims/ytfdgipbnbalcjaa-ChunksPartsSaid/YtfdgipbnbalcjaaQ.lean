/- What the frame of a proof tells of a layout that came in. -/
import Derived.Test.YtfdgipbnbalcjaaProg
import Derived.Test.YtfdgipbnbalcjaaFrame
import Derived.Test.YtfdgipbnbalcjaaB
import Derived.ProofKit
import Derived.Lib.SmallJoins
namespace Go.Proofs.Ytfdgipbnbalcjaa
open Go.RowKit Go.Joins Go.WideShapes

theorem cells23 : Try.prog.cellsOf 23 = 5 := by kernel_rfl
theorem cells3 : Try.prog.cellsOf 3 = 1 := by kernel_rfl
theorem cells4 : Try.prog.cellsOf 4 = 1 := by kernel_rfl
theorem array5 {α : Type} {cs : Array α} (h : cs.size = 5) : ∃ c0 c1 c2 c3 c4, cs = #[c0, c1, c2, c3, c4] := by
  obtain ⟨l⟩ := cs
  match l, h with
  | [c0, c1, c2, c3, c4], _ => exact ⟨c0, c1, c2, c3, c4, rfl⟩

theorem lay_open {H : Type} {enc : TypeId × Value → H} {W : World} {spare : Nat → Bool} {held : Bool} {r : Reach} {b0 : Nat} {v : Value} {d : DataW H} {p : List MemPlace} (hv : Value.okWide Try.prog W r b0 23 v)
    (h : DataW.Trod enc Try.prog W 0 spare held 23 v d p) : ∃ a b t c e, v = .agg #[.int .i64 a, .int .i64 b, .bool t, .int .i64 c, .int .i64 e] ∧ I64 c ∧ I64 e := by
  obtain ⟨cs, rfl, hsz⟩ := okWide_struct Try.underlying23 hv
  rw [cells23] at hsz
  obtain ⟨c0, c1, c2, c3, c4, rfl⟩ := array5 hsz
  obtain ⟨fuel, hf⟩ := h
  obtain ⟨xs, n, _, _, _, hlen, hx⟩ := DataW.trod_struct Try.underlying23 hf
  have hl : xs.length = 5 := by simpa using hlen
  have h0 := hx 0 _ rfl
  have h1 := hx 1 _ rfl
  have h2 := hx 2 _ rfl
  have h3 := hx 3 _ rfl
  have h4 := hx 4 _ rfl
  simp [Value.cells, cells3] at h0
  rw [List.getElem?_eq_getElem (by omega)] at h0
  simp [Value.cells, cells3] at h1
  rw [List.getElem?_eq_getElem (by omega)] at h1
  simp [Value.cells, cells4] at h2
  rw [List.getElem?_eq_getElem (by omega)] at h2
  simp [Value.cells, cells3] at h3
  rw [List.getElem?_eq_getElem (by omega)] at h3
  simp [Value.cells, cells3] at h4
  rw [List.getElem?_eq_getElem (by omega)] at h4
  obtain ⟨a, e0, _, w0⟩ := DataW.trod_int Try.underlying3 h0
  obtain ⟨b, e1, _, w1⟩ := DataW.trod_int Try.underlying3 h1
  obtain ⟨t, e2, _⟩ := DataW.trod_bool Try.underlying4 h2
  obtain ⟨c, e3, _, w3⟩ := DataW.trod_int Try.underlying3 h3
  obtain ⟨e, e4, _, w4⟩ := DataW.trod_int Try.underlying3 h4
  simp only [List.cons.injEq, and_true] at e0 e1 e2 e3 e4
  subst e0 e1 e2 e3 e4
  exact ⟨a, b, t, c, e, rfl, wf_i64 w3, wf_i64 w4⟩
end Go.Proofs.Ytfdgipbnbalcjaa
