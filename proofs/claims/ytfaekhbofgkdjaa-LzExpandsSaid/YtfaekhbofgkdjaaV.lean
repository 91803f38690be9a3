/- What the frame of a proof tells of a slice of tokens that came in. -/
import Derived.Test.YtfaekhbofgkdjaaT
import Derived.Test.YtfaekhbofgkdjaaFrame
import Derived.ProofKit
import Derived.Deep.Slices
import Derived.Deep.Strs
namespace Go.Proofs.Ytfaekhbofgkdjaa
open Go.RowKit Go.Deep

theorem cells33 : Try.prog.cellsOf 33 = 3 := by kernel_rfl
theorem cells5 : Try.prog.cellsOf 5 = 1 := by kernel_rfl
theorem cells3 : Try.prog.cellsOf 3 = 1 := by kernel_rfl

theorem tok_open {H : Type} {enc : TypeId × Value → H} {W : World} {spare : Nat → Bool} {held : Bool} {n : Nat} {a : Addr} {cs : List Value} {x : DataW H × List MemPlace} (hc : W.cells? 0 a 3 = some cs)
    (h : DataW.trod enc Try.prog W 0 spare held n 33 cs = some x) : ∃ t : Lz.Tok, TokOk t ∧ W.cell? (a.add 0) = some (.int .u8 t.lit) ∧ W.cell? (a.add 1) = some (.int .i64 t.len) ∧ W.cell? (a.add 2) = some (.int .i64 t.dist) := by
  obtain ⟨_, hl, hcell⟩ := World.cells?_some hc
  match cs, hl with
  | [v0, v1, v2], _ =>
    obtain ⟨y0, y1, y2, m, _, _, h0, h1, h2⟩ := trod_struct3 Try.underlying33 h
    simp only [cells5, cells3, List.drop_zero, List.drop_succ_cons, List.take_succ_cons, List.take_zero] at h0 h1 h2
    obtain ⟨u, e0, _, w0⟩ := DataW.trod_int Try.underlying5 h0
    obtain ⟨l, e1, _, w1⟩ := DataW.trod_int Try.underlying3 h1
    obtain ⟨d, e2, _, w2⟩ := DataW.trod_int Try.underlying3 h2
    simp only [List.cons.injEq, and_true] at e0 e1 e2
    subst e0 e1 e2
    refine ⟨⟨u, l, d⟩, ?_, hcell 0 (by omega), hcell 1 (by omega), hcell 2 (by omega)⟩
    have b0 := wf_u8 w0
    have b1 := wf_i64 w1
    have b2 := wf_i64 w2
    simp only [TokOk]; omega

theorem toks_open {H : Type} {enc : TypeId × Value → H} {W : World} {spare : Nat → Bool} {held : Bool} {fuel : Nat} {a : Option Addr} {len cap : Nat} {x : DataW H × List MemPlace} (h : DataW.trod enc Try.prog W 0 spare held fuel 24 [.slice a len cap] = some x) :
    ∃ ts, Ts W W.heap.size a len ts ∧ len ≤ maxLen := by
  rcases open_slice Try.underlying24 h with ⟨hcs, _⟩ | ⟨a', l, c, m, n, D, Pl, hcs, _, hl, hm, hmm, _, hel⟩
  · simp at hcs
    obtain ⟨rfl, rfl, rfl⟩ := hcs
    exact ⟨[], Ts.nil _ _ _, by unfold maxLen; omega⟩
  · simp at hcs
    obtain ⟨rfl, rfl, rfl⟩ := hcs
    have hml : len ≤ m := by rw [hmm]; split <;> omega
    rw [cells33] at hel
    have one : ∀ i, i < len → ∃ t : Lz.Tok, TokOk t ∧ W.cell? ((a'.add (i * 3)).add 0) = some (.int .u8 t.lit) ∧ W.cell? ((a'.add (i * 3)).add 1) = some (.int .i64 t.len) ∧ W.cell? ((a'.add (i * 3)).add 2) = some (.int .i64 t.dist) := fun i hi => by
      obtain ⟨cs, hc, ht⟩ := hel i (by omega)
      exact tok_open hc ht
    obtain ⟨f, hf⟩ : ∃ f : Nat → Lz.Tok, ∀ i, i < len → TokOk (f i) ∧ W.cell? ((a'.add (i * 3)).add 0) = some (.int .u8 (f i).lit) ∧ W.cell? ((a'.add (i * 3)).add 1) = some (.int .i64 (f i).len) ∧ W.cell? ((a'.add (i * 3)).add 2) = some (.int .i64 (f i).dist) := by
      refine ⟨fun i => if h : i < len then Classical.choose (one i h) else ⟨0, 0, 0⟩, fun i hi => ?_⟩
      simp only [hi, dif_pos]
      exact Classical.choose_spec (one i hi)
    refine ⟨(List.range len).map f, ⟨by simp, fun t ht => ?_, fun hn => ?_⟩, by omega⟩
    · obtain ⟨i, hi, rfl⟩ := List.mem_map.1 ht
      exact (hf i (List.mem_range.1 hi)).1
    · obtain ⟨b, off, spot⟩ := a'
      have hspot : spot = none := by simpa [Addr.add] using World.cell?_spot (hf 0 hn).2.1
      subst hspot
      have hadd : ∀ o j, (⟨b, o, none⟩ : Addr).add j = ⟨b, o + j, none⟩ := fun o j => by unfold Addr.add; split <;> simp_all
      simp only [hadd] at hf
      refine ⟨b, off, rfl, World.block_lt_of_cell? W ⟨b, _, none⟩ (hf 0 hn).2.1, fun j t ht => ?_⟩
      have hj : j < len := by
        rcases Nat.lt_or_ge j len with h1 | h1
        · exact h1
        · rw [List.getElem?_eq_none (by simpa using h1)] at ht; cases ht
      rw [List.getElem?_map, List.getElem?_range hj] at ht
      injection ht with ht
      subst ht
      exact (hf j hj).2
end Go.Proofs.Ytfaekhbofgkdjaa
