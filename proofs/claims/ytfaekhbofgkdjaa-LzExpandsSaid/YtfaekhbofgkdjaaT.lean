/- Words for a slice of tokens: it reads as a list of tokens, whatever its address. -/
import Derived.Test.YtfaekhbofgkdjaaA
namespace Go.Proofs.Ytfaekhbofgkdjaa
open Go.RowKit

def TokOk (t : Lz.Tok) : Prop := 0 ≤ t.lit ∧ t.lit ≤ 255 ∧ -9223372036854775808 ≤ t.len ∧ t.len ≤ 9223372036854775807 ∧ -9223372036854775808 ≤ t.dist ∧ t.dist ≤ 9223372036854775807
def tokCells (t : Lz.Tok) : List Value := [.int .u8 t.lit, .int .i64 t.len, .int .i64 t.dist]
def cellsOf (ts : List Lz.Tok) : List Value := ts.flatMap tokCells
theorem cellsOf_append (a b : List Lz.Tok) : cellsOf (a ++ b) = cellsOf a ++ cellsOf b := by simp [cellsOf]
theorem cellsOf_length (ts : List Lz.Tok) : (cellsOf ts).length = ts.length * 3 := by
  induction ts with
  | nil => rfl
  | cons t ts ih =>
    have : cellsOf (t :: ts) = tokCells t ++ cellsOf ts := by simp [cellsOf]
    rw [this, List.length_append, ih]; simp [tokCells]; omega
theorem cellsOf_at (ts : List Lz.Tok) (j : Nat) (t : Lz.Tok) (h : ts[j]? = some t) :
    (cellsOf ts)[j * 3]? = some (.int .u8 t.lit) ∧ (cellsOf ts)[j * 3 + 1]? = some (.int .i64 t.len) ∧ (cellsOf ts)[j * 3 + 2]? = some (.int .i64 t.dist) := by
  induction ts generalizing j with
  | nil => simp at h
  | cons x ts ih =>
    have e : cellsOf (x :: ts) = .int .u8 x.lit :: .int .i64 x.len :: .int .i64 x.dist :: cellsOf ts := by simp [cellsOf, tokCells]
    rw [e]
    cases j with
    | zero => simp at h; subst h; exact ⟨rfl, rfl, rfl⟩
    | succ j =>
      have := ih j (by simpa using h)
      rw [show (j + 1) * 3 = j * 3 + 3 from by omega]
      simpa using this
theorem cellsOf_oneCell (ts : List Lz.Tok) : ∀ u ∈ cellsOf ts, u.oneCell' = true := by
  intro u hu
  simp only [cellsOf, List.mem_flatMap, tokCells, List.mem_cons, List.not_mem_nil, or_false] at hu
  obtain ⟨t, _, rfl | rfl | rfl⟩ := hu <;> rfl

/-- the slice value '.slice A n c' holds the tokens ts, below block B -/
def Ts (w : World) (B : Nat) (A : Option Addr) (n : Nat) (ts : List Lz.Tok) : Prop :=
  ts.length = n ∧ (∀ t ∈ ts, TokOk t) ∧
    (0 < n → ∃ b off, A = some ⟨b, off, none⟩ ∧ b < B ∧ ∀ j t, ts[j]? = some t → w.cell? ⟨b, off + j * 3, none⟩ = some (.int .u8 t.lit) ∧ w.cell? ⟨b, off + j * 3 + 1, none⟩ = some (.int .i64 t.len) ∧ w.cell? ⟨b, off + j * 3 + 2, none⟩ = some (.int .i64 t.dist))

section
variable {w w' : World} {B B' n : Nat} {A : Option Addr} {ts : List Lz.Tok}
theorem Ts.nil (w : World) (B : Nat) (A : Option Addr) : Ts w B A 0 [] := ⟨rfl, by simp, fun h => absurd h (by omega)⟩
theorem Ts.at_ (h : Ts w B A n ts) {k : Nat} (hk : k < n) : ∃ b off t, A = some ⟨b, off, none⟩ ∧ b < B ∧ ts[k]? = some t ∧ TokOk t ∧
    w.cell? ⟨b, off + k * 3, none⟩ = some (.int .u8 t.lit) ∧ w.cell? ⟨b, off + k * 3 + 1, none⟩ = some (.int .i64 t.len) ∧ w.cell? ⟨b, off + k * 3 + 2, none⟩ = some (.int .i64 t.dist) := by
  obtain ⟨b, off, e, hb, hc⟩ := h.2.2 (by omega)
  have hk' : k < ts.length := by rw [h.1]; exact hk
  have ht : ts[k]? = some ts[k] := List.getElem?_eq_getElem hk'
  obtain ⟨c0, c1, c2⟩ := hc k _ ht
  exact ⟨b, off, ts[k], e, hb, ht, h.2.1 _ (List.getElem_mem hk'), c0, c1, c2⟩
theorem Ts.keep (h : Ts w B A n ts) (hk : ∀ b o, b < B → w'.cell? ⟨b, o, none⟩ = w.cell? ⟨b, o, none⟩) : Ts w' B A n ts :=
  ⟨h.1, h.2.1, fun hn => by
    obtain ⟨b, off, e, hb, hc⟩ := h.2.2 hn
    exact ⟨b, off, e, hb, fun j t ht => by
      rw [hk _ _ hb, hk _ _ hb, hk _ _ hb]; exact hc j t ht⟩⟩
theorem Ts.more (h : Ts w B A n ts) (hB : B ≤ B') : Ts w B' A n ts :=
  ⟨h.1, h.2.1, fun hn => by
    obtain ⟨b, off, e, hb, hc⟩ := h.2.2 hn
    exact ⟨b, off, e, by omega, hc⟩⟩
theorem Ts.below (h : Ts w B A n ts) (hb : Below B w w') : Ts w' B A n ts := h.keep fun b o hp => hb.cell (p := ⟨b, o, none⟩) hp
theorem Ts.drewN (h : Ts w B A n ts) (k : Nat) : Ts (w.drewN k) B A n ts := h
theorem Ts.alloc (h : Ts w B A n ts) (hB : B ≤ w.heap.size) (o : Obj) : Ts (w.alloc o) B A n ts := h.keep fun b o' hp => World.cell?_alloc_lt w o _ (by show b < _; omega)
/-- as the laws on appends ask it -/
theorem Ts.cells {ad : Addr} (h : Ts w B (some ad) n ts) : ∀ (j : Nat) (u : Value), (cellsOf ts)[j]? = some u → w.cell? (ad.add j) = some u := by
  intro j u hu
  have hj : j < ts.length * 3 := by
    rcases Nat.lt_or_ge j (ts.length * 3) with h | h
    · exact h
    · rw [List.getElem?_eq_none (by rw [cellsOf_length]; exact h)] at hu; cases hu
  obtain ⟨b, off, e, _, hc⟩ := h.2.2 (by have := h.1; omega)
  injection e with e
  subst e
  have he : (⟨b, off, none⟩ : Addr).add j = ⟨b, off + j, none⟩ := by unfold Addr.add; split <;> simp_all
  rw [he]
  have hq : j / 3 < ts.length := by omega
  obtain ⟨i, hi⟩ : ∃ i, i = j / 3 := ⟨_, rfl⟩
  rw [← hi] at hq
  have ht : ts[i]? = some ts[i] := List.getElem?_eq_getElem hq
  obtain ⟨c0, c1, c2⟩ := hc _ _ ht
  obtain ⟨d0, d1, d2⟩ := cellsOf_at ts _ _ ht
  have hmod : j = i * 3 ∨ j = i * 3 + 1 ∨ j = i * 3 + 2 := by omega
  rcases hmod with e | e | e <;> subst e
  · rw [d0] at hu; rw [c0]; exact hu
  · rw [d1] at hu; rw [← Nat.add_assoc, c1]; exact hu
  · rw [d2] at hu; rw [← Nat.add_assoc, c2]; exact hu
/-- a slice that the call made, and that owns its tokens -/
theorem Ts.of_own {base : Nat} {e : TypeId} {c : Nat} (h : w.ownsRow base e 3 (.slice A n c) n (cellsOf ts)) (hx : ∀ t ∈ ts, TokOk t) : Ts w w.heap.size A n ts := by
  have hl : ts.length = n := by have := h.1; rw [cellsOf_length] at this; omega
  refine ⟨hl, hx, fun hn => ?_⟩
  obtain ⟨g, cap, hv, _, hlt⟩ := h.form hn
  have hA : A = some ⟨g, 0, none⟩ := by injection hv
  subst hA
  refine ⟨g, 0, rfl, hlt, fun j t ht => ?_⟩
  have he : ∀ j, (⟨g, 0, none⟩ : Addr).add j = ⟨g, 0 + j, none⟩ := fun j => by unfold Addr.add; split <;> simp_all
  obtain ⟨d0, d1, d2⟩ := cellsOf_at ts j t ht
  have c0 := h.cells (g := g) rfl _ _ d0
  have c1 := h.cells (g := g) rfl _ _ d1
  have c2 := h.cells (g := g) rfl _ _ d2
  rw [he] at c0 c1 c2
  exact ⟨c0, by rw [Nat.add_assoc]; exact c1, by rw [Nat.add_assoc]; exact c2⟩
end

theorem bs_one_at {w : World} {e : TypeId} {fr : Nat × Nat} {x : Int} {g : Nat} (hg : w.heap.size = g) (h0 : 0 ≤ x) (h1 : x ≤ 255) : Bs (w.alloc (.cells #[.int .u8 x] e fr)) (g + 1) (some ⟨g, 0, none⟩) 1 [x] := by
  subst hg; exact bs_one w e fr x h0 h1
theorem own_form3 {w : World} {base : Nat} {e : TypeId} {size : Nat} {v : Value} {n : Nat} {xs : List Value} (h : w.ownsRow base e size v n xs) : ∃ A c, v = .slice A n c ∧ n ≤ c ∧ c ≤ maxLen := by
  rcases h.2 with ⟨rfl, rfl⟩ | ⟨g, cap, cur, rfl, _, _, hn, hc, _⟩
  · exact ⟨none, 0, rfl, Nat.le_refl _, by unfold maxLen; omega⟩
  · exact ⟨_, cap, rfl, hn, hc⟩
theorem own_drewN3 {w : World} {base : Nat} {e : TypeId} {size : Nat} {v : Value} {n : Nat} {xs : List Value} (h : w.ownsRow base e size v n xs) (m : Nat) : (w.drewN m).ownsRow base e size v n xs := h

/-- a block that a row does not lie in is as it was behind an append to that row -/
theorem cell_far {w w' : World} {row : Option Nat} (hg : w.grownBy w' row) {b o : Nat} {v : Value} (hc : w.cell? ⟨b, o, none⟩ = some v) (hne : row ≠ some b) : w'.cell? ⟨b, o, none⟩ = some v := by
  have hlt : b < w.heap.size := World.block_lt_of_cell? w ⟨b, o, none⟩ hc
  rw [World.cell?_of_block (hg.block b hlt (fun e => hne e.symm))]
  exact hc
theorem own_at {w : World} {base : Nat} {e : TypeId} {size : Nat} {A : Option Addr} {n c : Nat} {xs : List Value} (h : w.ownsRow base e size (.slice A n c) n xs) (hn : 0 < n) : ∃ g, A = some ⟨g, 0, none⟩ ∧ base ≤ g ∧ g < w.heap.size := by
  obtain ⟨g, cap, hv, _⟩ := h.form hn
  have hA : A = some ⟨g, 0, none⟩ := by injection hv
  subst hA
  exact ⟨g, rfl, (h.lt g rfl).1, (h.lt g rfl).2⟩
theorem own_cell {w : World} {base : Nat} {e : TypeId} {k : IntKind} {g n c : Nat} {xs : List Int} (h : w.ownsRow base e 1 (.slice (some ⟨g, 0, none⟩) n c) n (xs.map (Value.int k))) {j : Nat} (hj : j < n) :
    w.cell? ⟨g, j, none⟩ = some (.int k (xs.getD j 0)) := by
  have hl : xs.length = n := by have := h.1; simpa using this
  rw [h.cellAt j (by omega), List.getElem?_map, List.getElem?_eq_getElem (by omega), List.getD_eq_getElem?_getD, List.getElem?_eq_getElem (by omega)]
  rfl
end Go.Proofs.Ytfaekhbofgkdjaa
