/- append of tokens that came in, or that another call made, onto a slice of the call's own: the source may be nil or empty. -/
import Derived.Test.YtfaekhbofgkdjaaT
namespace Go.Proofs.Ytfaekhbofgkdjaa
open Go.RowKit

section
variable {P : Program} (w : World)
theorem run_append_none3 (base : Nat) (t ty e : TypeId) (i : TypeInfo) (ht : P.underlying t = some (.slice e)) (hi : P.info? e = some i)
    (v : Value) (n : Nat) (xs : List Value) (hown : w.ownsRow base e 3 v n xs) (c : Nat) : (Builtin.append_ #[t, t] ty #[v, .slice none 0 c]).run P w = .ok v w := by
  rcases hown.2 with ⟨rfl, rfl⟩ | ⟨g, cap, cur, rfl, _, _, hnc, _⟩
  · simp [Builtin.append_, run_underlying ht, sizeOf, typeInfo, hi, Builtin.lenOf, Builtin.firstCells]
  · simp [Builtin.append_, run_underlying ht, sizeOf, typeInfo, hi, Builtin.lenOf, Builtin.firstCells, hnc, storeCells]

theorem run_append_ts (base : Nat) (t ty e : TypeId) (i : TypeInfo) (z : Value) (ht : P.underlying t = some (.slice e)) (hi : P.info? e = some i) (hz : i.zero = some z)
    (hsize : i.size = 3) (hby : i.bytes = 24) (hzs : z.cells.size = 3)
    (v : Value) (n : Nat) (ts : List Lz.Tok) (hown : w.ownsRow base e 3 v n (cellsOf ts))
    (B : Nat) (A : Option Addr) (m c : Nat) (news : List Lz.Tok) (hr : Ts w B A m news)
    (hbytes : (n + m) * 24 ≤ 140737488355328) (hbase : base ≤ w.heap.size) :
    ∃ A' c' w', (Builtin.append_ #[t, t] ty #[v, .slice A m c]).run P w = .ok (.slice A' (n + m) c') w' ∧ w'.ownsRow base e 3 (.slice A' (n + m) c') (n + m) (cellsOf (ts ++ news)) ∧ n + m ≤ c' ∧ c' ≤ maxLen ∧
      w.grownBy w' v.ownBlock ∧ ((Value.slice A' (n + m) c').ownBlock = v.ownBlock ∨ (Value.slice A' (n + m) c').ownBlock = some w.heap.size) := by
  rcases A with _ | ad
  · have hm : m = 0 := by
      rcases Nat.eq_zero_or_pos m with h0 | h0
      · exact h0
      · obtain ⟨_, _, h, _⟩ := hr.2.2 h0
        cases h
    subst hm
    have hn : news = [] := List.eq_nil_of_length_eq_zero hr.1
    subst hn
    obtain ⟨A', c', rfl, h1, h2⟩ := own_form3 hown
    exact ⟨A', c', w, run_append_none3 w base t ty e i ht hi _ n _ hown c, by simpa using hown, h1, h2, World.grownBy.refl w _, .inl rfl⟩
  · obtain ⟨v', w', hrun, h2, h3, _, h5⟩ := run_append_own_at (P := P) w base t ty e i z 3 24 ht hi hz hsize hby hzs (by omega) v n _ hown ad m c (cellsOf news) (by rw [cellsOf_length, hr.1]) hr.cells (cellsOf_oneCell _) (by unfold maxLen; omega) (by omega) hbase
    obtain ⟨A', c', rfl, k1, k2⟩ := own_form3 h2
    exact ⟨A', c', w', hrun, by rw [cellsOf_append]; exact h2, k1, k2, h3, h5⟩

theorem wpList_append_ts {ops : Array Oper} {rest : List Oper} {o : Oper} {a : Act} {Q : Exit → Act → World → Prop} (hgd : o.guard = none) (s x : Operand) (t : TypeId)
    (ho : o.op = .call { callee := .builtin .append, args := #[s, x], argTypes := #[t, t] })
    (base : Nat) (e : TypeId) (i : TypeInfo) (z : Value) (ht : P.underlying t = some (.slice e)) (hi : P.info? e = some i) (hz : i.zero = some z)
    (hsize : i.size = 3) (hby : i.bytes = 24) (hzs : z.cells.size = 3)
    (v : Value) (n : Nat) (ts : List Lz.Tok) (hs : a.eval s = v) (hown : w.ownsRow base e 3 v n (cellsOf ts))
    (B : Nat) (A : Option Addr) (m c : Nat) (news : List Lz.Tok) (hx : a.eval x = .slice A m c) (hr : Ts w B A m news)
    (hbytes : (n + m) * 24 ≤ 140737488355328) (hbase : base ≤ w.heap.size)
    (h : ∀ A' c' w', w'.ownsRow base e 3 (.slice A' (n + m) c') (n + m) (cellsOf (ts ++ news)) → n + m ≤ c' → c' ≤ maxLen → w.grownBy w' v.ownBlock →
      ((Value.slice A' (n + m) c').ownBlock = v.ownBlock ∨ (Value.slice A' (n + m) c').ownBlock = some w.heap.size) → wpList P ops Q rest (a.put o.dst (.slice A' (n + m) c')) w') : wpList P ops Q (o :: rest) a w :=
  wpList_plain hgd fun K hK => by
    obtain ⟨A', c', w', hrun, h2, h3, h4, h5, h6⟩ := run_append_ts (P := P) w base t o.type e i z ht hi hz hsize hby hzs v n ts hown B A m c news hr hbytes hbase
    unfold Oper.wp execOp
    simp only [ho, resolve, invoke, builtin, Sem.run_bind, Sem.run_pure, Result.andThen_ok, List.map_toArray, List.map_cons, List.map_nil, hs, hx, hrun]
    exact hK _ _ (h A' c' w' h2 h3 h4 h5 h6)
end
/-- what came in is as it was behind such an append -/
theorem below_append3 {B : Nat} {w0 w w' : World} {v : Value} {base : Nat} {e : TypeId} {size n : Nat} {xs : List Value} (hb : Below B w0 w) (hown : w.ownsRow base e size v n xs) (hB : B ≤ base) (hs : B ≤ w.heap.size) (hg : w.grownBy w' v.ownBlock) : Below B w0 w' :=
  hb.grown hg hs fun k hk => Nat.le_trans hB (hown.lt k hk).1
end Go.Proofs.Ytfaekhbofgkdjaa
