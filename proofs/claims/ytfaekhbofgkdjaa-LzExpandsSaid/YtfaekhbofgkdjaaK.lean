/- Words for the finder: what a call may have written; the map's values; the places ahead. -/
import Derived.Test.YtfaekhbofgkdjaaT
import Derived.Maps.OwnSet
import Derived.Deep.AppendLies
namespace Go.Proofs.Ytfaekhbofgkdjaa
open Go.RowKit

/-- w' is w but for the blocks in S, and new ones -/
structure Kpt (S : Nat → Prop) (w w' : World) : Prop where
  os : w'.os = w.os
  tape : w'.tape = w.tape
  output : w'.output = w.output
  size : w.heap.size ≤ w'.heap.size
  block : ∀ k, k < w.heap.size → ¬ S k → w'.heap[k]? = w.heap[k]?
section
variable {S : Nat → Prop} {a w w' : World}
theorem Kpt.refl (S : Nat → Prop) (w : World) : Kpt S w w := ⟨rfl, rfl, rfl, Nat.le_refl _, fun _ _ _ => rfl⟩
theorem Kpt.drewN (h : Kpt S a w) (n : Nat) : Kpt S a (w.drewN n) := ⟨h.os, h.tape, h.output, h.size, h.block⟩
theorem Kpt.alloc (h : Kpt S a w) (o : Obj) : Kpt S a (w.alloc o) :=
  ⟨h.os, h.tape, h.output, by have := h.size; simp; omega, fun k hk hS => (Below.heap_alloc _ _ _ (Nat.lt_of_lt_of_le hk h.size)).trans (h.block k hk hS)⟩
theorem Kpt.setCell (h : Kpt S a w) {p : Addr} (hp : S p.block ∨ a.heap.size ≤ p.block) (u : Value) : Kpt S a (w.setCell p u) :=
  ⟨h.os, h.tape, h.output, by have := h.size; simp [World.setCell]; omega, fun k hk hS => (Below.heap_setCell _ _ _ _ (fun e => by subst e; rcases hp with hp | hp; exact hS hp; omega)).trans (h.block k hk hS)⟩
theorem Kpt.grown {row : Option Nat} (h : Kpt S a w) (hg : w.grownBy w' row) (hr : ∀ g, row = some g → S g ∨ a.heap.size ≤ g) : Kpt S a w' :=
  ⟨hg.os.trans h.os, hg.tape.trans h.tape, hg.output.trans h.output, Nat.le_trans h.size hg.size, fun k hk hS =>
    (hg.block k (Nat.lt_of_lt_of_le hk h.size) (fun e => by rcases hr k e.symm with h1 | h1; exact hS h1; omega)).trans (h.block k hk hS)⟩
theorem Kpt.below {B : Nat} {w0 : World} (h : Kpt S w w') (hb : Below B w0 w) (hS : ∀ k, S k → B ≤ k) (hB : B ≤ w.heap.size) : Below B w0 w' :=
  hb.trans ⟨h.os, h.tape, h.output, h.size, fun k hk => h.block k (by omega) (fun hs => by have := hS k hs; omega)⟩
theorem Kpt.own {base : Nat} {e : TypeId} {size : Nat} {v : Value} {n : Nat} {xs : List Value} (h : Kpt S w w') (ho : w.ownsRow base e size v n xs) (hS : ∀ g, v.ownBlock = some g → ¬ S g) : w'.ownsRow base e size v n xs := by
  refine ⟨ho.1, ho.2.imp id ?_⟩
  rintro ⟨g, cap, cur, e1, e2, e3, r⟩
  have hlt : g < w.heap.size := by
    rcases Nat.lt_or_ge g w.heap.size with hl | hl
    · exact hl
    · rw [Array.getElem?_eq_none hl] at e3; cases e3
  exact ⟨g, cap, cur, e1, e2, by rw [h.block g hlt (hS g (by rw [e1]; rfl)), e3], r⟩
end

/-- the keys are plain ints -/
theorem key3l : Maps.Keyed Try.prog 3 := Maps.int_keyed Try.underlying3
theorem zero3 (w : World) : (zeroValue 3).run Try.prog w = .ok (.int .i64 0) w := by kernel_rfl

/-- the map's values lie below i -/
def Low (D : DataW Unit) (i : Nat) : Prop := Maps.IsMap D ∧ ∀ kl, Maps.has D kl = true → ∃ c : Nat, c < i ∧ D.atKey kl (.lit (.int .i64 0)) = .lit (.int .i64 c)
theorem Low.empty : Low (.map []) 0 := ⟨Maps.isMap_empty, fun kl h => by simp [Maps.has] at h⟩
theorem Low.more {D : DataW Unit} {i j : Nat} (h : Low D i) (hj : i ≤ j) : Low D j := ⟨h.1, fun kl hk => by obtain ⟨c, hc, e⟩ := h.2 kl hk; exact ⟨c, by omega, e⟩⟩
theorem Low.put {D : DataW Unit} {i : Nat} (h : Low D i) (κ : Int) : Low (D.put (.int .i64 κ) (.lit (.int .i64 i))) (i + 1) := by
  refine ⟨h.1.put _ _, fun kl hk => ?_⟩
  by_cases e : kl = .int .i64 κ
  · subst e
    exact ⟨i, by omega, Maps.atKey_put_same h.1 (show WideAt.IsKeyLit (.int .i64 κ) from trivial) _ _⟩
  · rw [Maps.has_put_other e] at hk
    obtain ⟨c, hc, hat⟩ := h.2 kl hk
    exact ⟨c, by omega, by rw [Maps.atKey_put_other e]; exact hat⟩
theorem look_of {w : World} {mb n i : Nat} {D : DataW Unit} (h : w.ownsMap Try.prog 3 (plainElem Try.prog 3) mb n D) (hl : Low D i) {κ : Int} (hκ : (Lit.int .i64 κ).wf = true) :
    ∃ (c : Int) (ok : Bool), (∀ m, (Instr.lookup 37 (.map (some mb)) (.int .i64 κ) true).run Try.prog (w.drewN m) = .ok (.tuple #[.int .i64 c, .bool ok]) (w.drewN m)) ∧ (ok = true → 0 ≤ c ∧ c < i) := by
  have hkey := Maps.keyOf_int_mk Try.underlying3 hκ
  have run : ∀ m, ∃ c, (Instr.lookup 37 (.map (some mb)) (.int .i64 κ) true).run Try.prog (w.drewN m) = .ok (.tuple #[.int .i64 c, .bool (Maps.has D (.int .i64 κ))]) (w.drewN m) ∧ D.atKey (.int .i64 κ) (.lit (.int .i64 0)) = .lit (.int .i64 c) := fun m => by
    obtain ⟨v, ps, hrun, hv⟩ := World.ownsMap.look_ok (w := w.drewN m) h key3l Try.underlying37 (zero3 _) (plainElem_int Try.underlying3 (by decide)) hkey
    obtain ⟨c, rfl, hz, _⟩ := plainElem_int_inv Try.underlying3 hv
    injection hz with hz _
    exact ⟨c, hrun, hz⟩
  obtain ⟨c, _, hc⟩ := run 0
  refine ⟨c, Maps.has D (.int .i64 κ), fun m => ?_, fun hok => ?_⟩
  · obtain ⟨c', hr, hc'⟩ := run m
    rw [hc] at hc'
    injection hc' with hc'
    injection hc' with _ hc'
    rw [hr, hc']
  · obtain ⟨c', hlt, e⟩ := hl.2 _ hok
    rw [hc] at e
    injection e with e
    injection e with _ e
    omega

/-- the finder in block fb: its map in block mb; the places ahead, as many as there are noted ones -/
def Fnd (w : World) (mb fb base i : Nat) (A : Option Addr) (c : Nat) (ah : List Int) : Prop :=
  w.cell? ⟨fb, 0, none⟩ = some (.map (some mb)) ∧ w.cell? ⟨fb, 1, none⟩ = some (.slice A i c) ∧ w.frozen? ⟨fb, 1, none⟩ = false ∧
    (∃ D : DataW Unit, w.ownsMap Try.prog 3 (plainElem Try.prog 3) mb i D ∧ Low D i) ∧ w.ownsRow base 3 1 (.slice A i c) i (ah.map (Value.int .i64)) ∧ (∀ j, j < i → -1 ≤ ah.getD j 0 ∧ ah.getD j 0 < i)

theorem bs_cut_some {w : World} {B n b off k cap : Nat} {xs : List Int} (h : Bs w B (some ⟨b, off, none⟩) n xs) (hk : k < n) (hc : n ≤ cap) : Bs w B (some ⟨b, off + k, none⟩) (n - k) (xs.drop k) := by
  have := h.cut (Nat.le_of_lt hk) hc
  have e : (⟨b, off, none⟩ : Addr).add k = ⟨b, off + k, none⟩ := by unfold Addr.add; split <;> simp_all
  rw [if_neg (by omega)] at this
  simpa [e] using this
theorem quiet_draws {P : Program} {f : FuncId} {args : Array Value} {w : World} {n : Nat} {v : Value}
    (h : Calls P f args (w.drewN n) fun e w' => e = .returned v ∧ ∃ m, w' = (w.drewN n).drewN m) : Calls P f args (w.drewN n) fun e w'' => e = .returned v ∧ ∃ m, w'' = w.drewN m :=
  h.mono fun _ _ ⟨he, m, hm⟩ => ⟨he, n + m, by rw [hm, World.drewN_drewN]⟩
end Go.Proofs.Ytfaekhbofgkdjaa
