/- The finder's note: one place more is noted. -/
import Derived.Test.YtfaekhbofgkdjaaK
namespace Go.Proofs.Ytfaekhbofgkdjaa
open Go.RowKit

theorem info3 : (Try.prog.info? 3).map (fun i => (i.zero, i.size, i.bytes)) = some (some (.int .i64 0), 1, 8) := by kernel_rfl

def NS (mb fb i : Nat) (A : Option Addr) (c : Nat) : Nat → Prop := fun k => k = fb ∨ k = mb ∨ (Value.slice A i c).ownBlock = some k
/-- half way: the new place stands in the places ahead -/
structure Half (w : World) (mb fb base i : Nat) (A : Option Addr) (c B b off n : Nat) (xs : List Int) (D : DataW Unit) (g cap : Nat) (ah : List Int) (w2 : World) : Prop where
  cell0 : w2.cell? ⟨fb, 0, none⟩ = some (.map (some mb))
  cell1 : w2.cell? ⟨fb, 1, none⟩ = some (.slice (some ⟨g, 0, none⟩) (i + 1) cap)
  frozen : w2.frozen? ⟨fb, 1, none⟩ = false
  map : w2.ownsMap Try.prog 3 (plainElem Try.prog 3) mb i D
  own : w2.ownsRow base 3 1 (.slice (some ⟨g, 0, none⟩) (i + 1) cap) (i + 1) (ah.map (Value.int .i64))
  bs : Bs w2 B (some ⟨b, off, none⟩) n xs
  kpt : Kpt (NS mb fb i A c) w w2
  at_ : (Value.slice A i c).ownBlock = some g ∨ w.heap.size ≤ g
  low : ∀ j, j < i + 1 → -1 ≤ ah.getD j 0 ∧ ah.getD j 0 < ((i + 1 : Nat) : Int)

section
variable {w w1 w2 w5 : World} {mb fb base i : Nat} {A : Option Addr} {c B b off n : Nat} {xs : List Int} {D : DataW Unit} {g cap : Nat} {ah : List Int}
theorem note_pre {o : Obj} (f0 : w.cell? ⟨fb, 0, none⟩ = some (.map (some mb))) (f1 : w.cell? ⟨fb, 1, none⟩ = some (.slice A i c)) (f2 : w.frozen? ⟨fb, 1, none⟩ = false) (hrow : ∀ g, (Value.slice A i c).ownBlock = some g → base ≤ g) (hfb : fb < base)
    (g1 : (w.alloc o).grownBy w1 (Value.slice A i c).ownBlock) : w1.cell? ⟨fb, 0, none⟩ = some (.map (some mb)) ∧ w1.cell? ⟨fb, 1, none⟩ = some (.slice A i c) ∧ w1.frozen? ⟨fb, 1, none⟩ = false := by
  have hlt : fb < w.heap.size := World.block_lt_of_cell? w ⟨fb, 0, none⟩ f0
  have hne : some fb ≠ (Value.slice A i c).ownBlock := fun e => by have := hrow _ e.symm; omega
  have hblk : w1.heap[fb]? = w.heap[fb]? := (g1.block fb (by simp; omega) hne).trans (Below.heap_alloc _ _ _ hlt)
  exact ⟨(World.cell?_of_block hblk).trans f0, (World.cell?_of_block hblk).trans f1, (World.frozen?_of_block hblk).trans f2⟩
theorem note_mid {o : Obj} (hf : Fnd w mb fb base i A c ah) (hmap : w.ownsMap Try.prog 3 (plainElem Try.prog 3) mb i D) (hb : Bs w B (some ⟨b, off, none⟩) n xs) (hmf : mb < fb) (hfb : fb < base) (hbase : base ≤ w.heap.size) (hBm : B ≤ mb)
    (g1 : (w.alloc o).grownBy w1 (Value.slice A i c).ownBlock) (own1 : w1.ownsRow base 3 1 (.slice (some ⟨g, 0, none⟩) (i + 1) cap) (i + 1) (ah.map (Value.int .i64) ++ [.int .i64 (-1)])) (at1 : (Value.slice A i c).ownBlock = some g ∨ g = (w.alloc o).heap.size) :
    Half w mb fb base i A c B b off n xs D g cap (ah ++ [-1]) (w1.setCell ⟨fb, 1, none⟩ (.slice (some ⟨g, 0, none⟩) (i + 1) cap)) := by
  obtain ⟨f0, f1, f2, _, hown, hah⟩ := hf
  have hrow : ∀ g, (Value.slice A i c).ownBlock = some g → base ≤ g := fun g hg => (hown.lt g hg).1
  obtain ⟨e0, e1, e2⟩ := note_pre f0 f1 f2 hrow hfb g1
  have hl : ah.length = i := by have := hown.1; simpa using this
  refine ⟨?_, World.cell?_setCell_same _ _ _ e1, ?_, ?_, ?_, ?_, ?_, ?_, ?_⟩
  · rw [World.cell?_setCell_other _ _ _ _ (by simp)]; exact e0
  · rw [World.frozen?_setCell]; exact e2
  · exact ((hmap.alloc o).kept g1 (fun e => by have := hrow _ e.symm; omega)).setCell (by show mb ≠ fb; omega) _
  · have := ownsRow_setCell_below own1 (a := ⟨fb, 1, none⟩) hfb (.slice (some ⟨g, 0, none⟩) (i + 1) cap)
    rw [List.map_append]; exact this
  · exact ((hb.alloc (by omega) o).grown g1 (by simp; omega) (fun g hg => by have := hrow g hg; omega)).setCell (by show B ≤ fb; omega) _
  · refine Kpt.setCell (((Kpt.refl _ w).alloc o).grown g1 (fun g hg => .inl (.inr (.inr hg)))) (.inl (.inl rfl)) _
  · rcases at1 with h | h
    · exact .inl h
    · right; rw [h]; simp
  · intro j hj
    rcases Nat.lt_or_ge j i with h | h
    · have := hah j h
      rw [List.getD_eq_getElem?_getD, List.getElem?_append_left (by omega), ← List.getD_eq_getElem?_getD]
      omega
    · obtain rfl : j = i := by omega
      rw [List.getD_eq_getElem?_getD, List.getElem?_append_right (by omega), hl]
      simp; omega
theorem Half.drewN (h : Half w mb fb base i A c B b off n xs D g cap ah w2) (m : Nat) : Half w mb fb base i A c B b off n xs D g cap ah (w2.drewN m) :=
  ⟨h.cell0, h.cell1, h.frozen, h.map, h.own, h.bs, h.kpt.drewN m, h.at_, h.low⟩
theorem Half.store (h : Half w mb fb base i A c B b off n xs D g cap ah w2) (hmf : mb < fb) (hfb : fb < base) (hBm : B ≤ mb) {was : Int} (h0 : -1 ≤ was) (h1 : was < i) :
    Half w mb fb base i A c B b off n xs D g cap (ah.set i was) (w2.setCell ⟨g, i, none⟩ (.int .i64 was)) := by
  have hg := (h.own.lt g rfl).1
  refine ⟨?_, ?_, ?_, h.map.setCell (by show mb ≠ g; omega) _, ?_, h.bs.setCell (by show B ≤ g; omega) _, h.kpt.setCell ?_ _, h.at_, ?_⟩
  · rw [World.cell?_setCell_other _ _ _ _ (by intro e; injection e with e; omega)]; exact h.cell0
  · rw [World.cell?_setCell_other _ _ _ _ (by intro e; injection e with e; omega)]; exact h.cell1
  · rw [World.frozen?_setCell]; exact h.frozen
  · have := (h.own.stored i (.int .i64 was)).1
    rwa [← List.map_set] at this
  · rcases h.at_ with k | k
    · exact .inl (.inr (.inr k))
    · exact .inr k
  · intro j hj
    rcases Nat.lt_or_ge j i with k | k
    · rw [List.getD_eq_getElem?_getD, List.getElem?_set_ne (by omega), ← List.getD_eq_getElem?_getD]; exact h.low j hj
    · obtain rfl : j = i := by omega
      have hl : ah.length = j + 1 := by have := h.own.1; simpa using this
      rw [List.getD_eq_getElem?_getD, List.getElem?_set_self (by omega)]
      simp; omega

/-- what note has done -/
def Noted (w : World) (mb fb base i : Nat) (A : Option Addr) (c : Nat) (w' : World) : Prop :=
  ∃ A' c' ah', Fnd w' mb fb base (i + 1) A' c' ah' ∧ Kpt (NS mb fb i A c) w w' ∧ ∀ g, (Value.slice A' (i + 1) c').ownBlock = some g → (Value.slice A i c).ownBlock = some g ∨ w.heap.size ≤ g
theorem Half.noted (h : Half w mb fb base i A c B b off n xs D g cap ah w2) (hlow : Low D i) : Noted w mb fb base i A c w2 :=
  ⟨_, _, _, ⟨h.cell0, h.cell1, h.frozen, ⟨D, h.map.mono (by omega), hlow.more (by omega)⟩, h.own, h.low⟩, h.kpt, fun g' hg' => by injection hg' with e; subst e; exact h.at_⟩
theorem Half.put (h : Half w mb fb base i A c B b off n xs D g cap ah w2) (hlow : Low D i) (hmf : mb < fb) (hfb : fb < base) {κ : Int} (own5 : w5.ownsMap Try.prog 3 (plainElem Try.prog 3) mb (i + 1) (D.put (.int .i64 κ) (.lit (.int .i64 i)))) (grow5 : w2.grownBy w5 (some mb)) :
    Noted w mb fb base i A c w5 := by
  have hlt : fb < w2.heap.size := World.block_lt_of_cell? w2 ⟨fb, 0, none⟩ h.cell0
  have hg := (h.own.lt g rfl).1
  have hblk : w5.heap[fb]? = w2.heap[fb]? := grow5.block fb hlt (by simp; omega)
  exact ⟨_, _, _, ⟨(World.cell?_of_block hblk).trans h.cell0, (World.cell?_of_block hblk).trans h.cell1, (World.frozen?_of_block hblk).trans h.frozen, ⟨_, own5, hlow.put κ⟩, h.own.kept grow5 (.inr (by show some g ≠ some mb; simp; omega)), h.low⟩,
    h.kpt.grown grow5 (fun g' hg' => by injection hg' with e; subst e; exact .inl (.inr (.inl rfl))), fun g' hg' => by injection hg' with e; subst e; exact h.at_⟩
end

set_option maxRecDepth 10000 in
set_option maxHeartbeats 2000000 in
theorem note_any (mb fb base i : Nat) (A : Option Addr) (c : Nat) (ah : List Int) (Ab : Option Addr) (n cb B : Nat) (xs : List Int) (w : World) (hf : Fnd w mb fb base i A c ah) (hb : Bs w B Ab n xs) (hi : i < n) (hn : n ≤ 8000) (hcb : n ≤ cb)
    (hmf : mb < fb) (hfb : fb < base) (hbase : base ≤ w.heap.size) (hBm : B ≤ mb) :
    Calls Try.prog 11 #[.pointer (some ⟨fb, 0, none⟩), .slice Ab n cb, .int .i64 i] w fun e w' => e = .returned (.tuple #[]) ∧ Noted w mb fb base i A c w' := by
  obtain ⟨i0, hi0, hz0, hz1, hz2⟩ := info_parts info3
  have HF := Lib.hid hf
  obtain ⟨f0, f1, f2, ⟨D, hmap, hlow⟩, hown, _⟩ := hf
  obtain ⟨b, off, hA, hbB, _⟩ := hb.at_ hi
  subst hA
  have HB := Lib.hid hb
  have HO := Lib.hid hown
  have HM := Lib.hid hmap
  have HLOW := Lib.hid hlow
  have hrow : Hid (∀ g, (Value.slice A i c).ownBlock = some g → base ≤ g) := Lib.hid (fun g hg => (HO.out.lt g hg).1)
  have HF0 := Lib.hid f0
  have HF1 := Lib.hid f1
  have HF2 := Lib.hid f2
  clear hb hown hmap hlow
  have hic : (i : Int) ≤ (n : Int) := by omega
  by_cases h3 : n < i + 3
  · go_enter Try.func11, Try.ntmps11
    go_wp2_with (first
      | (at_builtin; refine wpList_append_lies _ rfl (.tmp 13) (.tmp 14) _ rfl base 3 i0 (.int .i64 0) 1 8 Try.underlying38 hi0 hz0 hz1 hz2 rfl (by decide) _ i _ rfl (HO.out.alloc _) ⟨w.heap.size, 0, none⟩ 1 1 [.int .i64 (-1)] rfl rfl (cell_one_new _ _ _) (ints_oneCell .i64 [-1]) (by omega) (by unfold maxLen; omega) (by omega) (by simp; omega) _ rfl ?_; intro g cap w1 own1 g1 at1 lt1; obtain ⟨q0, q1, q2⟩ := note_pre HF0.out HF1.out HF2.out hrow.out hfb g1))
    refine bodyPost_ret (results_none rfl _ _ _) rfl ?_
    exact ⟨rfl, (note_mid HF.out HM.out HB.out hmf hfb hbase hBm g1 own1 at1).noted HLOW.out⟩
  · go_enter Try.func11, Try.ntmps11
    go_wp2_with (first
      | (at_builtin; refine wpList_append_lies _ rfl (.tmp 13) (.tmp 14) _ rfl base 3 i0 (.int .i64 0) 1 8 Try.underlying38 hi0 hz0 hz1 hz2 rfl (by decide) _ i _ rfl (HO.out.alloc _) ⟨w.heap.size, 0, none⟩ 1 1 [.int .i64 (-1)] rfl rfl (cell_one_new _ _ _) (ints_oneCell .i64 [-1]) (by omega) (by unfold maxLen; omega) (by omega) (by simp; omega) _ rfl ?_; intro g cap w1 own1 g1 at1 lt1; obtain ⟨q0, q1, q2⟩ := note_pre HF0.out HF1.out HF2.out hrow.out hfb g1))
    have HH := Lib.hid (note_mid HF.out HM.out HB.out hmf hfb hbase hBm g1 own1 at1)
    clear own1 g1 at1 lt1 q0 q1 q2 f0 f1 f2
    generalize w1.setCell ⟨fb, 1, none⟩ (.slice (some ⟨g, 0, none⟩) (i + 1) cap) = w2 at HH ⊢
    have hcut := bs_cut_some HH.out.bs (show i < n by omega) hcb
    obtain ⟨κ, hκ⟩ : ∃ κ, κ = key3 (xs.drop i) := ⟨_, rfl⟩
    have hat := at_any _ _ (cb - i) _ _ w2 hcut (by omega)
    rw [← hκ] at hat
    have hwf : (Lit.int .i64 κ).wf = true := by rw [hκ]; exact key3_wf _
    obtain ⟨was, ok, hlook, hwas⟩ := look_of HH.out.map HLOW.out hwf
    have HWAS := Lib.hid hwas
    have HWF := Lib.hid hwf
    have f0 := HH.out.cell0
    have f1 := HH.out.cell1
    have hgb : base ≤ g := (HH.out.own.lt g rfl).1
    refine hat.mono ?_
    clear hat hcut hκ hwas hwf
    rintro e w3 ⟨rfl, m, rfl⟩
    have HH3 := Lib.hid (HH.out.drewN m)
    cases ok
    · go_wp2_with (first
        | (at_mapUpdate; refine wpList_mapUpdate_own _ rfl _ _ _ 37 rfl 3 3 key3l Try.underlying37 _ mb i D rfl HH3.out.map (by unfold maxLen; omega) _ _ _ rfl rfl (Maps.keyOf_int_mk Try.underlying3 HWF.out) _ [] (plainElem_int Try.underlying3 (WalkArith.wf_i64 (by omega))) ?_; intro w5 own5 grow5))
      go_end0
      exact ⟨rfl, HH3.out.put HLOW.out hmf hfb own5 grow5⟩
    · have hw := HWAS.out rfl
      have hcg := own_cell HH.out.own (show i < i + 1 by omega)
      have hfg := HH.out.own.frozenAt i
      have HS := Lib.hid (HH3.out.store hmf hfb hBm (show -1 ≤ was by omega) hw.2)
      have f3 := (HH.out.store hmf hfb hBm (show -1 ≤ was by omega) hw.2).cell0
      go_wp2_with (first
        | (at_mapUpdate; refine wpList_mapUpdate_own _ rfl _ _ _ 37 rfl 3 3 key3l Try.underlying37 _ mb i D rfl HS.out.map (by unfold maxLen; omega) _ _ _ rfl rfl (Maps.keyOf_int_mk Try.underlying3 HWF.out) _ [] (plainElem_int Try.underlying3 (WalkArith.wf_i64 (by omega))) ?_; intro w5 own5 grow5))
      go_end0
      exact ⟨rfl, HS.out.put HLOW.out hmf hfb own5 grow5⟩
end Go.Proofs.Ytfaekhbofgkdjaa
