/- The program's Tokens: what it hands back tells its argument. -/
import Derived.Test.YtfaekhbofgkdjaaD
import Derived.Test.YtfaekhbofgkdjaaE
namespace Go.Proofs.Ytfaekhbofgkdjaa
open Go.RowKit

theorem info33 : (Try.prog.info? 33).map (fun i => (i.zero, i.size, i.bytes)) = some (some (.agg #[.int .u8 0, .int .i64 0, .int .i64 0]), 3, 24) := by kernel_rfl

/-- the fields that don't matter are nought -/
def Canon (t : Lz.Tok) : Prop := (t.len = 0 → t.dist = 0) ∧ (t.len ≠ 0 → t.lit = 0)

/-- the finder and the tokens that there are, apart from each other -/
def Core (w : World) (h i : Nat) (A2 : Option Addr) (m2 c2 : Nat) (ts : List Lz.Tok) (wr : World) : Prop :=
  ∃ Aa ca ah, Fnd wr (h + 1) (h + 2) (h + 3) i Aa ca ah ∧ wr.ownsRow h 33 3 (.slice A2 m2 c2) m2 (cellsOf ts) ∧ (∀ g, (Value.slice A2 m2 c2).ownBlock = some g → g ≠ h + 1 ∧ g ≠ h + 2 ∧ (Value.slice Aa i ca).ownBlock ≠ some g) ∧ Below h w wr ∧ h + 3 ≤ wr.heap.size
section
variable {w wr w1 : World} {h i m2 c2 : Nat} {A2 : Option Addr} {ts : List Lz.Tok}
theorem Core.drewN (k : Core w h i A2 m2 c2 ts wr) (m : Nat) : Core w h i A2 m2 c2 ts (wr.drewN m) := by
  obtain ⟨Aa, ca, ah, hf, ho, hap, hb, hs⟩ := k
  exact ⟨Aa, ca, ah, hf, ho, hap, below_drewN hb m, hs⟩
theorem fnd_kept {mb fb base i : Nat} {A : Option Addr} {c : Nat} {ah : List Int} (hf : Fnd wr mb fb base i A c ah) (h1 : w1.heap[fb]? = wr.heap[fb]?) (h2 : w1.heap[mb]? = wr.heap[mb]?) (h3 : ∀ g, (Value.slice A i c).ownBlock = some g → w1.heap[g]? = wr.heap[g]?) :
    Fnd w1 mb fb base i A c ah := by
  obtain ⟨f0, f1, f2, ⟨D, ⟨es, clock, e1, e2⟩, hlow⟩, hown, hah⟩ := hf
  refine ⟨(World.cell?_of_block h1).trans f0, (World.cell?_of_block h1).trans f1, (World.frozen?_of_block h1).trans f2, ⟨D, ⟨es, clock, h2.trans e1, e2⟩, hlow⟩, ⟨hown.1, hown.2.imp id ?_⟩, hah⟩
  rintro ⟨g, cap, cur, k1, k2, k3, k4⟩
  exact ⟨g, cap, cur, k1, k2, (h3 g (by rw [k1]; rfl)).trans k3, k4⟩
theorem Core.note {Aa : Option Addr} {ca : Nat} {w' : World} (hf : Noted wr (h + 1) (h + 2) (h + 3) i Aa ca w') (hrow : ∀ g, (Value.slice Aa i ca).ownBlock = some g → h + 3 ≤ g) (ho : wr.ownsRow h 33 3 (.slice A2 m2 c2) m2 (cellsOf ts))
    (hap : ∀ g, (Value.slice A2 m2 c2).ownBlock = some g → g ≠ h + 1 ∧ g ≠ h + 2 ∧ (Value.slice Aa i ca).ownBlock ≠ some g) (hb : Below h w wr) (hs : h + 3 ≤ wr.heap.size) : Core w h (i + 1) A2 m2 c2 ts w' := by
  obtain ⟨A', c', ah', hf', hk, hn⟩ := hf
  refine ⟨A', c', ah', hf', hk.own ho ?_, ?_, hk.below hb ?_ (by omega), Nat.le_trans hs hk.size⟩
  · intro g hg hS
    obtain ⟨h1, h2, h3⟩ := hap g hg
    rcases hS with e | e | e
    · exact h2 e
    · exact h1 e
    · exact h3 e
  · intro g hg
    obtain ⟨h1, h2, h3⟩ := hap g hg
    refine ⟨h1, h2, fun e => ?_⟩
    rcases hn g e with k | k
    · exact h3 k
    · have := (ho.lt g hg).2; omega
  · intro k hS
    rcases hS with e | e | e
    · omega
    · omega
    · have := hrow k e; omega
theorem Core.append {o : Obj} {g cap : Nat} {t : Lz.Tok} (k : Core w h i A2 m2 c2 ts wr) (own1 : w1.ownsRow h 33 3 (.slice (some ⟨g, 0, none⟩) (m2 + 1) cap) (m2 + 1) (cellsOf ts ++ tokCells t)) (g1 : (wr.alloc o).grownBy w1 (Value.slice A2 m2 c2).ownBlock)
    (at1 : (Value.slice A2 m2 c2).ownBlock = some g ∨ g = (wr.alloc o).heap.size) : Core w h i (some ⟨g, 0, none⟩) (m2 + 1) cap (ts ++ [t]) w1 := by
  obtain ⟨Aa, ca, ah, hf, ho, hap, hb, hs⟩ := k
  have hrow := hf.2.2.2.2.1.lt
  have keep : ∀ q, q < wr.heap.size → some q ≠ (Value.slice A2 m2 c2).ownBlock → w1.heap[q]? = wr.heap[q]? := fun q hq hne =>
    (g1.block q (by simp; omega) hne).trans (Below.heap_alloc _ _ _ hq)
  refine ⟨Aa, ca, ah, fnd_kept hf (keep _ (by omega) ?_) (keep _ (by omega) ?_) (fun q hq => keep q (hrow q hq).2 ?_), ?_, ?_, ?_, ?_⟩
  · intro e; exact (hap _ e.symm).2.1 rfl
  · intro e; exact (hap _ e.symm).1 rfl
  · intro e; exact (hap _ e.symm).2.2 hq
  · rw [cellsOf_append, show cellsOf [t] = tokCells t from by simp [cellsOf]]; exact own1
  · intro q hq
    injection hq with hq
    subst hq
    rcases at1 with e | e
    · exact hap _ e
    · simp at e
      refine ⟨by show g ≠ _; omega, by show g ≠ _; omega, fun k => ?_⟩
      have := (hrow _ k).2
      simp only at this
      omega
  · exact (hb.alloc (by omega) o).grown g1 (by simp; omega) (fun q hq => (ho.lt q hq).1)
  · have := g1.size; simp at this; omega
end
/-- the cells of a new token -/
theorem tok_new (w : World) (e : TypeId) (fr : Nat × Nat) (t : Lz.Tok) {g : Nat} (hg : w.heap.size = g) : ∀ (j : Nat) (u : Value), (tokCells t)[j]? = some u → (w.alloc (.cells #[.int .u8 t.lit, .int .i64 t.len, .int .i64 t.dist] e fr)).cell? ((⟨g, 0, none⟩ : Addr).add j) = some u := by
  subst hg
  intro j u hu
  have he : (⟨w.heap.size, 0, none⟩ : Addr).add j = ⟨w.heap.size, 0 + j, none⟩ := by unfold Addr.add; split <;> simp_all
  rw [he, Nat.zero_add, World.cell?_alloc_mark]
  match j, hu with
  | 0, hu => simpa [tokCells] using hu
  | 1, hu => simpa [tokCells] using hu
  | 2, hu => simpa [tokCells] using hu
  | j + 3, hu => simp [tokCells] at hu

/-- what holds at the head of a round of Tokens -/
def Tn (w : World) (n : Nat) (xs : List Int) (out i' : Value) (wr : World) : Prop :=
  ∃ (A2 : Option Addr) (m2 c2 i : Nat) (ts : List Lz.Tok), out = .slice A2 m2 c2 ∧ i' = .int .i64 i ∧ i ≤ n ∧ m2 ≤ i ∧ Hid (Core w w.heap.size i A2 m2 c2 ts wr ∧ Lz.Tk ts (xs.take i) ∧ ∀ t ∈ ts, TokOk t ∧ Canon t)

theorem tn_start {w : World} {n : Nat} {xs : List Int} :
    Tn w n xs (.slice (some ⟨w.heap.size, 0, none⟩) 0 0) (.int .i64 0) (((w.alloc (.cells #[] 33)).alloc (.map #[] 0)).alloc (.cells #[.map (some (w.heap.size + 1)), .slice none 0 0] 40)) := by
  have hsz : ((w.alloc (.cells #[] 33)).alloc (.map #[] 0)).heap.size = w.heap.size + 2 := by simp
  have hsz1 : (w.alloc (.cells #[] 33)).heap.size = w.heap.size + 1 := by simp
  refine ⟨_, 0, 0, 0, [], rfl, rfl, by omega, by omega, Lib.hid ⟨⟨none, 0, [], ⟨?_, ?_, ?_, ⟨.map [], ?_, Low.empty⟩, World.ownsRow_nil _ _ _ _, fun j hj => by omega⟩, ?_, ?_, ?_, ?_⟩, Lz.Tk.nil, by simp⟩⟩
  · rw [← hsz, World.cell?_alloc_mark]; rfl
  · rw [← hsz, World.cell?_alloc_mark]; rfl
  · rw [← hsz]; exact World.frozen?_alloc_new _ _ _ _
  · have := (World.ownsMap_made (H := Unit) (w.alloc (.cells #[] 33)) Try.prog 3 (plainElem Try.prog 3)).alloc (.cells #[.map (some (w.heap.size + 1)), .slice none 0 0] 40)
    rw [hsz1] at this
    exact this
  · exact ((World.ownsRow_made w #[] 0 (Nat.le_refl _) (by unfold maxLen; omega) (by simp)).alloc _).alloc _
  · intro g hg
    injection hg with hg
    subst hg
    refine ⟨by show w.heap.size ≠ _; omega, by show w.heap.size ≠ _; omega, fun e => by cases e⟩
  · exact (((Below.refl _ _).alloc (Nat.le_refl _) _).alloc (by omega) _).alloc (by omega) _
  · have : (((w.alloc (.cells #[] 33)).alloc (.map #[] 0)).alloc (.cells #[.map (some (w.heap.size + 1)), .slice none 0 0] 40)).heap.size = w.heap.size + 3 := by simp
    omega
theorem tok_lit {z : Int} (h0 : 0 ≤ z) (h1 : z ≤ 255) : TokOk ⟨z, 0, 0⟩ ∧ Canon ⟨z, 0, 0⟩ := by
  refine ⟨?_, fun _ => rfl, fun h => absurd rfl h⟩
  simp only [TokOk]; omega
theorem tok_copy {L dn : Nat} (h1 : 3 ≤ L) (h2 : L ≤ 258) (h3 : dn ≤ 32768) : TokOk ⟨0, L, dn⟩ ∧ Canon ⟨0, L, dn⟩ := by
  refine ⟨?_, fun h => ?_, fun _ => rfl⟩
  · simp only [TokOk]; omega
  · simp only at h; omega
theorem tok_more {ts : List Lz.Tok} {t : Lz.Tok} (h : ∀ t ∈ ts, TokOk t ∧ Canon t) (k : TokOk t ∧ Canon t) : ∀ x ∈ ts ++ [t], TokOk x ∧ Canon x := by
  intro x hx
  rcases List.mem_append.1 hx with hx | hx
  · exact h x hx
  · simp only [List.mem_singleton] at hx; rw [hx]; exact k

/-- what Tokens hands back -/
def TokEnd (w : World) (n : Nat) (xs : List Int) (e : Ending) (w' : World) : Prop :=
  ∃ A m c ts, e = .returned (.slice A m c) ∧ m ≤ c ∧ m ≤ n ∧ w'.ownsRow w.heap.size 33 3 (.slice A m c) m (cellsOf ts) ∧ (∀ t ∈ ts, TokOk t ∧ Canon t) ∧ Lz.Tk ts xs ∧ Below w.heap.size w w'

set_option maxRecDepth 10000 in
set_option maxHeartbeats 4000000 in
theorem tokens_any (A : Option Addr) (n c B : Nat) (xs : List Int) (w : World) (hb : Bs w B A n xs) (hc : n ≤ c) (hn : n ≤ 8000) (hB : B ≤ w.heap.size) :
    Calls Try.prog 7 #[.slice A n c] w fun e w' => TokEnd w n xs e w' := by
  obtain ⟨i0, hi0, hz0, hz1, hz2⟩ := info_parts info33
  have HB := Lib.hid hb
  clear hb
  have hmm := @run_makeMap Try.prog
  have START := Lib.hid (tn_start (w := w) (n := n) (xs := xs))
  go_enter Try.func7, Try.ntmps7
  go_wp2
  go_loopw [3, 5] (fun out i' wr => Tn w n xs out i' wr) (fun _ i' _ => n - (intOf i').toNat)
  case atStart => exact START.out
  case round =>
    obtain ⟨A2, m2, c2, i, ts, rfl, rfl, hi, hm2, HH⟩ := hrel
    clear START hmm
    obtain ⟨hcore, htk, hts⟩ := HH.out
    clear HH
    have HC := Lib.hid hcore
    have HTK := Lib.hid htk
    have HTS := Lib.hid hts
    have hh : w.heap.size + 3 ≤ wr.heap.size := by obtain ⟨_, _, _, _, _, _, _, h⟩ := hcore; exact h
    clear hcore htk hts
    by_cases hin : i < n
    · obtain ⟨Aa, ca, ah, hf, ho, hap, hbel, _⟩ := HC.out
      have hbr := HB.out.below (hbel.mono hB)
      have hbest := best_any (w.heap.size + 1) (w.heap.size + 2) (w.heap.size + 3) i Aa ca ah A n c B xs wr hf hbr hi hn hc
      clear hf ho hap hbel hbr
      go_wp2_with fail
      refine hbest.mono ?_
      clear hbest
      rintro e w2 ⟨⟨long, far, rfl, hbi⟩, q, hq⟩
      have HC2 := Lib.hid (show Core w w.heap.size i A2 m2 c2 ts w2 from by rw [hq]; exact HC.out.drewN q)
      have hh2 : w.heap.size + 3 ≤ w2.heap.size := by rw [hq]; exact hh
      have HBI := Lib.hid hbi
      have hbd := hbi.bd
      clear hq HC hbi hh
      obtain ⟨Aa2, ca2, ah2, hf2, ho2, hap2, hbel2, _⟩ := HC2.out
      have HO2 := Lib.hid ho2
      have HBb := Lib.hid (HB.out.below (hbel2.mono hB))
      have HW2 := Lib.hid hbel2
      clear hf2 ho2 hap2 hbel2
      by_cases hlong : long < 3
      · obtain ⟨b, off, hA, _, hcell⟩ := HBb.out.at_ hin
        obtain ⟨z, hz⟩ : ∃ z, z = xs.getD i 0 := ⟨_, rfl⟩
        have hzb := HBb.out.bd i
        rw [← hz] at hcell hzb
        subst hA
        have HZ := Lib.hid hz
        clear hz
        have HNEW := Lib.hid (tok_new w2 33 (0, 0) ⟨z, 0, 0⟩ rfl)
        go_wp2_with (first
          | (at_builtin; refine wpList_append_lies _ rfl (.tmp 25) (.tmp 31) _ rfl w.heap.size 33 i0 _ 3 24 Try.underlying24 hi0 hz0 hz1 hz2 rfl (by decide) _ m2 _ rfl (HO2.out.alloc _) ⟨w2.heap.size, 0, none⟩ 1 1 (tokCells ⟨z, 0, 0⟩) rfl rfl HNEW.out (cellsOf_oneCell [⟨z, 0, 0⟩]) (by omega) (by unfold maxLen; omega) (by omega) (by simp; omega) _ rfl ?_; intro g cap w3 own3 g3 at3 lt3))
        have HC3 := Lib.hid (HC2.out.append own3 g3 at3)
        have HTK3 := Lib.hid (by have := HTK.out.lit (b := xs) (i := i) (by rw [HB.out.1]; exact hin); rwa [← HZ.out] at this)
        have HTS3 := Lib.hid (tok_more HTS.out (tok_lit hzb.1 hzb.2))
        clear own3 g3 at3 lt3 HNEW
        go_loopw [5, 40] (fun i' r' wr' => ∃ j : Nat, i' = .int .i64 ((i + j : Nat) : Int) ∧ r' = .int .i64 j ∧ j ≤ 1 ∧ Hid (Core w w.heap.size (i + j) (some ⟨g, 0, none⟩) (m2 + 1) cap (ts ++ [⟨z, 0, 0⟩]) wr')) (fun _ r' _ => 1 - (intOf r').toNat)
        case atStart => exact ⟨0, rfl, rfl, by omega, HC3⟩
        case round =>
          obtain ⟨j, rfl, rfl, hj, HCj⟩ := hrel
          clear HC3 HC2
          by_cases hjL : j < 1
          · obtain ⟨Aj, cj, aj, hfj, hoj, hapj, hbelj, hsj⟩ := HCj.out
            have hrowj := fun g hg => (hfj.2.2.2.2.1.lt g hg).1
            have hnote := note_any (w.heap.size + 1) (w.heap.size + 2) (w.heap.size + 3) (i + j) Aj cj aj (some ⟨b, off, none⟩) n c B xs _ hfj (HB.out.below (hbelj.mono hB)) (by omega) hn hc (by omega) (by omega) hsj (by omega)
            have HSTEP := Lib.hid (fun w' (hf : Noted _ _ _ _ _ _ _ w') => Core.note (w' := w') hf hrowj hoj hapj hbelj hsj)
            clear hfj hoj hapj hbelj hsj hrowj
            go_wp2_with fail
            refine hnote.mono ?_
            clear hnote
            rintro e w4 ⟨rfl, hnoted⟩
            have HC4 := Lib.hid (HSTEP.out w4 hnoted)
            clear hnoted
            go_wp2_with fail
            go_roundw
            case rel => exact ⟨j + 1, by go_num, by go_num, by omega, HC4⟩
            case measure => simp [intOf]; omega
          · obtain rfl : j = 1 := by omega
            go_wp2_with fail
            go_roundw
            case rel => exact ⟨_, m2 + 1, cap, i + 1, _, rfl, by go_num, by omega, by omega, Lib.hid ⟨HCj.out, HTK3.out, HTS3.out⟩⟩
            case measure => simp [intOf]; omega
      · rcases HBI.out with ⟨e1, e2⟩ | ⟨L, k, rfl, hfar, hk1, hk2, hL1, hL2, hal⟩
        · exfalso; omega
        obtain ⟨dn, hdn⟩ : ∃ dn : Nat, dn = i - k := ⟨_, rfl⟩
        have hfd : far = (dn : Int) := by omega
        subst hfd
        have hd1 : 1 ≤ dn ∧ dn ≤ 32768 := by omega
        have HDN := Lib.hid hdn
        have HAL := Lib.hid hal
        clear hal hdn hfar HBI
        have HNEW := Lib.hid (tok_new w2 33 (0, 0) ⟨0, L, dn⟩ rfl)
        go_wp2_with (first
          | (at_builtin; refine wpList_append_lies _ rfl (.tmp 33) (.tmp 37) _ rfl w.heap.size 33 i0 _ 3 24 Try.underlying24 hi0 hz0 hz1 hz2 rfl (by decide) _ m2 _ rfl (HO2.out.alloc _) ⟨w2.heap.size, 0, none⟩ 1 1 (tokCells ⟨0, L, dn⟩) rfl rfl HNEW.out (cellsOf_oneCell [⟨0, L, dn⟩]) (by omega) (by unfold maxLen; omega) (by omega) (by simp; omega) _ rfl ?_; intro g cap w3 own3 g3 at3 lt3))
        have HC3 := Lib.hid (HC2.out.append own3 g3 at3)
        have HTK3 := Lib.hid (by have := HTK.out.copy (k := k) (n := L) hk1 (by omega) (by omega) hL1 (by rw [HB.out.1]; exact hL2) HAL.out; rwa [← HDN.out] at this)
        have HTS3 := Lib.hid (tok_more HTS.out (tok_copy (L := L) (dn := dn) (by omega) (by omega) (by omega)))
        clear own3 g3 at3 lt3 HNEW
        go_loopw [5, 40] (fun i' r' wr' => ∃ j : Nat, i' = .int .i64 ((i + j : Nat) : Int) ∧ r' = .int .i64 j ∧ j ≤ L ∧ Hid (Core w w.heap.size (i + j) (some ⟨g, 0, none⟩) (m2 + 1) cap (ts ++ [⟨0, L, dn⟩]) wr')) (fun _ r' _ => L - (intOf r').toNat)
        case atStart => exact ⟨0, rfl, rfl, by omega, HC3⟩
        case round =>
          obtain ⟨j, rfl, rfl, hj, HCj⟩ := hrel
          clear HC3 HC2
          by_cases hjL : j < L
          · obtain ⟨Aj, cj, aj, hfj, hoj, hapj, hbelj, hsj⟩ := HCj.out
            have hrowj := fun g hg => (hfj.2.2.2.2.1.lt g hg).1
            have hnote := note_any (w.heap.size + 1) (w.heap.size + 2) (w.heap.size + 3) (i + j) Aj cj aj A n c B xs _ hfj (HB.out.below (hbelj.mono hB)) (by omega) hn hc (by omega) (by omega) hsj (by omega)
            have HSTEP := Lib.hid (fun w' (hf : Noted _ _ _ _ _ _ _ w') => Core.note (w' := w') hf hrowj hoj hapj hbelj hsj)
            clear hfj hoj hapj hbelj hsj hrowj
            go_wp2_with fail
            refine hnote.mono ?_
            clear hnote
            rintro e w4 ⟨rfl, hnoted⟩
            have HC4 := Lib.hid (HSTEP.out w4 hnoted)
            clear hnoted
            go_wp2_with fail
            go_roundw
            case rel => exact ⟨j + 1, by go_num, by go_num, by omega, HC4⟩
            case measure => simp [intOf]; omega
          · obtain rfl : j = L := by omega
            go_wp2_with fail
            go_roundw
            case rel => exact ⟨_, m2 + 1, cap, i + j, _, rfl, by go_num, by omega, by omega, Lib.hid ⟨HCj.out, HTK3.out, HTS3.out⟩⟩
            case measure => simp [intOf]; omega
    · obtain rfl : i = n := by omega
      obtain ⟨Aa, ca, ah, hf, ho, hap, hbel, _⟩ := HC.out
      have HO := Lib.hid ho
      have HW := Lib.hid hbel
      clear hf ho hap hbel
      obtain ⟨_, _, hv, hmc, _⟩ := own_form3 HO.out
      injection hv with e1 e2 e3
      subst e1 e3
      go_wp2_with fail
      go_ret
      exact ⟨_, _, _, ts, rfl, hmc, hm2, HO.out, HTS.out, by have := HTK.out; rwa [List.take_of_length_le (by rw [HB.out.1]; omega)] at this, HW.out⟩
end Go.Proofs.Ytfaekhbofgkdjaa
