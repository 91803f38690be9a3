/- The walk of ChunksWhole. -/
import Derived.Test.YtfdgipbnbalcjaaK
import Derived.Test.YtfdgipbnbalcjaaH
import Derived.OwnWalk
import Derived.Laws.OwnMore
namespace Go.Proofs.Ytfdgipbnbalcjaa
open Go.RowKit

/-- block g holds N truth values, which may be written -/
def Seen (w : World) (g N : Nat) (f : Nat → Bool) : Prop := ∀ j, j < N → w.cell? ⟨g, j, none⟩ = some (.bool (f j)) ∧ w.frozen? ⟨g, j, none⟩ = false
section
variable {w w' : World} {g N B : Nat} {f f' : Nat → Bool}
theorem Seen.congr (h : Seen w g N f) (e : ∀ j, j < N → f j = f' j) : Seen w g N f' := fun j hj => by rw [← e j hj]; exact h j hj
theorem Seen.below (h : Seen w g N f) (hb : Below B w w') (hg : g < B) : Seen w' g N f := fun j hj => by
  rw [hb.cell (p := ⟨g, j, none⟩) hg, hb.frozen (p := ⟨g, j, none⟩) hg]; exact h j hj
theorem Seen.alloc (h : Seen w g N f) (hg : g < w.heap.size) (o : Obj) : Seen (w.alloc o) g N f := h.below ((Below.refl w.heap.size w).alloc (Nat.le_refl _) o) hg
theorem Seen.drewN (h : Seen w g N f) (m : Nat) : Seen (w.drewN m) g N f := h
theorem Seen.set (h : Seen w g N f) {p : Nat} (hp : p < N) : Seen (w.setCell ⟨g, p, none⟩ (.bool true)) g N (fun j => if j = p then true else f j) := fun j hj => by
  rw [World.frozen?_setCell]
  refine ⟨?_, (h j hj).2⟩
  by_cases e : j = p
  · subst e
    rw [World.cell?_setCell_same _ _ _ (h j hj).1]; simp
  · rw [World.cell?_setCell_other _ _ _ _ (by intro k; injection k with _ k; exact e k.symm)]
    show _ = some (Value.bool (if j = p then true else f j))
    rw [if_neg e]; exact (h j hj).1
theorem Seen.of_own {base cap : Nat} {e : TypeId} (h : w.ownsRow base e 1 (.slice (some ⟨g, 0, none⟩) N cap) N (List.replicate N (.bool false))) (e : ∀ j, j < N → f j = false) : Seen w g N f := fun j hj => by
  refine ⟨?_, h.frozenAt j⟩
  rw [h.cellAt j (by omega), List.getElem?_replicate, if_pos hj, e j hj]
end

theorem info4 : (Try.prog.info? 4).map (fun i => (i.zero, i.size, i.bytes)) = some (some (.bool false), 1, 1) := by kernel_rfl

set_option maxRecDepth 10000 in
set_option maxHeartbeats 2000000 in
theorem whole_out (a b : Int) (t : Bool) (c d : Int) (w : World) (h : ¬ (Ch.Right a b t c d ∧ a ≤ 200 ∧ b ≤ 200)) (wc : I64 c) (wd : I64 d) :
    Calls Try.prog 4 #[.agg #[.int .i64 a, .int .i64 b, .bool t, .int .i64 c, .int .i64 d]] w fun e w' => e = .returned (.bool true) ∧ Below w.heap.size w w' := by
  by_cases hr : Ch.Right a b t c d
  · have HR := Lib.hid (rightB_yes hr)
    by_cases h1 : 200 < a
    all_goals by_cases h2 : 200 < b
    all_goals first | exact absurd ⟨hr, by omega, by omega⟩ h | skip
    all_goals
      clear h hr
      go_enter Try.func4, Try.ntmps4
      go_wp2_with fail
      refine (lives_any _).mono ?_
      rintro e w1 ⟨rfl, hb1⟩
      have HL := Lib.hid ((LayAt.made w a b t c d).below hb1 (by simp))
      have hb1' := Lib.hid (((Below.refl _ w).alloc (Nat.le_refl _) _).trans (hb1.mono (by simp)))
      have hs1 := hb1.size
      simp only [World.size_alloc] at hs1
      clear hb1
      obtain ⟨l0, l1, l2, l3, l4⟩ := HL.out
      go_wp2_with fail
      refine (refRight_is HR.out wc wd).mono ?_
      rintro e w2 ⟨rfl, hb2⟩
      clear l0 l1 l2 l3 l4
      obtain ⟨l0, l1, l2, l3, l4⟩ := HL.out.below hb2 (by omega)
      have hb2' := Lib.hid (hb1'.out.trans (hb2.mono hb1'.out.size))
      clear hb2
      go_wp2_with fail
      refine (lives_any _).mono ?_
      rintro e w3 ⟨rfl, hb3⟩
      have hb3' := Lib.hid (hb2'.out.trans (hb3.mono hb2'.out.size))
      clear hb3
      go_wp2
      go_ret
      exact ⟨rfl, hb3'.out⟩
  · clear h
    go_enter Try.func4, Try.ntmps4
    go_wp2_with fail
    refine (lives_any _).mono ?_
    rintro e w1 ⟨rfl, hb1⟩
    have HL := Lib.hid ((LayAt.made w a b t c d).below hb1 (by simp))
    have hb1' := Lib.hid (((Below.refl _ w).alloc (Nat.le_refl _) _).trans (hb1.mono (by simp)))
    clear hb1
    obtain ⟨l0, l1, l2, l3, l4⟩ := HL.out
    go_wp2_with fail
    refine (refRight_is (rightB_no hr) wc wd).mono ?_
    rintro e w2 ⟨rfl, hb2⟩
    have hb2' := Lib.hid (hb1'.out.trans (hb2.mono hb1'.out.size))
    clear hb2
    go_wp2_with fail
    refine (lives_any _).mono ?_
    rintro e w3 ⟨rfl, hb3⟩
    have hb3' := Lib.hid (hb2'.out.trans (hb3.mono hb2'.out.size))
    clear hb3
    go_wp2
    go_ret
    exact ⟨rfl, hb3'.out⟩

/-- what stands at the head of a round of ChunksWhole -/
def St (w : World) (a b : Int) (t : Bool) (c d : Int) (g N : Nat) (f : Nat → Bool) (wr : World) : Prop :=
  LayAt wr w.heap.size a b t c d ∧ Seen wr g N f ∧ Below w.heap.size w wr ∧ w.heap.size < g ∧ g < wr.heap.size
section
variable {w wr w' : World} {a b : Int} {t : Bool} {c d : Int} {g N : Nat} {f f' : Nat → Bool}
theorem St.congr (h : St w a b t c d g N f wr) (e : ∀ j, j < N → f j = f' j) : St w a b t c d g N f' wr := ⟨h.1, h.2.1.congr e, h.2.2⟩
theorem St.below (h : St w a b t c d g N f wr) (hb : Below wr.heap.size wr w') : St w a b t c d g N f w' := by
  obtain ⟨h1, h2, h3, h4, h5⟩ := h
  have := hb.size
  exact ⟨h1.below hb (by omega), h2.below hb h5, h3.trans (hb.mono h3.size), h4, by omega⟩
theorem St.set (h : St w a b t c d g N f wr) {p : Nat} (hp : p < N) : St w a b t c d g N (fun j => if j = p then true else f j) (wr.setCell ⟨g, p, none⟩ (.bool true)) := by
  obtain ⟨h1, h2, h3, h4, h5⟩ := h
  refine ⟨?_, h2.set hp, h3.setCell (by show _ ≤ g; omega) _, h4, by simpa [World.setCell] using h5⟩
  obtain ⟨l0, l1, l2, l3, l4⟩ := h1
  refine ⟨?_, ?_, ?_, ?_, ?_⟩ <;> (rw [World.cell?_setCell_other _ _ _ _ (by intro k; injection k with k; omega)]; assumption)
end
theorem rect_set {wr : World} {rb g p : Nat} {x y v h : Int} (k : RectAt wr rb x y v h) (hne : g ≠ rb) (u : Value) : RectAt (wr.setCell ⟨g, p, none⟩ u) rb x y v h := by
  obtain ⟨⟨h0, h1, h2, h3⟩, f0, f1, f2, f3⟩ := k
  refine ⟨⟨?_, ?_, ?_, ?_⟩, ?_, ?_, ?_, ?_⟩
  all_goals first | (rw [World.frozen?_setCell]; assumption) | (rw [World.cell?_setCell_other _ _ _ _ (by intro k; injection k with k; omega)]; assumption)

set_option maxRecDepth 10000 in
set_option maxHeartbeats 4000000 in
theorem whole_in (a b : Int) (t : Bool) (c d : Int) (w : World) (h : Ch.Right a b t c d) (ha : a ≤ 200) (hb : b ≤ 200) :
    Calls Try.prog 4 #[.agg #[.int .i64 a, .int .i64 b, .bool t, .int .i64 c, .int .i64 d]] w fun e w' => e = .returned (.bool true) ∧ Below w.heap.size w w' := by
  obtain ⟨a0, b0, a1, b1, ab, c0, d0, c1, d1⟩ := h.bd
  obtain ⟨n0, n1⟩ := Ch.cnt_bd a0 a1 c0
  obtain ⟨m0, m1⟩ := Ch.cnt_bd b0 b1 d0
  have pnm := Ch.prod_bd n0 n1 m0 m1
  obtain ⟨M, hM⟩ : ∃ M : Nat, Ch.cnt a c * Ch.cnt b d = M := ⟨(Ch.cnt a c * Ch.cnt b d).toNat, by omega⟩
  rw [hM] at pnm
  have HC := Lib.hid (fun w => count_n w h hM)
  have HM := Lib.hid hM
  clear hM n0 n1 m0 m1
  obtain ⟨N, hN⟩ : ∃ N : Nat, a * b = N := ⟨(a * b).toNat, by have := Ch.prod_bd a0 a1 b0 b1; omega⟩
  have hN1 : N ≤ 40000 := by
    have : a * b ≤ 200 * 200 := Int.mul_le_mul ha hb (by omega) (by omega)
    omega
  have HN := Lib.hid hN
  have HR := Lib.hid h
  obtain ⟨i0, hi, hz0, hz1, hz2⟩ := info_parts info4
  clear h
  go_enter Try.func4, Try.ntmps4
  go_wp2_with fail
  refine (lives_any _).mono ?_
  rintro e w1 ⟨rfl, hb1⟩
  have HL := Lib.hid ((LayAt.made w a b t c d).below hb1 (by simp))
  have hb1' := Lib.hid (((Below.refl _ w).alloc (Nat.le_refl _) _).trans (hb1.mono (by simp)))
  have hs1 := hb1.size
  simp only [World.size_alloc] at hs1
  clear hb1
  obtain ⟨l0, l1, l2, l3, l4⟩ := HL.out
  go_wp2_with fail
  refine (refRight_is (rightB_yes HR.out) (Right.w64 HR.out).1 (Right.w64 HR.out).2).mono ?_
  rintro e w2 ⟨rfl, hb2⟩
  clear l0 l1 l2 l3 l4
  have HL2 := Lib.hid (HL.out.below hb2 (by omega))
  have hb2' := Lib.hid (hb1'.out.trans (hb2.mono hb1'.out.size))
  have hs2 := hb2.size
  clear hb2
  obtain ⟨l0, l1, l2, l3, l4⟩ := HL2.out
  go_wp2_with fail
  refine (HC.out _).mono ?_
  rintro e w3 ⟨rfl, hb3⟩
  clear l0 l1 l2 l3 l4
  have HL3 := Lib.hid (HL2.out.below hb3 (by omega))
  have hb3' := Lib.hid (hb2'.out.trans (hb3.mono hb2'.out.size))
  have hs3 := hb3.size
  clear hb3
  obtain ⟨l0, l1, l2, l3, l4⟩ := HL3.out
  go_wp2_with (first
    | (at_make; refine wpList_make_full _ rfl _ _ _ rfl w3.heap.size 4 i0 _ 1 Try.underlying37 hi hz0 hz1 .i64 .i64 _ _ N rfl rfl rfl rfl (by rw [hz2]; omega) (by unfold maxLen; omega) (Nat.le_refl _) ?_; intro w4 own4 g4))
  have HS4 := Lib.hid (show St w a b t c d w3.heap.size N (Ch.sn a c d 0) w4 from by
    have hbel : Below w3.heap.size w3 w4 := (Below.refl _ w3).grown g4 (Nat.le_refl _) (fun g hg => by cases hg)
    refine ⟨HL3.out.below hbel (by omega), Seen.of_own (by rw [show (Value.bool false).cells = #[.bool false] from rfl, Nat.mul_one, toList_madeCells_one] at own4; exact own4) (fun j hj => Ch.sn_none j HR.out HN.out hj), hb3'.out.trans (hbel.mono hb3'.out.size), by omega, (own4.lt _ rfl).2⟩)
  clear own4 g4 l0 l1 l2 l3 l4 HL HL2 HL3 hb1' hb2' hb3'
  obtain ⟨g, hg⟩ : ∃ g, g = w3.heap.size := ⟨_, rfl⟩
  rw [← hg] at HS4 ⊢
  clear hg
  go_wp2_with fail
  go_loopw [43] (fun i' wr => ∃ i : Nat, i' = .int .i64 i ∧ i ≤ M ∧ Hid (St w a b t c d g N (Ch.sn a c d i) wr)) (fun i' _ => M - (intOf i').toNat)
  case atStart => exact ⟨0, rfl, by omega, HS4⟩
  case round =>
    obtain ⟨i, rfl, hi, HH⟩ := hrel
    clear HS4
    by_cases hin : i < M
    · have i1 : (i : Int) < Ch.cnt a c * Ch.cnt b d := by rw [HM.out]; omega
      have hpb := Ch.part_bd HR.out (Int.natCast_nonneg i) i1
      obtain ⟨X, hX⟩ : ∃ X, X = Ch.partX a c i := ⟨_, rfl⟩
      obtain ⟨Y, hY⟩ : ∃ Y, Y = Ch.partY a c d i := ⟨_, rfl⟩
      rw [← hX, ← hY] at hpb
      obtain ⟨V, hV⟩ : ∃ V, V = Ch.mini c (a - X) := ⟨_, rfl⟩
      obtain ⟨H, hH⟩ : ∃ H, H = Ch.mini (Ch.partH b t d Y) (b - Y) := ⟨_, rfl⟩
      have hVb := Ch.mini_bd c (a - X)
      have hHb := Ch.mini_bd (Ch.partH b t d Y) (b - Y)
      rw [← hV] at hVb
      rw [← hH] at hHb
      have hbd : 0 ≤ X ∧ 0 ≤ Y ∧ 1 ≤ V ∧ 1 ≤ H ∧ X + V ≤ a ∧ Y + H ≤ b := by omega
      obtain ⟨X0, Y0, V0, H0, XV, YH⟩ := hbd
      have HI := Lib.hid (fun w => inside_is w HR.out (Int.natCast_nonneg i) i1 hX hY hV hH)
      have HX := Lib.hid hX
      have HY := Lib.hid hY
      have HV := Lib.hid hV
      have HHH := Lib.hid hH
      clear hpb hVb hHb hX hY hV hH i1
      obtain ⟨l0, l1, l2, l3, l4⟩ := HH.out.1
      go_wp2_with fail
      refine (HI.out _).mono ?_
      rintro e w5 ⟨rfl, hb5⟩
      have HS5 := Lib.hid (HH.out.below hb5)
      clear hb5 HH l0 l1 l2 l3 l4
      have hg5 := HS5.out.2.2.2.2
      have HS6 := Lib.hid (HS5.out.below ((Below.refl _ w5).alloc (Nat.le_refl _) (.cells #[.int .i64 X, .int .i64 Y, .int .i64 V, .int .i64 H] 30)))
      obtain ⟨l0, l1, l2, l3, l4⟩ := HS6.out.1
      have HQ6 := Lib.hid (RectAt.made w5 X Y V H 30)
      obtain ⟨⟨q0, q1, q2, q3⟩, f0, f1, f2, f3⟩ := HQ6.out
      unfold rectV
      go_wp2_with fail
      clear l0 l1 l2 l3 l4 q0 q1 q2 q3 f0 f1 f2 f3 HS5
      obtain ⟨rb, hrb⟩ : ∃ rb, rb = w5.heap.size := ⟨_, rfl⟩
      rw [← hrb] at hg5 HQ6 ⊢
      obtain ⟨w6, hw6⟩ : ∃ w6, w6 = w5.alloc (.cells #[.int .i64 X, .int .i64 Y, .int .i64 V, .int .i64 H] 30) := ⟨_, rfl⟩
      rw [← hw6] at HS6 HQ6 ⊢
      clear hrb hw6
      go_loopw [9] (fun y' wr => ∃ y : Int, y' = .int .i64 y ∧ Y ≤ y ∧ y ≤ Y + H ∧ Hid (St w a b t c d g N (Ch.snp a c d i y X) wr ∧ RectAt wr rb X Y V H)) (fun y' _ => (Y + H - intOf y').toNat)
      case atStart => exact ⟨Y, rfl, by omega, by omega, Lib.hid ⟨HS6.out.congr (fun j hj => Ch.snp_open j HR.out HN.out hj HX.out HY.out HV.out HHH.out), HQ6.out⟩⟩
      case round =>
        obtain ⟨y, rfl, yl, yu, HHy⟩ := hrel
        clear HS6 HQ6
        obtain ⟨⟨q0, q1, q2, q3⟩, f0, f1, f2, f3⟩ := HHy.out.2
        by_cases hyl : y < Y + H
        · go_wp2_with fail
          clear q0 q1 q2 q3 f0 f1 f2 f3
          go_loopw [10] (fun x' wr => ∃ x : Int, x' = .int .i64 x ∧ X ≤ x ∧ x ≤ X + V ∧ Hid (St w a b t c d g N (Ch.snp a c d i y x) wr ∧ RectAt wr rb X Y V H)) (fun x' _ => (X + V - intOf x').toNat)
          case atStart => exact ⟨X, rfl, by omega, by omega, HHy⟩
          case round =>
            obtain ⟨x, rfl, xl, xu, HHx⟩ := hrel
            clear HHy
            obtain ⟨⟨q0, q1, q2, q3⟩, f0, f1, f2, f3⟩ := HHx.out.2
            by_cases hxl : x < X + V
            · obtain ⟨p, hp⟩ : ∃ p : Nat, y * a + x = p := ⟨(y * a + x).toNat, by have := Int.mul_nonneg (show 0 ≤ y by omega) (show 0 ≤ a by omega); omega⟩
              have hya : 0 ≤ y * a ∧ y * a ≤ 40000 := by
                have h1 := Int.mul_nonneg (show 0 ≤ y by omega) (show 0 ≤ a by omega)
                have h2 : y * a ≤ 200 * 200 := Int.mul_le_mul (by omega) ha (by omega) (by omega)
                omega
              have hpN : p < N := by
                have h1 : y * a ≤ (b - 1) * a := Int.mul_le_mul_of_nonneg_right (by omega) (by omega)
                have h2 : (b - 1) * a = a * b - a := by rw [Int.sub_mul, Int.mul_comm]; omega
                have := HN.out
                omega
              have HNX := Lib.hid (fun j => Ch.snp_next (i := i) j HR.out HX.out HY.out HV.out HHH.out X0 Y0 xl hxl yl hyl (by omega) (by omega) hp.symm)
              obtain ⟨s0, s1⟩ := HHx.out.1.2.1 p hpN
              rw [Ch.snp_here HR.out HX.out HY.out HV.out HHH.out X0 Y0 xl hxl yl hyl (by omega) (by omega) hp.symm] at s0
              obtain ⟨l0, l1, l2, l3, l4⟩ := HHx.out.1.1
              have HST := Lib.hid (HHx.out.1.set hpN)
              have HRT := Lib.hid (rect_set (g := g) (p := p) HHx.out.2 (by omega) (.bool true))
              go_wp2_with fail
              go_roundw
              case rel => exact ⟨x + 1, by go_num, by omega, by omega, Lib.hid ⟨HST.out.congr (fun j _ => HNX.out j), HRT.out⟩⟩
              case measure => simp [intOf]; omega
            · obtain rfl : x = X + V := by omega
              go_wp2_with fail
              go_roundw
              case rel => exact ⟨y + 1, by go_num, by omega, by omega, Lib.hid ⟨HHx.out.1.congr (fun j hj => Ch.snp_row j y HR.out HN.out hj HX.out HY.out HV.out HHH.out), HHx.out.2⟩⟩
              case measure => simp [intOf]; omega
        · obtain rfl : y = Y + H := by omega
          go_wp2_with fail
          go_roundw
          case rel => exact ⟨i + 1, by go_num, by omega, Lib.hid (by have := HHy.out.1.congr (fun j hj => Ch.snp_close j HR.out HN.out hj HX.out HY.out HV.out HHH.out); exact this)⟩
          case measure => simp [intOf]; omega
    · obtain rfl : i = M := by omega
      go_wp2_with fail
      have HA := Lib.hid (fun j hj => (HM.out ▸ Ch.sn_all (N := N) j HR.out HN.out hj : Ch.sn a c d (i : Int) j = true))
      go_loopw [136] (fun j' w7 => ∃ j : Nat, j' = .int .i64 j ∧ j ≤ N ∧ w7 = wr) (fun j' _ => N - (intOf j').toNat)
      case atStart => exact ⟨0, rfl, by omega, rfl⟩
      case round =>
        obtain ⟨j, rfl, hj, rfl⟩ := hrel
        by_cases hjN : j < N
        · obtain ⟨s0, s1⟩ := HH.out.2.1 j hjN
          rw [HA.out j hjN] at s0
          go_wp2_with fail
          go_roundw
          case rel => exact ⟨j + 1, by go_num, by omega, trivial⟩
          case measure => simp [intOf]; omega
        · go_wp2
          go_ret
          exact ⟨rfl, HH.out.2.2.1⟩

theorem whole_walk (a b : Int) (t : Bool) (c d : Int) (w : World) (wc : I64 c) (wd : I64 d) :
    Calls Try.prog 4 #[.agg #[.int .i64 a, .int .i64 b, .bool t, .int .i64 c, .int .i64 d]] w fun e w' => e = .returned (.bool true) ∧ Below w.heap.size w w' := by
  by_cases h : Ch.Right a b t c d ∧ a ≤ 200 ∧ b ≤ 200
  · exact whole_in a b t c d w h.1 h.2.1 h.2.2
  · exact whole_out a b t c d w h wc wd
end Go.Proofs.Ytfdgipbnbalcjaa
