/- The walk of ChunksParts: where there is such a part. -/
import Derived.Test.YtfdgipbnbalcjaaT
import Derived.Test.YtfdgipbnbalcjaaO
import Derived.Test.YtfdgipbnbalcjaaS
import Derived.Test.YtfdgipbnbalcjaaH
import Derived.Deep.RegionHeld3
import Derived.Deep.CutRange
import Derived.Deep.DeepCutAuto
namespace Go.Proofs.Ytfdgipbnbalcjaa
open Go.RowKit

theorem RectAt.below_drew {w w' : World} {rb B : Nat} {x y v h : Int} (k : RectAt w rb x y v h) (hb : Below B w.drew w') (hB : rb < B) : RectAt w' rb x y v h := by
  have k' : RectAt w.drew rb x y v h := k
  exact k'.below hb hB
def Rc4 (w : World) (g o : Nat) (x y v h : Int) : Prop :=
  w.cell? ⟨g, o, none⟩ = some (.int .i64 x) ∧ w.cell? ⟨g, o + 1, none⟩ = some (.int .i64 y) ∧ w.cell? ⟨g, o + 2, none⟩ = some (.int .i64 v) ∧ w.cell? ⟨g, o + 3, none⟩ = some (.int .i64 h)
theorem Rc4.below_drew {w w' : World} {g o B : Nat} {x y v h : Int} (k : Rc4 w g o x y v h) (hb : Below B w.drew w') (hB : g < B) : Rc4 w' g o x y v h := by
  have k' : Rc4 w.drew g o x y v h := k
  obtain ⟨h0, h1, h2, h3⟩ := k'
  refine ⟨?_, ?_, ?_, ?_⟩ <;> (rw [hb.cell (by exact hB)]; assumption)
theorem At.next_drew {w wx w' : World} {a b : Int} {t : Bool} {c d : Int} (h : At w a b t c d wx) (hb : Below wx.drew.heap.size wx.drew w') : At w a b t c d w' :=
  At.next (wx := wx.drew) ⟨h.1, h.2.1.drew, h.2.2⟩ hb

set_option maxRecDepth 10000 in
set_option maxHeartbeats 8000000 in
theorem parts_walk_in (a b : Int) (t : Bool) (c d i : Int) (w : World) (h : Ch.Right a b t c d) (i0 : 0 ≤ i) (i1 : i < Ch.cnt a c * Ch.cnt b d) :
    Calls Try.prog 3 #[.agg #[.int .i64 a, .int .i64 b, .bool t, .int .i64 c, .int .i64 d], .int .i64 i] w fun e w' => e = .returned (.bool true) ∧ Below w.heap.size w w' := by
  have HR := Lib.hid (rightB_yes h)
  obtain ⟨ic, id⟩ := Right.w64 h
  obtain ⟨a0, b0, a1, b1, ab, c0, d0, c1, d1⟩ := h.bd
  obtain ⟨n0, n1⟩ := Ch.cnt_bd a0 a1 c0
  obtain ⟨m0, m1⟩ := Ch.cnt_bd b0 b1 d0
  have pnm := Ch.prod_bd n0 n1 m0 m1
  obtain ⟨M, hM⟩ : ∃ M : Nat, Ch.cnt a c * Ch.cnt b d = M := ⟨(Ch.cnt a c * Ch.cnt b d).toNat, by omega⟩
  have HCN := Lib.hid (fun w => count_n w h hM)
  have HPT := Lib.hid (fun w => parts_any a b t c d M w h hM)
  obtain ⟨sk, hsk⟩ : ∃ sk : Bool, sk = decide ((600 < a ∧ c < 60) ∨ (3000 < b ∧ d < 20)) := ⟨_, rfl⟩
  have HSK := Lib.hid hsk
  have hpb := Ch.part_bd h i0 i1
  have hRD := h.bd
  obtain ⟨X, hX⟩ : ∃ X, X = Ch.partX a c i := ⟨_, rfl⟩
  obtain ⟨Y, hY⟩ : ∃ Y, Y = Ch.partY a c d i := ⟨_, rfl⟩
  rw [← hX, ← hY] at hpb
  obtain ⟨ph, hph⟩ : ∃ ph, ph = Ch.partH b t d Y := ⟨_, rfl⟩
  rw [← hph] at hpb
  obtain ⟨V, hV⟩ : ∃ V, V = Ch.mini c (a - X) := ⟨_, rfl⟩
  obtain ⟨H, hH⟩ : ∃ H, H = Ch.mini ph (b - Y) := ⟨_, rfl⟩
  have hpc := fun w => part_yes a b t c d i w h i0 i1
  have hic := fun w => inside_is w h i0 i1 hX hY hV (show H = Ch.mini (Ch.partH b t d Y) (b - Y) from by rw [hH, hph])
  have hri := fun w => refInside_any a b t c d X Y c ph w (by omega) (by omega) (by omega) (by omega) (by omega) (by omega)
  rw [← hX, ← hY, ← hph] at hpc
  rw [← hV, ← hH] at hri
  unfold rectV at hpc hic hri
  obtain ⟨k, rfl⟩ : ∃ k : Nat, i = k := ⟨i.toNat, by omega⟩
  have hkM : k < M := by rw [hM] at i1; omega
  have HPA := Lib.hid (show (Ch.parts a b t c d M)[k]? = some ⟨X, Y, c, ph⟩ from by rw [Ch.parts_at a b t c d hkM, hph, hX, hY]; rfl)
  have HPC := Lib.hid hpc
  have HIC := Lib.hid hic
  have HRI := Lib.hid hri
  rw [hM] at pnm
  clear hpc hic hri hM hsk h n0 n1 m0 m1 hX hY hph hV hH i1 hpb hRD
  have HL := Lib.hid (LayAt.made w a b t c d)
  have HB := Lib.hid ((Below.refl _ w).alloc (Nat.le_refl _) (.cells #[.int .i64 a, .int .i64 b, .bool t, .int .i64 c, .int .i64 d] 23))
  have hlt : w.heap.size < (w.alloc (.cells #[.int .i64 a, .int .i64 b, .bool t, .int .i64 c, .int .i64 d] 23)).heap.size := by simp
  obtain ⟨l0, l1, l2, l3, l4⟩ := HL.out
  go_enter Try.func3, Try.ntmps3
  go_upto_region 1 with fail
  go_cut [20] from 12 to 20 (fun v wx => v = .bool false ∧ Hid (At w a b t c d wx))
  case first =>
    go_region_with (first
    | (go_at_call 6; refine (lives_any _).mono ?_; rintro e w1 ⟨rfl, hb⟩; replace HL := Lib.hid (show LayAt w1 w.heap.size a b t c d from (by first | exact HL.out.below hb hlt | exact LayAt.below_drew HL.out hb hlt)); replace HB := Lib.hid (show Below w.heap.size w w1 from (by first | exact HB.out.trans (hb.mono HB.out.size) | exact below_next_drew HB.out hb)); replace hlt : w.heap.size < w1.heap.size := Nat.lt_of_lt_of_le hlt hb.size; clear hb; obtain ⟨l0, l1, l2, l3, l4⟩ := HL.out)
      | (go_at_call 7; refine (right_is HR.out ic id).mono ?_; rintro e w1 ⟨rfl, hb⟩; replace HL := Lib.hid (show LayAt w1 w.heap.size a b t c d from (by first | exact HL.out.below hb hlt | exact LayAt.below_drew HL.out hb hlt)); replace HB := Lib.hid (show Below w.heap.size w w1 from (by first | exact HB.out.trans (hb.mono HB.out.size) | exact below_next_drew HB.out hb)); replace hlt : w.heap.size < w1.heap.size := Nat.lt_of_lt_of_le hlt hb.size; clear hb; obtain ⟨l0, l1, l2, l3, l4⟩ := HL.out)
      | (go_at_call 8; refine (refRight_is HR.out ic id).mono ?_; rintro e w1 ⟨rfl, hb⟩; replace HL := Lib.hid (show LayAt w1 w.heap.size a b t c d from (by first | exact HL.out.below hb hlt | exact LayAt.below_drew HL.out hb hlt)); replace HB := Lib.hid (show Below w.heap.size w w1 from (by first | exact HB.out.trans (hb.mono HB.out.size) | exact below_next_drew HB.out hb)); replace hlt : w.heap.size < w1.heap.size := Nat.lt_of_lt_of_le hlt hb.size; clear hb; obtain ⟨l0, l1, l2, l3, l4⟩ := HL.out))
    all_goals (go_wp2_with fail; go_meet; exact ⟨rfl, Lib.hid ⟨HL.out, HB.out, hlt⟩⟩)
  case rest =>
    obtain ⟨rfl, HA⟩ := hcut
    clear HL HB hlt l0 l1 l2 l3 l4
    obtain ⟨l0, l1, l2, l3, l4⟩ := HA.out.1
    go_wp2_with fail
    refine (HCN.out _).mono ?_
    rintro e w2 ⟨rfl, hb⟩
    clear l0 l1 l2 l3 l4
    replace HA := Lib.hid (HA.out.next hb)
    clear hb
    obtain ⟨l0, l1, l2, l3, l4⟩ := HA.out.1
    go_wp2_with fail
    refine (HPC.out _).mono ?_
    rintro e w3 ⟨rfl, hb⟩
    clear l0 l1 l2 l3 l4
    replace HA := Lib.hid (HA.out.next hb)
    clear hb
    obtain ⟨l0, l1, l2, l3, l4⟩ := HA.out.1
    clear l0 l1 l2 l3 l4
    replace HA := Lib.hid (HA.out.alloc (.cells #[.int .i64 (X), .int .i64 (Y), .int .i64 (c), .int .i64 (ph)] 30))
    have HP := Lib.hid (RectAt.made w3 (X) (Y) (c) (ph) 30)
    obtain ⟨l0, l1, l2, l3, l4⟩ := HA.out.1
    go_wp2_with fail
    refine (HIC.out _).mono ?_
    rintro e w4 ⟨rfl, hb⟩
    clear l0 l1 l2 l3 l4
    replace HA := Lib.hid (HA.out.next hb)
    replace HP := Lib.hid (HP.out.below hb (by simp))
    have hs3 := hb.size
    simp only [World.size_alloc] at hs3
    clear hb
    obtain ⟨l0, l1, l2, l3, l4⟩ := HA.out.1
    clear l0 l1 l2 l3 l4
    replace HA := Lib.hid (HA.out.alloc (.cells #[.int .i64 (X), .int .i64 (Y), .int .i64 (V), .int .i64 (H)] 30))
    replace HP := Lib.hid (HP.out.below ((Below.refl _ w4).alloc (Nat.le_refl _) (.cells #[.int .i64 (X), .int .i64 (Y), .int .i64 (V), .int .i64 (H)] 30)) (by omega))
    have HS := Lib.hid (RectAt.made w4 (X) (Y) (V) (H) 30)
    obtain ⟨l0, l1, l2, l3, l4⟩ := HA.out.1
    go_wp2_with fail
    refine (refRight_is HR.out ic id).mono ?_
    rintro e w5 ⟨rfl, hb⟩
    clear l0 l1 l2 l3 l4
    replace HA := Lib.hid (HA.out.next hb)
    replace HP := Lib.hid (HP.out.below hb (by simp; omega))
    replace HS := Lib.hid (HS.out.below hb (by simp))
    have hs4 := hb.size
    simp only [World.size_alloc] at hs4
    clear hb
    obtain ⟨l0, l1, l2, l3, l4⟩ := HA.out.1
    go_upto_region 8 with fail
    obtain ⟨w6, hw6⟩ : ∃ w6, w6 = w5 := ⟨_, rfl⟩
    go_cut [82] from 65 to 82 (fun v wx => v = .bool sk ∧ wx = w6)
    case first =>
      by_cases s1 : 600 < a
      all_goals by_cases s2 : c < 60
      all_goals by_cases s3 : 3000 < b
      all_goals by_cases s4 : d < 20
      all_goals (go_wp2_with fail; go_meet; exact ⟨by rw [HSK.out]; simp [s1, s2, s3, s4], hw6.symm⟩)
    case rest =>
      obtain ⟨rfl, rfl⟩ := hcut
      subst hw6
      cases sk
      case true =>
        go_wp2
        go_ret
        exact ⟨rfl, HA.out.2.1⟩
      case false =>
        go_wp2_with fail
        refine (HPT.out _).mono ?_
        rintro e w7 ⟨A, cap, rfl, hrs, hb⟩
        have HQ := Lib.hid hrs
        clear hrs
        clear l0 l1 l2 l3 l4
        replace HA := Lib.hid (HA.out.next hb)
        replace HP := Lib.hid (HP.out.below hb (by omega))
        replace HS := Lib.hid (HS.out.below hb (by omega))
        have hs5 := hb.size
        clear hb
        obtain ⟨l0, l1, l2, l3, l4⟩ := HA.out.1
        obtain ⟨⟨q0, q1, q2, q3⟩, _⟩ := HP.out
        obtain ⟨⟨p0, p1, p2, p3⟩, _⟩ := HS.out
        obtain ⟨g, rfl, hg, hcells⟩ := HQ.out.2 (by omega)
        have HC := Lib.hid (show Rc4 w7 g (k * 4) X Y c ph from hcells k _ HPA.out)
        obtain ⟨c0, c1, c2, c3⟩ := HC.out
        have hs7 : w3.heap.size < w7.heap.size ∧ w4.heap.size < w7.heap.size := by omega
        have k0 : (0 : Int) ≤ (k : Int) := by omega
        have k1 : (k : Int) < (M : Int) := by omega
        clear hcells
        go_upto_region 15 with fail
        go_region_held3 (fun w' => (w'.cell? ⟨w3.heap.size, 0, none⟩ = some (.int .i64 X) ∧ w'.cell? ⟨w3.heap.size, 1, none⟩ = some (.int .i64 Y) ∧ w'.cell? ⟨w3.heap.size, 2, none⟩ = some (.int .i64 c) ∧ w'.cell? ⟨w3.heap.size, 3, none⟩ = some (.int .i64 ph))
            ∧ (w'.cell? ⟨w4.heap.size, 0, none⟩ = some (.int .i64 X) ∧ w'.cell? ⟨w4.heap.size, 1, none⟩ = some (.int .i64 Y) ∧ w'.cell? ⟨w4.heap.size, 2, none⟩ = some (.int .i64 V) ∧ w'.cell? ⟨w4.heap.size, 3, none⟩ = some (.int .i64 H))
            ∧ (w'.cell? ⟨w.heap.size, 0, none⟩ = some (.int .i64 a) ∧ w'.cell? ⟨w.heap.size, 1, none⟩ = some (.int .i64 b) ∧ w'.cell? ⟨w.heap.size, 2, none⟩ = some (.bool t) ∧ w'.cell? ⟨w.heap.size, 3, none⟩ = some (.int .i64 c) ∧ w'.cell? ⟨w.heap.size, 4, none⟩ = some (.int .i64 d))
            ∧ (w'.cell? ⟨g, k * 4, none⟩ = some (.int .i64 X) ∧ w'.cell? ⟨g, k * 4 + 1, none⟩ = some (.int .i64 Y) ∧ w'.cell? ⟨g, k * 4 + 2, none⟩ = some (.int .i64 c) ∧ w'.cell? ⟨g, k * 4 + 3, none⟩ = some (.int .i64 ph)))
          (exact ⟨HP.out.1, HS.out.1, HA.out.1, HC.out⟩)
          (first
            | (go_at_call 13; refine (HRI.out _).mono ?_; rintro e w8 ⟨rfl, hb⟩; replace HP := Lib.hid (HP.out.below_drew hb hs7.1); replace HS := Lib.hid (HS.out.below_drew hb hs7.2); replace HC := Lib.hid (HC.out.below_drew hb hg); replace HA := Lib.hid (HA.out.next_drew hb); clear hb))
        all_goals (
          go_wp2
          go_ret
          exact ⟨rfl, HA.out.2.1⟩)
end Go.Proofs.Ytfdgipbnbalcjaa
