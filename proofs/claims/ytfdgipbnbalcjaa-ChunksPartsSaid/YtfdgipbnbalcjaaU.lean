/- The walk of ChunksParts: where the layout is right, and there is no such part. -/
import Derived.Test.YtfdgipbnbalcjaaT
import Derived.Test.YtfdgipbnbalcjaaO
import Derived.Test.YtfdgipbnbalcjaaS
import Derived.Test.YtfdgipbnbalcjaaH
import Derived.Deep.CutRange
import Derived.Deep.DeepCutAuto
namespace Go.Proofs.Ytfdgipbnbalcjaa
open Go.RowKit

set_option maxRecDepth 10000 in
set_option maxHeartbeats 8000000 in
theorem parts_walk_oob (a b : Int) (t : Bool) (c d i : Int) (w : World) (h : Ch.Right a b t c d) (hi : i < 0 ∨ Ch.cnt a c * Ch.cnt b d ≤ i) :
    Calls Try.prog 3 #[.agg #[.int .i64 a, .int .i64 b, .bool t, .int .i64 c, .int .i64 d], .int .i64 i] w fun e w' => e = .returned (.bool true) ∧ Below w.heap.size w w' := by
  have HR := Lib.hid (rightB_yes h)
  obtain ⟨ic, id⟩ := Right.w64 h
  obtain ⟨a0, b0, a1, b1, ab, c0, d0, c1, d1⟩ := h.bd
  obtain ⟨n0, n1⟩ := Ch.cnt_bd a0 a1 c0
  obtain ⟨m0, m1⟩ := Ch.cnt_bd b0 b1 d0
  have pnm := Ch.prod_bd n0 n1 m0 m1
  obtain ⟨M, hM⟩ : ∃ M : Nat, Ch.cnt a c * Ch.cnt b d = M := ⟨(Ch.cnt a c * Ch.cnt b d).toNat, by omega⟩
  have HCN := Lib.hid (fun w => count_n w h hM)
  have HPT := Lib.hid (fun w => parts_any a b t c d M w h hM)
  obtain ⟨sk, hsk⟩ : ∃ sk : Bool, sk = decide ((600 < a ∧ c < 60) ∨ (3000 < b ∧ d < 20)) := ⟨_, rfl⟩
  have HSK := Lib.hid hsk
  have hpc := fun w => part_oob a b t c d i w h hi
  have hic := fun w => inside_no a b t c d i w (.inr ⟨h, hi⟩) ic id
  unfold rectV at hpc hic
  have HPC := Lib.hid hpc
  have HIC := Lib.hid hic
  rw [hM] at hi pnm
  clear hpc hic hM hsk h n0 n1 m0 m1
  have HL := Lib.hid (LayAt.made w a b t c d)
  have HB := Lib.hid ((Below.refl _ w).alloc (Nat.le_refl _) (.cells #[.int .i64 a, .int .i64 b, .bool t, .int .i64 c, .int .i64 d] 23))
  have hlt : w.heap.size < (w.alloc (.cells #[.int .i64 a, .int .i64 b, .bool t, .int .i64 c, .int .i64 d] 23)).heap.size := by simp
  obtain ⟨l0, l1, l2, l3, l4⟩ := HL.out
  go_enter Try.func3, Try.ntmps3
  go_upto_region 1 with fail
  go_cut [20] from 12 to 20 (fun v wx => v = .bool false ∧ Hid (At w a b t c d wx))
  case first =>
    go_region_with (first
    | (go_at_call 6; refine (lives_any _).mono ?_; rintro e w1 ⟨rfl, hb⟩; replace HL := Lib.hid (show LayAt w1 w.heap.size a b t c d from (by first | exact HL.out.below hb hlt | exact LayAt.below_drew HL.out hb hlt)); replace HB := Lib.hid (show Below w.heap.size w w1 from (by first | exact HB.out.trans (hb.mono HB.out.size) | exact below_next_drew HB.out hb)); replace hlt : w.heap.size < w1.heap.size := Nat.lt_of_lt_of_le hlt hb.size; clear hb; obtain ⟨l0, l1, l2, l3, l4⟩ := HL.out)
      | (go_at_call 7; refine (right_is HR.out ic id).mono ?_; rintro e w1 ⟨rfl, hb⟩; replace HL := Lib.hid (show LayAt w1 w.heap.size a b t c d from (by first | exact HL.out.below hb hlt | exact LayAt.below_drew HL.out hb hlt)); replace HB := Lib.hid (show Below w.heap.size w w1 from (by first | exact HB.out.trans (hb.mono HB.out.size) | exact below_next_drew HB.out hb)); replace hlt : w.heap.size < w1.heap.size := Nat.lt_of_lt_of_le hlt hb.size; clear hb; obtain ⟨l0, l1, l2, l3, l4⟩ := HL.out)
      | (go_at_call 8; refine (refRight_is HR.out ic id).mono ?_; rintro e w1 ⟨rfl, hb⟩; replace HL := Lib.hid (show LayAt w1 w.heap.size a b t c d from (by first | exact HL.out.below hb hlt | exact LayAt.below_drew HL.out hb hlt)); replace HB := Lib.hid (show Below w.heap.size w w1 from (by first | exact HB.out.trans (hb.mono HB.out.size) | exact below_next_drew HB.out hb)); replace hlt : w.heap.size < w1.heap.size := Nat.lt_of_lt_of_le hlt hb.size; clear hb; obtain ⟨l0, l1, l2, l3, l4⟩ := HL.out))
    all_goals (go_wp2_with fail; go_meet; exact ⟨rfl, Lib.hid ⟨HL.out, HB.out, hlt⟩⟩)
  case rest =>
    obtain ⟨rfl, HA⟩ := hcut
    clear HL HB hlt l0 l1 l2 l3 l4
    obtain ⟨l0, l1, l2, l3, l4⟩ := HA.out.1
    go_wp2_with fail
    refine (HCN.out _).mono ?_
    rintro e w2 ⟨rfl, hb⟩
    clear l0 l1 l2 l3 l4
    replace HA := Lib.hid (HA.out.next hb)
    clear hb
    obtain ⟨l0, l1, l2, l3, l4⟩ := HA.out.1
    go_wp2_with fail
    refine (HPC.out _).mono ?_
    rintro e w3 ⟨rfl, hb⟩
    clear l0 l1 l2 l3 l4
    replace HA := Lib.hid (HA.out.next hb)
    clear hb
    obtain ⟨l0, l1, l2, l3, l4⟩ := HA.out.1
    clear l0 l1 l2 l3 l4
    replace HA := Lib.hid (HA.out.alloc (.cells #[.int .i64 (0), .int .i64 (0), .int .i64 (0), .int .i64 (0)] 30))
    have HP := Lib.hid (RectAt.made w3 (0) (0) (0) (0) 30)
    obtain ⟨l0, l1, l2, l3, l4⟩ := HA.out.1
    go_wp2_with fail
    refine (HIC.out _).mono ?_
    rintro e w4 ⟨rfl, hb⟩
    clear l0 l1 l2 l3 l4
    replace HA := Lib.hid (HA.out.next hb)
    replace HP := Lib.hid (HP.out.below hb (by simp))
    have hs3 := hb.size
    simp only [World.size_alloc] at hs3
    clear hb
    obtain ⟨l0, l1, l2, l3, l4⟩ := HA.out.1
    clear l0 l1 l2 l3 l4
    replace HA := Lib.hid (HA.out.alloc (.cells #[.int .i64 (0), .int .i64 (0), .int .i64 (0), .int .i64 (0)] 30))
    replace HP := Lib.hid (HP.out.below ((Below.refl _ w4).alloc (Nat.le_refl _) (.cells #[.int .i64 (0), .int .i64 (0), .int .i64 (0), .int .i64 (0)] 30)) (by omega))
    have HS := Lib.hid (RectAt.made w4 (0) (0) (0) (0) 30)
    obtain ⟨l0, l1, l2, l3, l4⟩ := HA.out.1
    go_wp2_with fail
    refine (refRight_is HR.out ic id).mono ?_
    rintro e w5 ⟨rfl, hb⟩
    clear l0 l1 l2 l3 l4
    replace HA := Lib.hid (HA.out.next hb)
    replace HP := Lib.hid (HP.out.below hb (by simp; omega))
    replace HS := Lib.hid (HS.out.below hb (by simp))
    have hs4 := hb.size
    simp only [World.size_alloc] at hs4
    clear hb
    obtain ⟨l0, l1, l2, l3, l4⟩ := HA.out.1
    go_upto_region 8 with fail
    obtain ⟨w6, hw6⟩ : ∃ w6, w6 = w5 := ⟨_, rfl⟩
    go_cut [82] from 65 to 82 (fun v wx => v = .bool sk ∧ wx = w6)
    case first =>
      by_cases s1 : 600 < a
      all_goals by_cases s2 : c < 60
      all_goals by_cases s3 : 3000 < b
      all_goals by_cases s4 : d < 20
      all_goals (go_wp2_with fail; go_meet; exact ⟨by rw [HSK.out]; simp [s1, s2, s3, s4], hw6.symm⟩)
    case rest =>
      obtain ⟨rfl, rfl⟩ := hcut
      subst hw6
      cases sk
      case true =>
        go_wp2
        go_ret
        exact ⟨rfl, HA.out.2.1⟩
      case false =>
        go_wp2_with fail
        refine (HPT.out _).mono ?_
        rintro e w7 ⟨A, cap, rfl, hrs, hb⟩
        have HQ := Lib.hid hrs
        clear hrs
        clear l0 l1 l2 l3 l4
        replace HA := Lib.hid (HA.out.next hb)
        replace HP := Lib.hid (HP.out.below hb (by omega))
        replace HS := Lib.hid (HS.out.below hb (by omega))
        clear hb
        obtain ⟨l0, l1, l2, l3, l4⟩ := HA.out.1
        obtain ⟨⟨q0, q1, q2, q3⟩, _⟩ := HP.out
        obtain ⟨⟨p0, p1, p2, p3⟩, _⟩ := HS.out
        by_cases h0 : i < 0
        · go_wp2
          go_ret
          exact ⟨rfl, HA.out.2.1⟩
        · have h1 : (M : Int) ≤ i := by omega
          go_wp2
          go_ret
          exact ⟨rfl, HA.out.2.1⟩
end Go.Proofs.Ytfdgipbnbalcjaa
