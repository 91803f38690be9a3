/- The walk of ChunksParts. -/
import Derived.Test.YtfdgipbnbalcjaaO
import Derived.Test.YtfdgipbnbalcjaaS
import Derived.Test.YtfdgipbnbalcjaaH
import Derived.Deep.CutRange
import Derived.Deep.DeepCutAuto
namespace Go.Proofs.Ytfdgipbnbalcjaa
open Go.RowKit

theorem LayAt.below_drew {w w' : World} {tb B : Nat} {a b : Int} {t : Bool} {c d : Int} (h : LayAt w tb a b t c d) (hb : Below B w.drew w') (hB : tb < B) : LayAt w' tb a b t c d := by
  have h' : LayAt w.drew tb a b t c d := h
  exact h'.below hb hB
theorem below_next_drew {w0 w w' : World} (h : Below w0.heap.size w0 w) (hb : Below w.drew.heap.size w.drew w') : Below w0.heap.size w0 w' := h.drew.trans (hb.mono h.size)
/-- a layout in block tb of a world that came of w -/
def At (w : World) (a b : Int) (t : Bool) (c d : Int) (wx : World) : Prop := LayAt wx w.heap.size a b t c d ∧ Below w.heap.size w wx ∧ w.heap.size < wx.heap.size
theorem At.next {w wx w' : World} {a b : Int} {t : Bool} {c d : Int} (h : At w a b t c d wx) (hb : Below wx.heap.size wx w') : At w a b t c d w' :=
  ⟨h.1.below hb h.2.2, h.2.1.trans (hb.mono h.2.1.size), Nat.lt_of_lt_of_le h.2.2 hb.size⟩
theorem At.alloc {w wx : World} {a b : Int} {t : Bool} {c d : Int} (h : At w a b t c d wx) (o : Obj) : At w a b t c d (wx.alloc o) := h.next ((Below.refl _ wx).alloc (Nat.le_refl _) o)

set_option maxRecDepth 10000 in
set_option maxHeartbeats 4000000 in
theorem parts_walk_no (a b : Int) (t : Bool) (c d i : Int) (w : World) (h : ¬ Ch.Right a b t c d) (ic : I64 c) (id : I64 d) :
    Calls Try.prog 3 #[.agg #[.int .i64 a, .int .i64 b, .bool t, .int .i64 c, .int .i64 d], .int .i64 i] w fun e w' => e = .returned (.bool true) ∧ Below w.heap.size w w' := by
  have HR := Lib.hid (rightB_no h)
  have HN := Lib.hid h
  clear h
  have HL := Lib.hid (LayAt.made w a b t c d)
  have HB := Lib.hid ((Below.refl _ w).alloc (Nat.le_refl _) (.cells #[.int .i64 a, .int .i64 b, .bool t, .int .i64 c, .int .i64 d] 23))
  have hlt : w.heap.size < (w.alloc (.cells #[.int .i64 a, .int .i64 b, .bool t, .int .i64 c, .int .i64 d] 23)).heap.size := by simp
  obtain ⟨l0, l1, l2, l3, l4⟩ := HL.out
  go_enter Try.func3, Try.ntmps3
  go_upto_region 1 with fail
  go_cut [20] from 12 to 20 (fun v wx => v = .bool false ∧ Hid (At w a b t c d wx))
  case first =>
    go_region_with (first
      | (go_at_call 6; refine (lives_any _).mono ?_; rintro e w1 ⟨rfl, hb⟩; replace HL := Lib.hid (show LayAt w1 w.heap.size a b t c d from (by first | exact HL.out.below hb hlt | exact LayAt.below_drew HL.out hb hlt)); replace HB := Lib.hid (show Below w.heap.size w w1 from (by first | exact HB.out.trans (hb.mono HB.out.size) | exact below_next_drew HB.out hb)); replace hlt : w.heap.size < w1.heap.size := Nat.lt_of_lt_of_le hlt hb.size; clear hb; obtain ⟨l0, l1, l2, l3, l4⟩ := HL.out)
      | (go_at_call 7; refine (right_is HR.out ic id).mono ?_; rintro e w1 ⟨rfl, hb⟩; replace HL := Lib.hid (show LayAt w1 w.heap.size a b t c d from (by first | exact HL.out.below hb hlt | exact LayAt.below_drew HL.out hb hlt)); replace HB := Lib.hid (show Below w.heap.size w w1 from (by first | exact HB.out.trans (hb.mono HB.out.size) | exact below_next_drew HB.out hb)); replace hlt : w.heap.size < w1.heap.size := Nat.lt_of_lt_of_le hlt hb.size; clear hb; obtain ⟨l0, l1, l2, l3, l4⟩ := HL.out)
      | (go_at_call 8; refine (refRight_is HR.out ic id).mono ?_; rintro e w1 ⟨rfl, hb⟩; replace HL := Lib.hid (show LayAt w1 w.heap.size a b t c d from (by first | exact HL.out.below hb hlt | exact LayAt.below_drew HL.out hb hlt)); replace HB := Lib.hid (show Below w.heap.size w w1 from (by first | exact HB.out.trans (hb.mono HB.out.size) | exact below_next_drew HB.out hb)); replace hlt : w.heap.size < w1.heap.size := Nat.lt_of_lt_of_le hlt hb.size; clear hb; obtain ⟨l0, l1, l2, l3, l4⟩ := HL.out))
    all_goals (go_wp2_with fail; go_meet; exact ⟨rfl, Lib.hid ⟨HL.out, HB.out, hlt⟩⟩)
  case rest =>
    obtain ⟨rfl, HA⟩ := hcut
    clear HL HB hlt l0 l1 l2 l3 l4
    obtain ⟨l0, l1, l2, l3, l4⟩ := HA.out.1
    go_wp2_with fail
    refine (count_no a b t c d _ HN.out ic id).mono ?_
    rintro e w2 ⟨rfl, hb⟩
    clear l0 l1 l2 l3 l4
    replace HA := Lib.hid (HA.out.next hb)
    clear hb
    obtain ⟨l0, l1, l2, l3, l4⟩ := HA.out.1
    go_wp2_with fail
    refine (part_no a b t c d i _ HN.out ic id).mono ?_
    rintro e w3 ⟨rfl, hb⟩
    clear l0 l1 l2 l3 l4
    replace HA := Lib.hid (HA.out.next hb)
    clear hb
    obtain ⟨l0, l1, l2, l3, l4⟩ := HA.out.1
    unfold rectV
    clear l0 l1 l2 l3 l4
    replace HA := Lib.hid (HA.out.alloc (.cells #[.int .i64 0, .int .i64 0, .int .i64 0, .int .i64 0] 30))
    have HP := Lib.hid (RectAt.made w3 0 0 0 0 30)
    obtain ⟨l0, l1, l2, l3, l4⟩ := HA.out.1
    go_wp2_with fail
    refine (inside_no a b t c d i _ (.inl HN.out) ic id).mono ?_
    rintro e w4 ⟨rfl, hb⟩
    clear l0 l1 l2 l3 l4
    replace HA := Lib.hid (HA.out.next hb)
    replace HP := Lib.hid (HP.out.below hb (by simp))
    have hs3 := hb.size
    simp only [World.size_alloc] at hs3
    clear hb
    obtain ⟨l0, l1, l2, l3, l4⟩ := HA.out.1
    unfold rectV
    clear l0 l1 l2 l3 l4
    replace HA := Lib.hid (HA.out.alloc (.cells #[.int .i64 0, .int .i64 0, .int .i64 0, .int .i64 0] 30))
    replace HP := Lib.hid (HP.out.below ((Below.refl _ w4).alloc (Nat.le_refl _) (.cells #[.int .i64 0, .int .i64 0, .int .i64 0, .int .i64 0] 30)) (by omega))
    have HS := Lib.hid (RectAt.made w4 0 0 0 0 30)
    obtain ⟨l0, l1, l2, l3, l4⟩ := HA.out.1
    go_wp2_with fail
    refine (refRight_is HR.out ic id).mono ?_
    rintro e w5 ⟨rfl, hb⟩
    clear l0 l1 l2 l3 l4
    replace HA := Lib.hid (HA.out.next hb)
    replace HP := Lib.hid (HP.out.below hb (by simp; omega))
    replace HS := Lib.hid (HS.out.below hb (by simp))
    clear hb
    obtain ⟨l0, l1, l2, l3, l4⟩ := HA.out.1
    obtain ⟨⟨q0, q1, q2, q3⟩, _⟩ := HP.out
    obtain ⟨⟨p0, p1, p2, p3⟩, _⟩ := HS.out
    go_wp2
    go_ret
    exact ⟨rfl, HA.out.2.1⟩
end Go.Proofs.Ytfdgipbnbalcjaa
