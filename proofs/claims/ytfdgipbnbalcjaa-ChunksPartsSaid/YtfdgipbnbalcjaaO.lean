/- The document's Parts: what it hands back are the parts. -/
import Derived.Test.YtfdgipbnbalcjaaN
import Derived.Test.YtfdgipbnbalcjaaF
namespace Go.Proofs.Ytfdgipbnbalcjaa
open Go.RowKit

set_option maxRecDepth 10000 in
set_option maxHeartbeats 4000000 in
theorem parts_any (a b : Int) (t : Bool) (c d : Int) (M : Nat) (w : World) (h : Ch.Right a b t c d) (hM : Ch.cnt a c * Ch.cnt b d = M) :
    Calls Try.prog 12 #[.agg #[.int .i64 a, .int .i64 b, .bool t, .int .i64 c, .int .i64 d], .int .i64 1073741824] w fun e w' =>
      ∃ A cap, e = .returned (.slice A M cap) ∧ Rs w' w'.heap.size A M (Ch.parts a b t c d M) ∧ Below w.heap.size w w' := by
  obtain ⟨a0, b0, a1, b1, ab, c0, d0, c1, d1⟩ := h.bd
  obtain ⟨n0, n1⟩ := Ch.cnt_bd a0 a1 c0
  obtain ⟨m0, m1⟩ := Ch.cnt_bd b0 b1 d0
  have la := Ch.cnt_last a0 c0
  have lb := Ch.cnt_last b0 d0
  have pnm := Ch.prod_bd n0 n1 m0 m1
  obtain ⟨n, hn⟩ : ∃ n : Nat, Ch.cnt a c = n := ⟨(Ch.cnt a c).toNat, by omega⟩
  obtain ⟨m, hm⟩ : ∃ m : Nat, Ch.cnt b d = m := ⟨(Ch.cnt b d).toNat, by omega⟩
  have HNN := Lib.hid hn
  have HBY := Lib.hid (fun (q : Nat) (hq : q < m) => Ch.begin_lt b0 d0 (Int.natCast_nonneg q) (by rw [hm]; omega))
  have HBX := Lib.hid (fun (q : Nat) (hq : q < n) => Ch.begin_lt a0 c0 (Int.natCast_nonneg q) (by rw [hn]; omega))
  rw [hm, hn] at hM pnm
  rw [hn] at la n0 n1
  rw [hm] at lb m0 m1
  have hMn : M = m * n := by
    have : (M : Int) = ((m * n : Nat) : Int) := by rw [← hM]; push_cast; exact Int.mul_comm _ _
    omega
  have HMM := Lib.hid hMn
  have HLA := Lib.hid la.2
  have HLB := Lib.hid lb.2
  have hMb : (M : Int) ≤ 1073741824 := by omega
  obtain ⟨i0, hi, hz0, hz1, hz2⟩ := info_parts info30
  have HST := Lib.hid (show Ps w a b t c d 0 none 0 (w.alloc (.cells #[.int .i64 a, .int .i64 b, .bool t, .int .i64 c, .int .i64 d] 23)) from
    ⟨LayAt.made w a b t c d, World.ownsRow_nil _ _ _ _, (Below.refl _ _).alloc (Nat.le_refl _) _, by simp⟩)
  clear hn hm hM pnm la lb hMn h
  go_enter Try.func12, Try.ntmps12
  go_wp2_with fail
  go_loopw [5, 6] (fun out y' wr => ∃ (A : Option Addr) (q : Nat) (y : Int) (k cap : Nat), out = .slice A k cap ∧ y' = .int .i64 y ∧ q ≤ m ∧ Hid (k = q * n ∧ y = q * d ∧ Ps w a b t c d k A cap wr)) (fun _ y' _ => (b - intOf y').toNat)
  case atStart => exact ⟨none, 0, 0, 0, 0, rfl, rfl, by omega, Lib.hid ⟨by omega, by simp, HST.out⟩⟩
  case round =>
    obtain ⟨A, q, y, k, cap, rfl, rfl, hq, HH⟩ := hrel
    clear HST
    obtain ⟨l0, l1, l2, l3, l4⟩ := HH.out.2.2.1
    by_cases hqm : q < m
    · have hyb : 0 ≤ y ∧ y < b := by have := HBY.out q hqm; rw [HH.out.2.1]; exact this
      have HY := Lib.hid HH.out.2.1
      have HKM := Lib.hid (show q * n + n ≤ M from by
        rw [HMM.out]
        have := Nat.mul_le_mul_right n (show q + 1 ≤ m from hqm)
        rw [Nat.add_mul] at this; omega)
      go_wp2_with fail
      go_loopw [5, 7] (fun out x' wr => ∃ (A : Option Addr) (r : Nat) (x : Int) (k cap : Nat), out = .slice A k cap ∧ x' = .int .i64 x ∧ r ≤ n ∧ Hid (k = q * n + r ∧ x = r * c ∧ Ps w a b t c d k A cap wr)) (fun _ x' _ => (a - intOf x').toNat)
      case atStart => exact ⟨A, 0, 0, k, cap, rfl, rfl, by omega, Lib.hid ⟨by rw [HH.out.1]; omega, by simp, HH.out.2.2⟩⟩
      case round =>
        obtain ⟨A, r, x, k, cap, rfl, rfl, hr, HHx⟩ := hrel
        clear HH l0 l1 l2 l3 l4
        obtain ⟨l0, l1, l2, l3, l4⟩ := HHx.out.2.2.1
        by_cases hrn : r < n
        · have hxa : 0 ≤ x ∧ x < a := by have := HBX.out r hrn; rw [HHx.out.2.1]; exact this
          have hkM : (k : Int) < 1073741824 := by have := HKM.out; have := HHx.out.1; omega
          have HK := Lib.hid (⟨HHx.out.1, HHx.out.2.1⟩ : k = q * n + r ∧ x = r * c)
          have HP := Lib.hid HHx.out.2.2
          have HO := Lib.hid HHx.out.2.2.2.1
          have hsz := HHx.out.2.2.2.2.2
          have HPT := Lib.hid (Ch.part_here (b := b) (t := t) HNN.out hrn HK.out.1 HK.out.2 HY.out)
          clear HHx
          rcases Ch.partH_arms b t d y with ⟨rfl, hH⟩ | ⟨rfl, hle, hH⟩ | ⟨rfl, hle, hH⟩
          · replace hH := Lib.hid hH
            have HNEW := Lib.hid (rc_new wr 30 (0, 0) ⟨x, y, c, d⟩ rfl)
            go_wp2_with (first
              | (at_builtin; have t1 : k + 1 ≤ maxLen := (by unfold maxLen; omega); have t2 : (k + 1) * 32 ≤ 140737488355328 := (by omega); have t3 : w.heap.size + 1 ≤ (wr.alloc (.cells #[.int .i64 x, .int .i64 y, .int .i64 c, .int .i64 (d)] 30)).heap.size := (by simp; omega); refine wpList_append_lies _ rfl (.tmp 46) (.tmp 53) _ rfl (w.heap.size + 1) 30 i0 _ 4 32 Try.underlying33 hi hz0 hz1 hz2 rfl (by decide) _ k _ rfl (HO.out.alloc _) ⟨wr.heap.size, 0, none⟩ 1 1 (rcCells ⟨x, y, c, d⟩) ?_ ?_ ?_ ?_ ?_ t1 t2 t3 _ rfl ?_; rfl; rfl; exact HNEW.out; exact (rcCells_oneCell _); decide; intro g cap w3 own3 g3 at3 lt3; have HP3 := Lib.hid (HP.out.append own3 g3 (by rw [HPT.out, ← hH.out])); obtain ⟨e0, e1, e2, e3, e4⟩ := HP3.out.1; clear own3 g3 at3 lt3))
            go_roundw
            case rel => exact ⟨_, r + 1, x + c, k + 1, cap, rfl, by go_num, by omega, Lib.hid ⟨by rw [HK.out.1]; omega, by rw [HK.out.2]; push_cast; rw [Int.add_mul]; omega, HP3.out⟩⟩
            case measure => simp [intOf]; omega
          · replace hH := Lib.hid hH
            replace hle : ¬ b < y + d := by omega
            have HNEW := Lib.hid (rc_new wr 30 (0, 0) ⟨x, y, c, d⟩ rfl)
            go_wp2_with (first
              | (at_builtin; have t1 : k + 1 ≤ maxLen := (by unfold maxLen; omega); have t2 : (k + 1) * 32 ≤ 140737488355328 := (by omega); have t3 : w.heap.size + 1 ≤ (wr.alloc (.cells #[.int .i64 x, .int .i64 y, .int .i64 c, .int .i64 (d)] 30)).heap.size := (by simp; omega); refine wpList_append_lies _ rfl (.tmp 46) (.tmp 53) _ rfl (w.heap.size + 1) 30 i0 _ 4 32 Try.underlying33 hi hz0 hz1 hz2 rfl (by decide) _ k _ rfl (HO.out.alloc _) ⟨wr.heap.size, 0, none⟩ 1 1 (rcCells ⟨x, y, c, d⟩) ?_ ?_ ?_ ?_ ?_ t1 t2 t3 _ rfl ?_; rfl; rfl; exact HNEW.out; exact (rcCells_oneCell _); decide; intro g cap w3 own3 g3 at3 lt3; have HP3 := Lib.hid (HP.out.append own3 g3 (by rw [HPT.out, ← hH.out])); obtain ⟨e0, e1, e2, e3, e4⟩ := HP3.out.1; clear own3 g3 at3 lt3))
            go_roundw
            case rel => exact ⟨_, r + 1, x + c, k + 1, cap, rfl, by go_num, by omega, Lib.hid ⟨by rw [HK.out.1]; omega, by rw [HK.out.2]; push_cast; rw [Int.add_mul]; omega, HP3.out⟩⟩
            case measure => simp [intOf]; omega
          · replace hH := Lib.hid hH
            have HNEW := Lib.hid (rc_new wr 30 (0, 0) ⟨x, y, c, b - y⟩ rfl)
            go_wp2_with (first
              | (at_builtin; have t1 : k + 1 ≤ maxLen := (by unfold maxLen; omega); have t2 : (k + 1) * 32 ≤ 140737488355328 := (by omega); have t3 : w.heap.size + 1 ≤ (wr.alloc (.cells #[.int .i64 x, .int .i64 y, .int .i64 c, .int .i64 (b - y)] 30)).heap.size := (by simp; omega); refine wpList_append_lies _ rfl (.tmp 46) (.tmp 53) _ rfl (w.heap.size + 1) 30 i0 _ 4 32 Try.underlying33 hi hz0 hz1 hz2 rfl (by decide) _ k _ rfl (HO.out.alloc _) ⟨wr.heap.size, 0, none⟩ 1 1 (rcCells ⟨x, y, c, b - y⟩) ?_ ?_ ?_ ?_ ?_ t1 t2 t3 _ rfl ?_; rfl; rfl; exact HNEW.out; exact (rcCells_oneCell _); decide; intro g cap w3 own3 g3 at3 lt3; have HP3 := Lib.hid (HP.out.append own3 g3 (by rw [HPT.out, ← hH.out])); obtain ⟨e0, e1, e2, e3, e4⟩ := HP3.out.1; clear own3 g3 at3 lt3))
            go_roundw
            case rel => exact ⟨_, r + 1, x + c, k + 1, cap, rfl, by go_num, by omega, Lib.hid ⟨by rw [HK.out.1]; omega, by rw [HK.out.2]; push_cast; rw [Int.add_mul]; omega, HP3.out⟩⟩
            case measure => simp [intOf]; omega
        · obtain rfl : r = n := by omega
          have hxa : a ≤ x := by have := HLA.out; rw [HHx.out.2.1]; exact this
          go_wp2_with fail
          go_roundw
          case rel => exact ⟨A, q + 1, y + d, k, cap, rfl, by go_num, by omega, Lib.hid ⟨by rw [HHx.out.1, Nat.add_mul]; omega, by rw [HY.out]; push_cast; rw [Int.add_mul]; omega, HHx.out.2.2⟩⟩
          case measure => simp [intOf]; omega
    · obtain rfl : q = m := by omega
      have hyb : b ≤ y := by have := HLB.out; rw [HH.out.2.1]; exact this
      have hkM : k = M := by rw [HH.out.1, HMM.out]
      subst hkM
      go_wp2_with fail
      go_ret
      exact ⟨A, cap, rfl, Rs.of_own HH.out.2.2.2.1, HH.out.2.2.2.2.1⟩
end Go.Proofs.Ytfdgipbnbalcjaa
