/- The two sums: the program's Update is the plain 'adl'. -/
import Derived.Test.YteohinhiemibgaaProg
import Derived.Test.YteohinhiemibgaaMath
import Derived.Test.YteohinhiemibgaaWords
import Derived.WalkKit
import Derived.WalkLawsBesides
import Derived.WalkSpells
import Derived.Lib.Hide
import Derived.Laws.BitsAllLaws
namespace Go.Proofs.Yteohinhiemibgaa
open Go.RowKit

theorem and_low (s : Int) (h0 : 0 ≤ s) (h1 : s < 4294967296) : bits BinOp.and IntKind.u32 s 65535 = s % 65536 := by
  rw [u32_and s 65535 h0 h1 (by omega) (by omega)]
  show ((s.toNat &&& 65535 : Nat) : Int) = _
  rw [nat_mask16]; omega
theorem or_join (h l : Int) (h0 : 0 ≤ h) (h1 : h < 65536) (l0 : 0 ≤ l) (l1 : l < 65536) : bits BinOp.or IntKind.u32 (h * 65536) l = h * 65536 + l := by
  rw [u32_or _ _ (by omega) (by omega) l0 (by omega)]
  rw [nat_join 16 _ _ (by omega) (by omega)]; omega

theorem take_snoc (xs : List Int) (k : Nat) (h : k < xs.length) : xs.take (k + 1) = xs.take k ++ [xs.getD k 0] := by
  rw [List.take_succ_eq_append_getElem h, List.getD_eq_getElem?_getD, List.getElem?_eq_getElem h]; rfl
theorem upd_lo {s : Int} {xs : List Int} {k : Nat} {L z : Int} (h : k < xs.length) (hL : L = Adl.lows s (xs.take k)) (hz : z = xs.getD k 0) : (L + z) % 65521 = Adl.lows s (xs.take (k + 1)) := by
  rw [take_snoc xs k h, hL, hz, Adl.lows_snoc]
theorem upd_hi {s : Int} {xs : List Int} {k : Nat} {L H z : Int} (h : k < xs.length) (hL : L = Adl.lows s (xs.take k)) (hz : z = xs.getD k 0) (hH : H = Adl.highs s (xs.take k)) :
    (H + (L + z) % 65521) % 65521 = Adl.highs s (xs.take (k + 1)) := by
  rw [upd_lo h hL hz, take_snoc xs k h, hH, Adl.highs_snoc]

set_option maxHeartbeats 400000 in
theorem update_any (sum : Int) (A : Option Addr) (n c B : Nat) (xs : List Int) (w : World) (h0 : 0 ≤ sum) (h1 : sum < 4294967296) (hb : Bs w B A n xs) (hn : n ≤ 8000) :
    Calls Try.prog 11 #[.int .u32 sum, .slice A n c] w fun e w' => e = .returned (.int .u32 (Adl.adl sum xs)) ∧ w = w' := by
  have ha := and_low sum h0 h1
  have HB := Lib.hid hb
  clear hb
  go_enter Try.func11, Try.ntmps11
  go_wp2
  clear ha
  go_loop [5, 6, 19] (fun lo hi i => ∃ (k : Nat) (L H : Int), k ≤ n ∧ i = .int .i64 k ∧ lo = .int .u64 L ∧ hi = .int .u64 H ∧ 0 ≤ L ∧ L < 65521 ∧ 0 ≤ H ∧ H < 65521 ∧ Hid (L = Adl.lows sum (xs.take k)) ∧ Hid (H = Adl.highs sum (xs.take k)))
    (fun _ _ i => n - (intOf i).toNat)
  case atStart =>
    exact ⟨0, sum % 65536 % 65521, sum / 65536 % 65521, by omega, rfl, rfl, rfl, by omega, by omega, by omega, by omega, Lib.hid (Adl.lows_nil sum).symm, Lib.hid (Adl.highs_nil sum).symm⟩
  case round =>
    obtain ⟨k, L, H, hk, rfl, rfl, rfl, l0, l1, g0, g1, HL, HH⟩ := hrel
    by_cases hlt : k < n
    · obtain ⟨z, hz⟩ : ∃ z, z = xs.getD k 0 := ⟨_, rfl⟩
      obtain ⟨b, off, hA, _, hcell⟩ := HB.out.at_ hlt
      obtain ⟨z0, z1⟩ := HB.out.bd k
      rw [← hz] at hcell z0 z1
      have HZ := Lib.hid hz
      clear hz
      subst hA
      go_wp2
      have hkx : k < xs.length := by have := HB.out.1; omega
      go_round
      case rel => exact ⟨k + 1, _, _, by omega, by go_num, rfl, rfl, by omega, by omega, by omega, by omega, Lib.hid (upd_lo hkx HL.out HZ.out), Lib.hid (upd_hi hkx HL.out HZ.out HH.out)⟩
      case measure => simp [intOf]; omega
    · obtain rfl : k = n := by omega
      have hx : xs.take k = xs := List.take_of_length_le (by rw [HB.out.1]; omega)
      rw [hx] at HL HH
      clear hx
      go_wp2
      go_ret
      refine ⟨ret_int ?_, rfl⟩
      rw [or_join H L (by omega) (by omega) (by omega) (by omega), HL.out, HH.out]
      rfl

theorem mul_bd (a b : Int) (c : Nat) (a0 : 0 ≤ a) (a1 : a < 65521) (b0 : 0 ≤ b) (b1 : b < c) : 0 ≤ a * b ∧ a * b ≤ 65520 * c := by
  refine ⟨Int.mul_nonneg a0 b0, ?_⟩
  have h1 : a * b ≤ 65520 * b := Int.mul_le_mul_of_nonneg_right (by omega) b0
  omega

theorem ref_lo {g : Int} {s : ByteArray} {k : Nat} {L : Int} (h : k < s.size) (hL : L = Adl.lo g + Adl.S ((nums s).take k)) : L + (s[k].toNat : Int) = Adl.lo g + Adl.S ((nums s).take (k + 1)) := by
  rw [take_snoc (nums s) k (by rw [nums_length]; exact h), Adl.S_snoc, nums_at s k h, hL]; omega
theorem ref_hi {g : Int} {s : ByteArray} {k : Nat} {H : Int} (h : k < s.size) (hH : H = Adl.refHi g s.size ((nums s).take k)) :
    (H + ((s.size : Int) - k) % 65521 * (s[k].toNat : Int)) % 65521 = Adl.refHi g s.size ((nums s).take (k + 1)) := by
  have hl : ((nums s).take k).length = k := by rw [List.length_take, nums_length]; omega
  have := Adl.refHi_snoc g s.size ((nums s).take k) (s[k].toNat : Int)
  rw [hl] at this
  rw [take_snoc (nums s) k (by rw [nums_length]; exact h), nums_at s k h, hH, this]
theorem ref_end {g : Int} {s : ByteArray} {k : Nat} {L H : Int} (h : ¬ k < s.size) (hL : L = Adl.lo g + Adl.S ((nums s).take k)) (hH : H = Adl.refHi g s.size ((nums s).take k)) :
    H * 65536 + L % 65521 = Adl.adl g (nums s) := by
  rw [List.take_of_length_le (by rw [nums_length]; omega)] at hL hH
  rw [← Adl.ref_all g (nums s) L hL, nums_length, hH]

set_option maxHeartbeats 400000 in
theorem refUpdate_any (sum : Int) (s : ByteArray) (w : World) (h0 : 0 ≤ sum) (h1 : sum < 4294967296) (hn : s.size ≤ 8000) :
    Calls Try.prog 12 #[.int .u32 sum, .string s] w fun e w' => e = .returned (.int .u32 (Adl.adl sum (nums s))) ∧ w = w' := by
  obtain ⟨p0, p1⟩ := mul_bd ((s.size : Int) % 65521) (sum % 65536 % 65521) 65521 (by omega) (by omega) (by omega) (by omega)
  go_enter Try.func12, Try.ntmps12
  go_wp2
  go_loop [5, 6, 8] (fun a b i => ∃ (k : Nat) (L H : Int), k ≤ s.size ∧ i = .int .i64 k ∧ a = .int .i64 L ∧ b = .int .i64 H ∧ 0 ≤ L ∧ L ≤ 65521 + 255 * k ∧ 0 ≤ H ∧ H < 65521 ∧
      Hid (L = Adl.lo sum + Adl.S ((nums s).take k)) ∧ Hid (H = Adl.refHi sum s.size ((nums s).take k)))
    (fun _ _ i => s.size - (intOf i).toNat)
  case atStart =>
    exact ⟨0, sum % 65536 % 65521, _, by omega, rfl, rfl, rfl, by omega, by omega, by omega, by omega, Lib.hid (by simp [Adl.S, Adl.lo]), Lib.hid (Adl.refHi_nil sum s.size).symm⟩
  case round =>
    obtain ⟨k, L, H, hk, rfl, rfl, rfl, l0, l1, g0, g1, HL, HH⟩ := hrel
    by_cases hlt : k < s.size
    · obtain ⟨z, hz⟩ : ∃ z : Nat, z = s[k].toNat := ⟨_, rfl⟩
      have z1 : z < 256 := by rw [hz]; exact s[k].toNat_lt
      obtain ⟨q0, q1⟩ := mul_bd (((s.size : Int) - k) % 65521) (z : Int) 256 (by omega) (by omega) (by omega) (by omega)
      rw [hz] at q0 q1 z1
      clear hz z
      go_wp2
      go_round
      case rel => exact ⟨k + 1, _, _, by omega, by go_num, rfl, rfl, by omega, by omega, by omega, by omega, Lib.hid (ref_lo hlt HL.out), Lib.hid (ref_hi hlt HH.out)⟩
      case measure => simp [intOf]; omega
    · go_wp2
      go_ret
      exact ⟨ret_int (ref_end hlt HL.out HH.out), rfl⟩

theorem sum_any (A : Option Addr) (n c B : Nat) (xs : List Int) (w : World) (hb : Bs w B A n xs) (hn : n ≤ 8000) :
    Calls Try.prog 9 #[.slice A n c] w fun e w' => e = .returned (.int .u32 (Adl.adl 1 xs)) ∧ w = w' := by
  have HB := Lib.hid hb
  clear hb
  go_enter Try.func9, Try.ntmps9
  go_wp2_with (go_at_call 11; refine (update_any 1 _ _ _ _ _ _ (by omega) (by omega) HB.out hn).mono ?_; rintro e w' ⟨rfl, rfl⟩)
  go_ret
  exact ⟨rfl, rfl⟩

theorem refSum_any (s : ByteArray) (w : World) (hn : s.size ≤ 8000) :
    Calls Try.prog 10 #[.string s] w fun e w' => e = .returned (.int .u32 (Adl.adl 1 (nums s))) ∧ w = w' := by
  go_enter Try.func10, Try.ntmps10
  go_wp2_with (go_at_call 12; refine (refUpdate_any 1 _ _ (by omega) (by omega) hn).mono ?_; rintro e w' ⟨rfl, rfl⟩)
  go_ret
  exact ⟨rfl, rfl⟩
