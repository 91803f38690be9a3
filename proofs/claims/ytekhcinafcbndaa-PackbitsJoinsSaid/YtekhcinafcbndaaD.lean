/- The document's Piece and Decode are the plain 'piece' and 'dec'. -/
import Derived.Test.YtekhcinafcbndaaC
import Derived.Test.YtekhcinafcbndaaStrs
namespace Go.Proofs.Ytekhcinafcbndaa
open Go.RowKit

def pieceV : Option (List Int × List Int) → Value
  | none => .tuple #[.string ⟨#[]⟩, .string ⟨#[]⟩, .bool false]
  | some (p, t) => .tuple #[.string (strOfNums p), .string (strOfNums t), .bool true]
theorem pieceV_none {o : Option (List Int × List Int)} (h : o = none) : Ending.returned (.tuple #[.string ⟨#[]⟩, .string ⟨#[]⟩, .bool false]) = .returned (pieceV o) := by rw [h]; rfl
theorem pieceV_some {o : Option (List Int × List Int)} {p t : List Int} {a b : ByteArray} (h : o = some (p, t)) (ha : nums a = p) (hb : nums b = t) :
    Ending.returned (.tuple #[.string a, .string b, .bool true]) = .returned (pieceV o) := by rw [h, str_of ha, str_of hb]; rfl
theorem nums_cons {s : ByteArray} {z : Int} (h : 0 < s.size) (hz : z = ((s[0]'h).toNat : Int)) : nums s = z :: nums (s.extract 1 s.size) := by
  rw [nums_extract, List.take_of_length_le (by rw [List.length_drop, nums_length]; omega)]
  have := Pb.drop_at (xs := nums s) (k := 0) (z := z) (by rw [nums_length]; exact h) (by rw [nums_at s 0 h, hz])
  simpa using this

theorem pc_here {l : Nat} {R : List Int} (h : l < 128) (hl : l < R.length) : Pb.piece ((l : Int) :: R) = some (R.take (l + 1), R.drop (l + 1)) := by
  have := Pb.piece_lit (l : Int) R (by omega) (by simpa using hl)
  simpa using this
theorem pc_many {l L : Nat} {v : Int} {R : List Int} (h : 128 < l) (hL : (257 : Int) - l = L) : Pb.piece ((l : Int) :: v :: R) = some (List.replicate L v, R) := by
  rw [Pb.piece_run _ _ _ (by omega), hL]; simp

set_option maxRecDepth 10000 in
set_option maxHeartbeats 1000000 in
theorem piece_any (s : ByteArray) (w : World) (hs : s.size ≤ 8000) :
    Calls Try.prog 11 #[.string s] w fun e w' => e = .returned (pieceV (Pb.piece (nums s))) ∧ ∃ m, w' = w.drewN m := by
  by_cases h0 : s.size = 0
  · obtain rfl := nums_nil_of h0
    go_enter Try.func11, Try.ntmps11
    go_wp2
    go_ret3
    exact ⟨pieceV_none rfl, 0, rfl⟩
  · have hpos : 0 < s.size := by omega
    obtain ⟨z, hz⟩ : ∃ z : Int, z = ((s[0]'hpos).toNat : Int) := ⟨_, rfl⟩
    obtain ⟨l, hl⟩ : ∃ l : Nat, l = (s[0]'hpos).toNat := ⟨_, rfl⟩
    have l1 : l < 256 := by rw [hl]; exact (s[0]'hpos).toNat_lt
    have HC := Lib.hid (nums_cons hpos hz)
    have hzl : z = (l : Int) := by rw [hz, hl]
    subst hzl
    have hw0 : wrap64 ((s[0]'hpos).toNat : Int) = (l : Int) := by rw [← hl]; exact IntWalk.wrap64_in _ ⟨by omega, by omega⟩
    have hne := empty_no hpos
    have hrs : (s.extract 1 s.size).size = s.size - 1 := by rw [ByteArray.size_extract]; omega
    have HRL := Lib.hid (show (nums (s.extract 1 s.size)).length = s.size - 1 from by rw [nums_length, hrs])
    clear hz hl
    by_cases h128 : l = 128
    · subst h128
      go_enter Try.func11, Try.ntmps11
      go_wp2
      go_quiet (fail)
      go_wp2
      go_ret3
      exact ⟨pieceV_some (by rw [HC.out]; exact Pb.piece_skip _) rfl rfl, _, rfl⟩
    · have d1 : ((l : Int) == 128) = false := by simp; omega
      by_cases hlt : l < 128
      · by_cases hroom : s.size - 1 ≤ l
        · go_enter Try.func11, Try.ntmps11
          go_wp2
          go_quiet (fail)
          go_wp2
          go_ret3
          exact ⟨pieceV_none (by rw [HC.out]; exact Pb.piece_short _ _ (by omega) (by rw [HRL.out]; omega)), _, rfl⟩
        · go_enter Try.func11, Try.ntmps11
          go_wp2
          go_quiet (fail)
          go_wp2
          go_quiet (fail)
          go_wp2
          go_ret3
          exact ⟨pieceV_some (by rw [HC.out]; exact pc_here (by omega) (by rw [HRL.out]; omega)) (by rw [nums_extract]; rfl) (by rw [nums_extract, List.take_of_length_le (by rw [List.length_drop, HRL.out]; omega)]), _, World.drewN_drewN ..⟩
      · by_cases hbare : s.size = 1
        · have hre := empty_yes (show (s.extract 1 s.size).size = 0 by omega)
          go_enter Try.func11, Try.ntmps11
          go_wp2
          go_quiet (fail)
          go_wp2
          go_ret3
          exact ⟨pieceV_none (by rw [HC.out, List.eq_nil_of_length_eq_zero (show (nums (s.extract 1 s.size)).length = 0 by rw [HRL.out]; omega)]; exact Pb.piece_bare _ (by omega)), _, rfl⟩
        · have hre := empty_no (show 0 < (s.extract 1 s.size).size by omega)
          have hrpos : 0 < (s.extract 1 s.size).size := by omega
          obtain ⟨v, hv⟩ : ∃ v : Int, v = (((s.extract 1 s.size)[0]'hrpos).toNat : Int) := ⟨_, rfl⟩
          have v01 : 0 ≤ v ∧ v ≤ 255 := by rw [hv]; have := ((s.extract 1 s.size)[0]'hrpos).toNat_lt; omega
          have HC2 := Lib.hid (nums_cons hrpos hv)
          rw [hrs] at HC2
          have hx1 : (s.extract 1 s.size).extract 0 1 = strOfNums [v] := str_of (by rw [nums_extract, HC2.out]; rfl)
          clear hv
          obtain ⟨L, hL⟩ : ∃ L : Nat, (257 : Int) - l = L := ⟨(257 - (l : Int)).toNat, by omega⟩
          go_enter Try.func11, Try.ntmps11
          go_wp2
          go_quiet (fail)
          go_wp2
          go_loop [7, 8] (fun o i => ∃ j : Nat, o = .string (strOfNums (List.replicate j v)) ∧ i = .int .i64 j ∧ j ≤ L) (fun _ i => L - (intOf i).toNat)
          case atStart => exact ⟨0, rfl, rfl, by omega⟩
          case round =>
            obtain ⟨j, rfl, rfl, hj⟩ := hrel
            by_cases hjL : j < L
            · have hs1 : (strOfNums (List.replicate j v)).size = j := by rw [strOfNums_size, List.length_replicate]
              have hs2 : (strOfNums [v]).size = 1 := strOfNums_size _
              go_wp2
              go_round
              case rel => exact ⟨j + 1, by rw [List.replicate_succ', str_append], by go_num, by omega⟩
              case measure => simp [intOf]; omega
            · obtain rfl : j = L := by omega
              go_wp2
              go_quiet (fail)
              go_wp2
              go_ret3
              exact ⟨pieceV_some (by rw [HC.out, HC2.out]; exact pc_many (by omega) hL) (nums_str _ (by intro y hy; have := List.eq_of_mem_replicate hy; omega)) rfl, _, World.drewN_drewN ..⟩
end Go.Proofs.Ytekhcinafcbndaa
