/- The program's Decode is the plain 'dec'. -/
import Derived.Test.YtekhcinafcbndaaB
import Derived.OwnWalk
namespace Go.Proofs.Ytekhcinafcbndaa
open Go.RowKit

namespace Pb
/-- what both Decodes hand back: the bytes, how many packed ones, the error's number -/
def res (N : Int) (xs : List Int) : List Int × Int × Int :=
  if N < 0 then ([], 0, 1) else ((dec N.toNat [] xs).1, if (dec N.toNat [] xs).2.2 = 0 then (xs.length : Int) - ((dec N.toNat [] xs).2.1.length : Int) else 0, (dec N.toNat [] xs).2.2)
theorem res_neg {N : Int} {xs : List Int} (h : N < 0) : res N xs = ([], 0, 1) := by unfold res; rw [if_pos h]
theorem res_of {N : Int} {xs o t : List Int} {e : Int} (h : 0 ≤ N) (hd : dec N.toNat [] xs = (o, t, e)) : res N xs = (o, if e = 0 then (xs.length : Int) - (t.length : Int) else 0, e) := by
  unfold res; rw [if_neg (by omega), hd]
theorem drop_at {xs : List Int} {k : Nat} {z : Int} (h : k < xs.length) (hz : z = xs.getD k 0) : xs.drop k = z :: xs.drop (k + 1) := by
  rw [List.drop_eq_getElem_cons h, hz, List.getD_eq_getElem?_getD, List.getElem?_eq_getElem h]; rfl
end Pb

section
variable {N : Int} {xs os p : List Int} {n k k' m : Nat} {z : Int}
theorem dc_done (hN : 0 ≤ N) (hx : xs.length = n) (hk : k ≤ n) (hd : Pb.dec N.toNat [] xs = Pb.dec N.toNat os (xs.drop k)) (hl : os.length = m) (h : (m : Int) = N) : Pb.res N xs = (os, (k : Int), 0) := by
  rw [Pb.res_of hN (hd.trans (Pb.dec_done _ _ _ (by omega))), if_pos rfl, List.length_drop, hx]
  congr 1; congr 1; omega
theorem dc_cut (hN : 0 ≤ N) (hd : Pb.dec N.toNat [] xs = Pb.dec N.toNat os (xs.drop k)) (hl : os.length = m) (h : (m : Int) < N) (hp : Pb.piece (xs.drop k) = none) : Pb.res N xs = ([], 0, 2) := by
  rw [Pb.res_of hN (hd.trans (Pb.dec_cut _ _ _ (by omega) hp)), if_neg (by decide)]
theorem dc_long (hN : 0 ≤ N) (hd : Pb.dec N.toNat [] xs = Pb.dec N.toNat os (xs.drop k)) (hl : os.length = m) (h : (m : Int) < N) (hp : Pb.piece (xs.drop k) = some (p, xs.drop k')) {m' : Nat} (hm' : m + p.length = m') (h' : N < (m' : Int)) : Pb.res N xs = ([], 0, 5) := by
  rw [Pb.res_of hN (hd.trans (Pb.dec_long _ _ _ _ _ (by omega) hp (by rw [List.length_append]; omega))), if_neg (by decide)]
theorem dc_next (hd : Pb.dec N.toNat [] xs = Pb.dec N.toNat os (xs.drop k)) (hl : os.length = m) (h : (m : Int) < N) (hp : Pb.piece (xs.drop k) = some (p, xs.drop k')) {m' : Nat} (hm' : m + p.length = m') (h' : ¬ N < (m' : Int)) :
    Pb.dec N.toNat [] xs = Pb.dec N.toNat (os ++ p) (xs.drop k') := by
  rw [hd]; exact Pb.dec_step _ _ _ _ _ (by omega) hp (by rw [List.length_append]; omega)
theorem pc_end (hx : xs.length = n) (h : n ≤ k) : Pb.piece (xs.drop k) = none := by rw [List.drop_of_length_le (by omega)]; rfl
theorem pc_skip (hx : xs.length = n) (h : k < n) (hz : z = xs.getD k 0) (h128 : z = 128) : Pb.piece (xs.drop k) = some ([], xs.drop (k + 1)) := by
  rw [Pb.drop_at (by omega) hz, h128, Pb.piece_skip]
theorem pc_bare (hx : xs.length = n) (h : k + 1 = n) (hz : z = xs.getD k 0) (h128 : 128 < z) : Pb.piece (xs.drop k) = none := by
  rw [Pb.drop_at (by omega) hz, List.drop_of_length_le (by omega)]; exact Pb.piece_bare _ h128
theorem pc_run {v : Int} {l : Nat} (hx : xs.length = n) (h : k + 1 < n) (hz : z = xs.getD k 0) (h128 : 128 < z) (hv : v = xs.getD (k + 1) 0) (hl : (257 - z).toNat = l) :
    Pb.piece (xs.drop k) = some (List.replicate l v, xs.drop (k + 2)) := by
  rw [Pb.drop_at (by omega) hz, Pb.drop_at (by omega) hv, Pb.piece_run _ _ _ h128, hl]
theorem pc_short (hx : xs.length = n) (h : k < n) (hz : z = xs.getD k 0) (h128 : z < 128) (h0 : 0 ≤ z) (hs : (n : Int) - (k + 1) < z + 1) : Pb.piece (xs.drop k) = none := by
  rw [Pb.drop_at (by omega) hz]; exact Pb.piece_short _ _ h128 (by rw [List.length_drop]; omega)
theorem pc_lit {l : Nat} (hx : xs.length = n) (h : k < n) (hz : z = xs.getD k 0) (h128 : z < 128) (h0 : 0 ≤ z) (hl : z = l) (hs : k + 1 + (l + 1) ≤ n) :
    Pb.piece (xs.drop k) = some ((xs.drop (k + 1)).take (l + 1), xs.drop (k + 1 + (l + 1))) := by
  rw [Pb.drop_at (by omega) hz, Pb.piece_lit _ _ h128 (by rw [List.length_drop]; omega), List.drop_drop]
  rw [show z.toNat = l from by omega]
end

theorem i8_wrap (z : Int) (h0 : 128 ≤ z) (h1 : z ≤ 255) : IntKind.i8.wrap z = z - 256 := by
  simp only [IntKind.wrap, IntKind.bits, IntKind.signed]
  simp
  omega

theorem bs_seg {w : World} {B n b off k l : Nat} {xs : List Int} (h : Bs w B (some ⟨b, off, none⟩) n xs) (hf : k + 1 + (l + 1) ≤ n) :
    Bs w B (some ⟨b, off + (k + 1), none⟩) (l + 1) ((xs.drop (k + 1)).take (l + 1)) := by
  have := bs_cut_some h (show k + 1 ≤ n by omega) (Nat.le_refl n)
  rw [if_neg (by omega)] at this
  exact this.take (by omega)

/-- what holds at the head of a round of Decode -/
def Dc (w : World) (N : Int) (n : Nat) (xs : List Int) (out at' : Value) (wr : World) : Prop :=
  ∃ (A2 : Option Addr) (m2 c2 k : Nat) (os : List Int), out = .slice A2 m2 c2 ∧ at' = .int .i64 k ∧ k ≤ n ∧ (m2 : Int) ≤ N ∧
    Hid (wr.ownsRow w.heap.size 5 1 (.slice A2 m2 c2) m2 (os.map (Value.int .u8)) ∧ Pb.dec N.toNat [] xs = Pb.dec N.toNat os (xs.drop k) ∧ (∀ y ∈ os, 0 ≤ y ∧ y ≤ 255) ∧ os.length = m2 ∧ Below w.heap.size w wr)
def posN (a : Value) (n : Nat) : Nat := n - (intOf a).toNat

/-- what Decode hands back -/
def DecEnd (w : World) (N : Int) (xs : List Int) (e : Ending) (w' : World) : Prop :=
  ∃ A m c ys k er, e = .returned (.tuple #[.slice A m c, .int .i64 k, .int .i64 er]) ∧ Pb.res N xs = (ys, k, er) ∧ Bs w' w'.heap.size A m ys ∧ Below w.heap.size w w'

theorem decEnd_err {w w' : World} {N : Int} {xs : List Int} {er : Int} (h : Pb.res N xs = ([], 0, er)) (hb : Below w.heap.size w w') :
    DecEnd w N xs (.returned (.tuple #[.slice none 0 0, .int .i64 0, .int .i64 er])) w' := ⟨_, _, _, _, _, _, rfl, h, Bs.nil _ _ _, hb⟩
theorem decEnd_ok {w w' : World} {N : Int} {xs os : List Int} {A : Option Addr} {m c k : Nat} (h : Pb.res N xs = (os, (k : Int), 0)) (ho : w'.ownsRow w.heap.size 5 1 (.slice A m c) m (os.map (Value.int .u8))) (hx : ∀ y ∈ os, 0 ≤ y ∧ y ≤ 255) (hb : Below w.heap.size w w') :
    DecEnd w N xs (.returned (.tuple #[.slice A m c, .int .i64 k, .int .i64 0])) w' := ⟨_, _, _, _, _, _, rfl, h, Bs.of_own ho hx, hb⟩

set_option maxRecDepth 10000 in
set_option maxHeartbeats 1000000 in
theorem decode_any (A : Option Addr) (n c B : Nat) (N : Int) (xs : List Int) (w : World) (hb : Bs w B A n xs) (hc : n ≤ c) (hn : n ≤ 8000) (hN : N ≤ 100000) (hB : B ≤ w.heap.size) :
    Calls Try.prog 8 #[.slice A n c, .int .i64 N] w fun e w' => DecEnd w N xs e w' := by
  obtain ⟨i0, hi, hz0, hz1, hz2⟩ := info_parts info5
  by_cases hneg : N < 0
  · go_enter Try.func8, Try.ntmps8
    go_wp2
    go_ret3
    exact decEnd_err (Pb.res_neg hneg) (Below.refl _ _)
  · have h0N : 0 ≤ N := by omega
    have hw0 : (w.alloc (.cells #[] 5)).ownsRow w.heap.size 5 1 (.slice (some ⟨w.heap.size, 0, none⟩) 0 0) 0 (([] : List Int).map (Value.int .u8)) :=
      World.ownsRow_made w #[] 0 (Nat.le_refl _) (by unfold maxLen; omega) (by simp)
    have start : Dc w N n xs (.slice (some ⟨w.heap.size, 0, none⟩) 0 0) (.int .i64 0) (w.alloc (.cells #[] 5)) :=
      ⟨_, 0, 0, 0, [], rfl, rfl, by omega, by omega, Lib.hid ⟨hw0, rfl, by simp, rfl, (Below.refl _ _).alloc (Nat.le_refl _) _⟩⟩
    have START := Lib.hid start
    have HXL : Hid (xs.length = n) := Lib.hid hb.1
    have HB := Lib.hid hb
    clear start hw0 hb
    go_enter Try.func8, Try.ntmps8
    go_wp2
    go_loopw [7, 8] (fun out at' wr => Dc w N n xs out at' wr) (fun _ at' _ => posN at' n)
    case atStart => exact START.out
    case round =>
      obtain ⟨A2, m2, c2, k, os, rfl, rfl, hk, hm2, HH⟩ := hrel
      clear START
      obtain ⟨hown, hd, hx, hl, hbel⟩ := HH.out
      clear HH
      have HO := Lib.hid hown
      have HD := Lib.hid hd
      have HX := Lib.hid hx
      have HL := Lib.hid hl
      have HW := Lib.hid hbel
      have hs := hbel.size
      have HBr := Lib.hid (HB.out.below (hbel.mono hB))
      clear hown hd hx hl hbel
      by_cases hlt : (m2 : Int) < N
      · by_cases hkn : k < n
        · obtain ⟨z, hz⟩ : ∃ z, z = xs.getD k 0 := ⟨_, rfl⟩
          obtain ⟨z0, z1⟩ := HBr.out.bd k
          rw [← hz] at z0 z1
          obtain ⟨b, off, hA, hbB, hcell⟩ := HBr.out.at_ hkn
          rw [← hz] at hcell
          subst hA
          have HZ := Lib.hid hz
          clear hz
          by_cases h128 : z < 128
          · obtain ⟨l, hzl⟩ : ∃ l : Nat, z = l := ⟨z.toNat, by omega⟩
            subst hzl
            by_cases hroom : (n : Int) - (k + 1) < l + 1
            · go_wp2_with fail
              go_ret3
              exact decEnd_err (dc_cut h0N HD.out HL.out hlt (pc_short HXL.out hkn HZ.out h128 z0 hroom)) HW.out
            · have hfit : k + 1 + (l + 1) ≤ n := by omega
              have HE : Hid (k + 1 + l + 1 - (k + 1) = l + 1) := Lib.hid (by omega)
              have HSEG := Lib.hid (bs_seg HBr.out hfit)
              go_wp2_with (first
                | (at_builtin; refine wpList_append_bs _ rfl (.tmp 36) (.tmp 43) _ rfl w.heap.size 5 i0 _ Try.underlying22 hi hz0 hz1 hz2 rfl _ m2 os rfl HO.out B _ (l + 1) _ _ (congrArg (fun q => Value.slice (some ⟨b, off + (k + 1), none⟩) q (c - (k + 1))) HE.out) HSEG.out (by omega) (by omega) ?_; intro A3 c3 w3 own3 h3 h3' g3 l3; have hb3 := Lib.hid (below_append HW.out HO.out (Nat.le_refl _) hs g3)))
              · have hlong : N < (m2 : Int) + (l + 1) := by assumption
                go_ret3
                exact decEnd_err (dc_long h0N HD.out HL.out hlt (pc_lit HXL.out hkn HZ.out h128 z0 rfl hfit) (m' := m2 + (l + 1)) (by rw [List.length_take, List.length_drop, HXL.out]; omega) (by omega)) hb3.out
              · have hok : ¬ N < (m2 : Int) + (l + 1) := by first | assumption | omega
                go_roundw
                case rel => exact ⟨_, m2 + (l + 1), c3, k + 1 + (l + 1), _, rfl, by go_num, by omega, by omega, Lib.hid ⟨own3, dc_next HD.out HL.out hlt (pc_lit HXL.out hkn HZ.out h128 z0 rfl hfit) (m' := m2 + (l + 1)) (by rw [List.length_take, List.length_drop, HXL.out]; omega) (by omega), (by intro y hy; rcases List.mem_append.1 hy with hy | hy; exact HX.out y hy; exact HSEG.out.2.1 y hy), by have := own3.1; simpa using this, hb3.out⟩⟩
                case measure => simp [posN, intOf]; omega
          · by_cases h129 : z = 128
            · subst h129
              have hw8 : IntKind.i8.wrap 128 = -128 := by decide
              go_wp2_with fail
              go_roundw
              case rel => exact ⟨_, m2, c2, k + 1, os, rfl, by go_num, by omega, by omega, Lib.hid ⟨HO.out, (by have := dc_next HD.out HL.out hlt (pc_skip HXL.out hkn HZ.out rfl) (m' := m2) (by simp) (by omega); rwa [List.append_nil] at this), HX.out, HL.out, HW.out⟩⟩
              case measure => simp [posN, intOf]; omega
            · obtain ⟨d, hd⟩ : ∃ d, d = z - 256 := ⟨_, rfl⟩
              have hd0 : -127 ≤ d ∧ d ≤ -1 := by omega
              have hw8 : IntKind.i8.wrap z = d := by rw [hd]; exact i8_wrap z (by omega) z1
              have HDz := Lib.hid hd
              clear hd
              by_cases hbare : k + 1 = n
              · go_wp2_with fail
                go_ret3
                exact decEnd_err (dc_cut h0N HD.out HL.out hlt (pc_bare HXL.out hbare HZ.out (by omega))) HW.out
              · obtain ⟨L, hL⟩ : ∃ L : Nat, 1 - d = (L : Int) := ⟨(1 - d).toNat, by omega⟩
                have hL2 : 2 ≤ L ∧ L ≤ 128 := by omega
                have HLz : Hid ((257 - z).toNat = L) := Lib.hid (by have := HDz.out; omega)
                obtain ⟨v, hv⟩ : ∃ v, v = xs.getD (k + 1) 0 := ⟨_, rfl⟩
                obtain ⟨v0, v1⟩ := HBr.out.bd (k + 1)
                rw [← hv] at v0 v1
                have HV := Lib.hid hv
                clear hv
                go_wp2_with fail
                clear hcell
                go_loopw [7, 61] (fun out i wr' => ∃ (A3 : Option Addr) (c3 j : Nat), out = .slice A3 (m2 + j) c3 ∧ i = .int .i64 j ∧ j ≤ L ∧ Hid (wr'.ownsRow w.heap.size 5 1 (.slice A3 (m2 + j) c3) (m2 + j) ((os ++ List.replicate j v).map (Value.int .u8)) ∧ Below w.heap.size w wr')) (fun _ i _ => L - (intOf i).toNat)
                case atStart => exact ⟨_, _, 0, rfl, rfl, by omega, Lib.hid ⟨by simpa using HO.out, HW.out⟩⟩
                case round =>
                  obtain ⟨A3, c3, j, rfl, rfl, hj, HH⟩ := hrel
                  have HO3 := Lib.hid HH.out.1
                  have HW3 := Lib.hid HH.out.2
                  have hs3 := HW3.out.size
                  clear HH
                  have HB3 := Lib.hid (HB.out.below (HW3.out.mono hB))
                  obtain ⟨b', off', hA', _, hcell⟩ := HB3.out.at_ (show k + 1 < n by omega)
                  rw [← HV.out] at hcell
                  injection hA' with hA'
                  injection hA' with e1 e2
                  subst e1 e2
                  by_cases hjL : j < L
                  · go_wp2_with (first
                      | (at_builtin; refine wpList_append_bs _ rfl (.tmp 63) (.tmp 68) _ rfl w.heap.size 5 i0 _ Try.underlying22 hi hz0 hz1 hz2 rfl _ (m2 + j) _ rfl (HO3.out.alloc _) _ _ 1 1 [v] rfl (bs_one _ 5 _ v v0 v1) (by omega) (by simp; omega) ?_; intro A4 c4 w4 own4 h4 h4' g4 l4; have hb4 := Lib.hid (below_append (HW3.out.alloc hs3 _) (HO3.out.alloc _) (Nat.le_refl _) (by simp; omega) g4)))
                    go_roundw
                    case rel =>
                      refine ⟨A4, c4, j + 1, rfl, by go_num, by omega, Lib.hid ⟨?_, hb4.out⟩⟩
                      rw [List.append_assoc, ← List.replicate_succ'] at own4
                      exact own4
                    case measure => simp [intOf]; omega
                  · obtain rfl : j = L := by omega
                    have hp := Lib.hid (pc_run HXL.out (show k + 1 < n by omega) HZ.out (show 128 < z by omega) HV.out HLz.out)
                    go_wp2_with fail
                    · have hlong : N < (m2 : Int) + j := by assumption
                      go_ret3
                      exact decEnd_err (dc_long h0N HD.out HL.out hlt hp.out (m' := m2 + j) (by simp) (by omega)) HW3.out
                    · have hok : ¬ N < (m2 : Int) + j := by first | assumption | omega
                      go_roundw
                      case rel => exact ⟨_, m2 + j, c3, k + 2, _, rfl, by go_num, by omega, by omega, Lib.hid ⟨HO3.out, dc_next HD.out HL.out hlt hp.out (m' := m2 + j) (by simp) (by omega), (by intro y hy; rcases List.mem_append.1 hy with hy | hy; exact HX.out y hy; have := List.eq_of_mem_replicate hy; omega), by have := HO3.out.1; simpa using this, HW3.out⟩⟩
                      case measure => simp [posN, intOf]; omega
        · go_wp2_with fail
          go_ret3
          exact decEnd_err (dc_cut h0N HD.out HL.out hlt (pc_end HXL.out (by omega))) HW.out
      · have hmN : (m2 : Int) = N := by omega
        subst hmN
        go_wp2_with fail
        go_ret3
        exact decEnd_ok (dc_done h0N HXL.out hk HD.out HL.out rfl) HO.out HX.out HW.out
end Go.Proofs.Ytekhcinafcbndaa
