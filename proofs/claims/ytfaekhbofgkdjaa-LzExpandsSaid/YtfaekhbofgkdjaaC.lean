/- The document's Expand is the plain 'exp'. -/
import Derived.Test.YtfaekhbofgkdjaaX
import Derived.Test.YtfaekhbofgkdjaaStrs
namespace Go.Proofs.Ytfaekhbofgkdjaa
open Go.RowKit

theorem ext_one {c : List Int} {p : Nat} (hb : ∀ y ∈ c, 0 ≤ y ∧ y ≤ 255) (hp : p < c.length) : (strOfNums c).extract p (p + 1) = strOfNums [c.getD p 0] := by
  apply str_of
  rw [nums_extract, nums_str c hb, List.drop_eq_getElem_cons hp, show p + 1 - p = 1 from by omega, List.getD_eq_getElem?_getD, List.getElem?_eq_getElem hp]
  rfl

/-- what the document's Expand hands back -/
def RefEnd (w : World) (most : Int) (ts : List Lz.Tok) (e : Ending) (w' : World) : Prop :=
  ∃ ys er, e = .returned (.tuple #[.string (strOfNums ys), .int .i64 er]) ∧ Lz.exp ts [] most = (er, ys) ∧ Below w.heap.size w w'
theorem refEnd_err {w w' : World} {most : Int} {ts : List Lz.Tok} {er : Int} (h : Lz.exp ts [] most = (er, [])) (hb : Below w.heap.size w w') :
    RefEnd w most ts (.returned (.tuple #[.string ⟨#[]⟩, .int .i64 er])) w' := ⟨_, _, rfl, h, hb⟩

/-- what holds at the head of a round of the document's Expand -/
def Rx (w : World) (most : Int) (n : Nat) (ts : List Lz.Tok) (out i : Value) (wr : World) : Prop :=
  ∃ (k m2 : Nat) (os : List Int), out = .string (strOfNums os) ∧ i = .int .i64 k ∧ k ≤ n ∧ m2 ≤ 100000 ∧ ((m2 : Int) ≤ most ∨ m2 = 0) ∧
    Hid (Lz.exp ts [] most = Lz.exp (ts.drop k) os most ∧ (∀ y ∈ os, 0 ≤ y ∧ y ≤ 255) ∧ os.length = m2 ∧ Below w.heap.size w wr)

set_option maxRecDepth 10000 in
set_option maxHeartbeats 4000000 in
theorem refexp_any (A : Option Addr) (n c B : Nat) (most : Int) (ts : List Lz.Tok) (w : World) (ht : Ts w B A n ts) (hn : n ≤ 8000) (hB : B ≤ w.heap.size) (hm0 : -9223372036854775808 ≤ most) (hm : most ≤ 100000) :
    Calls Try.prog 9 #[.slice A n c, .int .i64 most] w fun e w' => RefEnd w most ts e w' := by
  have start : Rx w most n ts (.string ⟨#[]⟩) (.int .i64 0) w :=
    ⟨0, 0, [], rfl, rfl, by omega, by omega, .inr rfl, Lib.hid ⟨rfl, by simp, rfl, Below.refl _ _⟩⟩
  have START := Lib.hid start
  have HT := Lib.hid ht
  clear start ht
  go_enter Try.func9, Try.ntmps9
  go_wp2
  go_loopw [6, 7] (fun out i wr => Rx w most n ts out i wr) (fun _ i _ => n - (intOf i).toNat)
  case atStart => exact START.out
  case round =>
    obtain ⟨k, m2, os, rfl, rfl, hk, hm2, hmm, HH⟩ := hrel
    clear START
    obtain ⟨hd, hx, hl, hbel⟩ := HH.out
    clear HH
    have hs1 : (strOfNums os).size = m2 := by rw [strOfNums_size]; exact hl
    have HD := Lib.hid hd
    have HX := Lib.hid hx
    have HL := Lib.hid hl
    have HW := Lib.hid hbel
    have hs := hbel.size
    have HTr := Lib.hid (HT.out.below (hbel.mono hB))
    clear hd hx hl hbel
    by_cases hkn : k < n
    · obtain ⟨b, off, ⟨u, l, d⟩, hA, hbB, htk, hok, c0, c1, c2'⟩ := HTr.out.at_ hkn
      obtain ⟨u0, u1, l0, l1, d0, d1⟩ := hok
      simp only at u0 u1 l0 l1 d0 d1 c0 c1 c2'
      subst hA
      have HTK := Lib.hid htk
      clear htk
      have HW1 := Lib.hid (HW.out.alloc hs (.cells #[.int .u8 u, .int .i64 l, .int .i64 d] 33))
      by_cases hl0 : l = 0
      · subst hl0
        have hsu : (strOfNums [u]).size = 1 := strOfNums_size _
        have hconv := (bs_one_at (w := wr.alloc (.cells #[.int .u8 u, .int .i64 0, .int .i64 d] 33)) (e := 5) (fr := (0, 0)) (g := wr.heap.size + 1) (by simp) u0 u1).run_string (P := Try.prog) Try.underlying22 Try.underlying5 Try.underlying9 1
        by_cases hfull : 1 > most - m2
        · go_wp2_with fail
          go_ret2
          exact refEnd_err (ex_err HD.out HTK.out (Lz.step_full rfl (by rw [HL.out]; exact hfull)) (by decide)) (HW1.out.alloc (by simp; omega) _)
        · go_wp2_with fail
          go_roundw
          case rel => exact ⟨k + 1, m2 + 1, os ++ [u], by rw [str_append], by go_num, by omega, by omega, .inl (by omega), Lib.hid ⟨ex_next HD.out HTK.out (Lz.step_lit rfl (by rw [HL.out]; exact hfull)), (by intro y hy; rcases List.mem_append.1 hy with hy | hy; exact HX.out y hy; simp only [List.mem_singleton] at hy; omega), (by rw [List.length_append, HL.out]; rfl), HW1.out.alloc (by simp; omega) _⟩⟩
          case measure => simp [intOf]; omega
      · by_cases hbad : l < 3 ∨ l > 258 ∨ d < 1 ∨ d > 32768
        · by_cases b1 : l < 3
          · go_wp2_with fail
            all_goals go_ret2
            all_goals exact refEnd_err (ex_err HD.out HTK.out (Lz.step_arg hl0 hbad) (by decide)) HW1.out
          · by_cases b2 : l > 258
            · go_wp2_with fail
              all_goals go_ret2
              all_goals exact refEnd_err (ex_err HD.out HTK.out (Lz.step_arg hl0 hbad) (by decide)) HW1.out
            · by_cases b3 : d < 1
              · go_wp2_with fail
                all_goals go_ret2
                all_goals exact refEnd_err (ex_err HD.out HTK.out (Lz.step_arg hl0 hbad) (by decide)) HW1.out
              · have b4 : d > 32768 := by omega
                go_wp2_with fail
                all_goals go_ret2
                all_goals exact refEnd_err (ex_err HD.out HTK.out (Lz.step_arg hl0 hbad) (by decide)) HW1.out
        · obtain ⟨ln, hln⟩ : ∃ ln : Nat, l = ln := ⟨l.toNat, by omega⟩
          obtain ⟨dn, hdn⟩ : ∃ dn : Nat, d = dn := ⟨d.toNat, by omega⟩
          subst hln hdn
          have HBAD := Lib.hid hbad
          have e1 : 3 ≤ ln ∧ ln ≤ 258 := by omega
          have e2 : 1 ≤ dn ∧ dn ≤ 32768 := by omega
          clear hbad
          by_cases hd : m2 < dn
          · go_wp2_with fail
            go_ret2
            exact refEnd_err (ex_err HD.out HTK.out (Lz.step_form hl0 HBAD.out (by rw [HL.out]; exact Int.ofNat_lt.2 hd)) (by decide)) HW1.out
          · go_wp2_with fail
            go_loop [6, 9] (fun out i => ∃ j : Nat, out = .string (strOfNums (Lz.cpy j dn os)) ∧ i = .int .i64 j ∧ j ≤ ln) (fun _ i => ln - (intOf i).toNat)
            case atStart => exact ⟨0, rfl, rfl, by omega⟩
            case round =>
              obtain ⟨j, rfl, rfl, hj⟩ := hrel
              have HLJ := Lib.hid (show (Lz.cpy j dn os).length = m2 + j by rw [Lz.cpy_len, HL.out])
              have hs2 : (strOfNums (Lz.cpy j dn os)).size = m2 + j := by rw [strOfNums_size]; exact HLJ.out
              by_cases hjl : j < ln
              · go_wp2_with fail
                go_round
                case rel => exact ⟨j + 1, by rw [Lz.cpy_succ, str_append, HLJ.out, ext_one (cpy_bd HX.out j dn) (show m2 + j - dn < (Lz.cpy j dn os).length by rw [HLJ.out]; omega)], by go_num, by omega⟩
                case measure => simp [intOf]; omega
              · obtain rfl : j = ln := by omega
                by_cases hov : (j : Int) > most - m2
                · go_wp2_with fail
                  go_ret2
                  exact refEnd_err (ex_err HD.out HTK.out (Lz.step_over hl0 HBAD.out (by rw [HL.out]; show ¬ (dn : Int) > m2; omega) (by rw [HL.out]; exact hov)) (by decide)) HW1.out
                · have HSTEP := Lib.hid (ex_next HD.out HTK.out (Lz.step_copy hl0 HBAD.out (by rw [HL.out]; show ¬ (dn : Int) > m2; omega) (by rw [HL.out]; exact hov)))
                  go_wp2_with fail
                  go_roundw
                  case rel => exact ⟨k + 1, m2 + j, _, rfl, by go_num, by omega, by omega, .inl (by omega), Lib.hid ⟨HSTEP.out, cpy_bd HX.out j dn, HLJ.out, HW1.out⟩⟩
                  case measure => simp [intOf]; omega
    · go_wp2_with fail
      go_ret2
      exact ⟨_, _, rfl, ex_done HT.out.1 (by omega) HD.out, HW.out⟩
end Go.Proofs.Ytfaekhbofgkdjaa
