/- The program's Expand is the plain 'exp'. -/
import Derived.Test.YtfaekhbofgkdjaaX
namespace Go.Proofs.Ytfaekhbofgkdjaa
open Go.RowKit

/-- what Expand hands back -/
def ExpEnd (w : World) (most : Int) (ts : List Lz.Tok) (e : Ending) (w' : World) : Prop :=
  ∃ A m c ys er, e = .returned (.tuple #[.slice A m c, .int .i64 er]) ∧ Lz.exp ts [] most = (er, ys) ∧ Bs w' w'.heap.size A m ys ∧ Below w.heap.size w w'
theorem expEnd_err {w w' : World} {most : Int} {ts : List Lz.Tok} {er : Int} (h : Lz.exp ts [] most = (er, [])) (hb : Below w.heap.size w w') :
    ExpEnd w most ts (.returned (.tuple #[.slice none 0 0, .int .i64 er])) w' := ⟨_, _, _, _, _, rfl, h, Bs.nil _ _ _, hb⟩
theorem expEnd_ok {w w' : World} {most : Int} {ts : List Lz.Tok} {os : List Int} {A : Option Addr} {m c : Nat} (h : Lz.exp ts [] most = (0, os)) (ho : w'.ownsRow w.heap.size 5 1 (.slice A m c) m (os.map (Value.int .u8))) (hx : ∀ y ∈ os, 0 ≤ y ∧ y ≤ 255) (hb : Below w.heap.size w w') :
    ExpEnd w most ts (.returned (.tuple #[.slice A m c, .int .i64 0])) w' := ⟨_, _, _, _, _, rfl, h, Bs.of_own ho hx, hb⟩

/-- what holds at the head of a round of Expand -/
def Xp (w : World) (most : Int) (n : Nat) (ts : List Lz.Tok) (out i : Value) (wr : World) : Prop :=
  ∃ (A2 : Option Addr) (m2 c2 k : Nat) (os : List Int), out = .slice A2 m2 c2 ∧ i = .int .i64 k ∧ k ≤ n ∧ m2 ≤ 100000 ∧ ((m2 : Int) ≤ most ∨ m2 = 0) ∧
    Hid (wr.ownsRow w.heap.size 5 1 (.slice A2 m2 c2) m2 (os.map (Value.int .u8)) ∧ Lz.exp ts [] most = Lz.exp (ts.drop k) os most ∧ (∀ y ∈ os, 0 ≤ y ∧ y ≤ 255) ∧ os.length = m2 ∧ Below w.heap.size w wr)

set_option maxRecDepth 10000 in
set_option maxHeartbeats 4000000 in
theorem expand_any (A : Option Addr) (n c B : Nat) (most : Int) (ts : List Lz.Tok) (w : World) (ht : Ts w B A n ts) (hn : n ≤ 8000) (hB : B ≤ w.heap.size) (hm0 : -9223372036854775808 ≤ most) (hm : most ≤ 100000) :
    Calls Try.prog 8 #[.slice A n c, .int .i64 most] w fun e w' => ExpEnd w most ts e w' := by
  obtain ⟨i0, hi, hz0, hz1, hz2⟩ := info_parts info5
  have hw0 : (w.alloc (.cells #[] 5)).ownsRow w.heap.size 5 1 (.slice (some ⟨w.heap.size, 0, none⟩) 0 0) 0 (([] : List Int).map (Value.int .u8)) :=
    World.ownsRow_made w #[] 0 (Nat.le_refl _) (by unfold maxLen; omega) (by simp)
  have start : Xp w most n ts (.slice (some ⟨w.heap.size, 0, none⟩) 0 0) (.int .i64 0) (w.alloc (.cells #[] 5)) :=
    ⟨_, 0, 0, 0, [], rfl, rfl, by omega, by omega, .inr rfl, Lib.hid ⟨hw0, rfl, by simp, rfl, (Below.refl _ _).alloc (Nat.le_refl _) _⟩⟩
  have START := Lib.hid start
  have HT := Lib.hid ht
  clear start hw0 ht
  go_enter Try.func8, Try.ntmps8
  go_wp2
  go_loopw [6, 13] (fun out i wr => Xp w most n ts out i wr) (fun _ i _ => n - (intOf i).toNat)
  case atStart => exact START.out
  case round =>
    obtain ⟨A2, m2, c2, k, os, rfl, rfl, hk, hm2, hmm, HH⟩ := hrel
    clear START
    obtain ⟨hown, hd, hx, hl, hbel⟩ := HH.out
    clear HH
    have HO := Lib.hid hown
    have HD := Lib.hid hd
    have HX := Lib.hid hx
    have HL := Lib.hid hl
    have HW := Lib.hid hbel
    have hs := hbel.size
    have HTr := Lib.hid (HT.out.below (hbel.mono hB))
    clear hown hd hx hl hbel
    by_cases hkn : k < n
    · obtain ⟨b, off, ⟨u, l, d⟩, hA, hbB, htk, hok, c0, c1, c2'⟩ := HTr.out.at_ hkn
      obtain ⟨u0, u1, l0, l1, d0, d1⟩ := hok
      simp only at u0 u1 l0 l1 d0 d1 c0 c1 c2'
      subst hA
      have HTK := Lib.hid htk
      clear htk
      have HW1 := Lib.hid (HW.out.alloc hs (.cells #[.int .u8 u, .int .i64 l, .int .i64 d] 33))
      by_cases hl0 : l = 0
      · subst hl0
        by_cases hfull : 1 > most - m2
        · go_wp2_with fail
          go_ret2
          exact expEnd_err (ex_err HD.out HTK.out (Lz.step_full rfl (by rw [HL.out]; exact hfull)) (by decide)) HW1.out
        · have HO1 := Lib.hid (HO.out.alloc (.cells #[.int .u8 u, .int .i64 0, .int .i64 d] 33))
          go_wp2_with (first
            | (at_builtin; refine wpList_append_bs _ rfl (.tmp 66) (.tmp 69) _ rfl w.heap.size 5 i0 _ Try.underlying22 hi hz0 hz1 hz2 rfl _ m2 os rfl (HO1.out.alloc _) _ _ 1 1 [u] rfl (bs_one_at (by simp) u0 u1) (by omega) (by simp; omega) ?_; intro A3 c3 w3 own3 h3 h3' g3 l3; have hb3 := Lib.hid (below_append (HW1.out.alloc (by simp; omega) _) (HO1.out.alloc _) (Nat.le_refl _) (by simp; omega) g3)))
          go_roundw
          case rel => exact ⟨_, m2 + 1, c3, k + 1, _, rfl, by go_num, by omega, by omega, .inl (by omega), Lib.hid ⟨own3, ex_next HD.out HTK.out (Lz.step_lit rfl (by rw [HL.out]; exact hfull)), (by intro y hy; rcases List.mem_append.1 hy with hy | hy; exact HX.out y hy; simp only [List.mem_singleton] at hy; omega), (by rw [List.length_append, HL.out]; rfl), hb3.out⟩⟩
          case measure => simp [intOf]; omega
      · by_cases hbad : l < 3 ∨ l > 258 ∨ d < 1 ∨ d > 32768
        · by_cases b1 : l < 3
          · go_wp2_with fail
            all_goals go_ret2
            all_goals exact expEnd_err (ex_err HD.out HTK.out (Lz.step_arg hl0 hbad) (by decide)) HW1.out
          · by_cases b2 : l > 258
            · go_wp2_with fail
              all_goals go_ret2
              all_goals exact expEnd_err (ex_err HD.out HTK.out (Lz.step_arg hl0 hbad) (by decide)) HW1.out
            · by_cases b3 : d < 1
              · go_wp2_with fail
                all_goals go_ret2
                all_goals exact expEnd_err (ex_err HD.out HTK.out (Lz.step_arg hl0 hbad) (by decide)) HW1.out
              · have b4 : d > 32768 := by omega
                go_wp2_with fail
                all_goals go_ret2
                all_goals exact expEnd_err (ex_err HD.out HTK.out (Lz.step_arg hl0 hbad) (by decide)) HW1.out
        · obtain ⟨ln, hln⟩ : ∃ ln : Nat, l = ln := ⟨l.toNat, by omega⟩
          obtain ⟨dn, hdn⟩ : ∃ dn : Nat, d = dn := ⟨d.toNat, by omega⟩
          subst hln hdn
          have HBAD := Lib.hid hbad
          have e1 : 3 ≤ ln ∧ ln ≤ 258 := by omega
          have e2 : 1 ≤ dn ∧ dn ≤ 32768 := by omega
          clear hbad
          by_cases hd : m2 < dn
          · go_wp2_with fail
            go_ret2
            exact expEnd_err (ex_err HD.out HTK.out (Lz.step_form hl0 HBAD.out (by rw [HL.out]; exact Int.ofNat_lt.2 hd)) (by decide)) HW1.out
          · by_cases hov : (ln : Int) > most - m2
            · go_wp2_with fail
              go_ret2
              exact expEnd_err (ex_err HD.out HTK.out (Lz.step_over hl0 HBAD.out (by rw [HL.out]; show ¬ (dn : Int) > m2; omega) (by rw [HL.out]; exact hov)) (by decide)) HW1.out
            · have HSTEP := Lib.hid (ex_next HD.out HTK.out (Lz.step_copy hl0 HBAD.out (by rw [HL.out]; show ¬ (dn : Int) > m2; omega) (by rw [HL.out]; exact hov)))
              have HO1 := Lib.hid (HO.out.alloc (.cells #[.int .u8 u, .int .i64 (ln : Int), .int .i64 (dn : Int)] 33))
              have HBL : Hid ((Value.slice A2 m2 c2).ownBlock ≠ some wr.heap.size) := Lib.hid (fun h => by have := (HO.out.lt _ h).2; omega)
              obtain ⟨tb, htb⟩ : ∃ tb, tb = wr.heap.size := ⟨_, rfl⟩
              have HC1 : Hid ((wr.alloc (.cells #[.int .u8 u, .int .i64 (ln : Int), .int .i64 (dn : Int)] 33)).cell? ⟨tb, 2, none⟩ = some (.int .i64 dn)) := Lib.hid (by rw [htb, World.cell?_alloc_mark]; rfl)
              have HTB := Lib.hid htb
              go_wp2_with fail
              go_loopw [6, 73] (fun out i wr' => ∃ (A3 : Option Addr) (c3 j : Nat), out = .slice A3 (m2 + j) c3 ∧ i = .int .i64 j ∧ j ≤ ln ∧
                  Hid (wr'.ownsRow w.heap.size 5 1 (.slice A3 (m2 + j) c3) (m2 + j) ((Lz.cpy j dn os).map (Value.int .u8)) ∧ wr'.cell? ⟨tb, 2, none⟩ = some (.int .i64 dn) ∧ (Value.slice A3 (m2 + j) c3).ownBlock ≠ some tb ∧ Below w.heap.size w wr')) (fun _ i _ => ln - (intOf i).toNat)
              case atStart => exact ⟨_, _, 0, rfl, rfl, by omega, Lib.hid ⟨HO1.out, HC1.out, by rw [HTB.out]; exact HBL.out, HW1.out⟩⟩
              case round =>
                obtain ⟨A3, c3, j, rfl, rfl, hj, HH⟩ := hrel
                have HO3 := Lib.hid HH.out.1
                have hc3 := HH.out.2.1
                have HB3 := Lib.hid HH.out.2.2.1
                have HW3 := Lib.hid HH.out.2.2.2
                have hs3 := HW3.out.size
                clear HH
                rw [HTB.out] at hc3
                have HLJ := Lib.hid (show (Lz.cpy j dn os).length = m2 + j by rw [Lz.cpy_len, HL.out])
                by_cases hjl : j < ln
                · obtain ⟨g, hg, hg0, hg1⟩ := own_at HO3.out (by omega)
                  subst hg
                  obtain ⟨z, hz⟩ : ∃ z, z = (Lz.cpy j dn os).getD (m2 + j - dn) 0 := ⟨_, rfl⟩
                  have hcz := own_cell HO3.out (show m2 + j - dn < m2 + j by omega)
                  have hzb := (Bs.of_own HO3.out (cpy_bd HX.out j dn)).bd (m2 + j - dn)
                  rw [← hz] at hcz hzb
                  have HZ := Lib.hid hz
                  clear hz
                  go_wp2_with (first
                    | (at_builtin; refine wpList_append_bs _ rfl (.tmp 75) (.tmp 84) _ rfl w.heap.size 5 i0 _ Try.underlying22 hi hz0 hz1 hz2 rfl _ (m2 + j) _ rfl (HO3.out.alloc _) _ _ 1 1 [z] rfl (bs_one _ 5 _ z hzb.1 hzb.2) (by omega) (by simp; omega) ?_; intro A4 c4 w4 own4 h4 h4' g4 l4; have hb4 := Lib.hid (below_append (HW3.out.alloc hs3 _) (HO3.out.alloc _) (Nat.le_refl _) (by simp; omega) g4)))
                  go_roundw
                  case rel =>
                    refine ⟨A4, c4, j + 1, rfl, by go_num, by omega, Lib.hid ⟨?_, ?_, ?_, hb4.out⟩⟩
                    · rw [Lz.cpy_succ, HLJ.out, ← HZ.out]; exact own4
                    · rw [HTB.out]; exact cell_far g4 ((World.cell?_alloc_lt _ _ _ (World.block_lt_of_cell? _ _ hc3)).trans hc3) (by rw [← HTB.out]; exact HB3.out)
                    · rcases l4 with l4 | l4
                      · intro h; exact HB3.out (l4.symm.trans h)
                      · intro h; have h' := l4.symm.trans h; injection h' with h'; have := World.block_lt_of_cell? _ _ hc3; rw [HTB.out] at h'; simp at h' this; omega
                  case measure => simp [intOf]; omega
                · obtain rfl : j = ln := by omega
                  go_wp2_with fail
                  go_roundw
                  case rel =>
                    refine ⟨A3, m2 + j, c3, k + 1, _, rfl, by go_num, by omega, by omega, .inl (by omega), Lib.hid ⟨HO3.out, ?_, cpy_bd HX.out j dn, HLJ.out, HW3.out⟩⟩
                    exact HSTEP.out
                  case measure => simp [intOf]; omega
    · go_wp2_with fail
      go_ret2
      exact expEnd_ok (ex_done HT.out.1 (by omega) HD.out) HO.out HX.out HW.out
end Go.Proofs.Ytfaekhbofgkdjaa
