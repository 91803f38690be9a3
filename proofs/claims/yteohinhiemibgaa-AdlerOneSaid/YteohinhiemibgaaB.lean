/- The chapter's example, the program's Join, and the walks of the statements that make no memory. -/
import Derived.Test.YteohinhiemibgaaA
import Derived.Deep.QuietTactic
import Derived.BigQuiet
import Derived.Outline
namespace Go.Proofs.Yteohinhiemibgaa
open Go.RowKit

theorem quiet_left {P : Program} {f : FuncId} {args : Array Value} {w : World} {n : Nat} {v : Value}
    (h : Calls P f args (w.drewN n) fun e w' => e = .returned v ∧ w.drewN n = w') : Calls P f args (w.drewN n) fun e w'' => e = .returned v ∧ ∃ m, w'' = w.drewN m :=
  h.mono fun _ _ ⟨he, hm⟩ => ⟨he, n, hm.symm⟩
theorem refUpdate_of (sum : Int) (xs : List Int) (w : World) (h0 : 0 ≤ sum) (h1 : sum < 4294967296) (hx : ∀ x ∈ xs, 0 ≤ x ∧ x ≤ 255) (hn : xs.length ≤ 8000) :
    Calls Try.prog 12 #[.int .u32 sum, .string (strOfNums xs)] w fun e w' => e = .returned (.int .u32 (Adl.adl sum xs)) ∧ w = w' := by
  have := refUpdate_any sum (strOfNums xs) w h0 h1 (by rw [strOfNums_size]; exact hn)
  rwa [nums_str xs hx] at this
theorem refSum_of (xs : List Int) (w : World) (hx : ∀ x ∈ xs, 0 ≤ x ∧ x ≤ 255) (hn : xs.length ≤ 8000) :
    Calls Try.prog 10 #[.string (strOfNums xs)] w fun e w' => e = .returned (.int .u32 (Adl.adl 1 xs)) ∧ w = w' := by
  have := refSum_any (strOfNums xs) w (by rw [strOfNums_size]; exact hn)
  rwa [nums_str xs hx] at this

theorem wiki_cells (w : World) (fr : Nat × Nat) : ∀ j, j < 9 → (w.alloc (.cells #[.int .u8 87, .int .u8 105, .int .u8 107, .int .u8 105, .int .u8 112, .int .u8 101, .int .u8 100, .int .u8 105, .int .u8 97] 5 fr)).cell? ⟨w.heap.size, 0 + j, none⟩ =
    some (.int .u8 (([87, 105, 107, 105, 112, 101, 100, 105, 97] : List Int).getD j 0)) := by
  intro j hj
  rw [Nat.zero_add, World.cell?_alloc_mark]
  match j, hj with
  | 0, _ => rfl
  | 1, _ => rfl
  | 2, _ => rfl
  | 3, _ => rfl
  | 4, _ => rfl
  | 5, _ => rfl
  | 6, _ => rfl
  | 7, _ => rfl
  | 8, _ => rfl
  | j + 9, h => omega
theorem wiki_sum : Adl.adl 1 [87, 105, 107, 105, 112, 101, 100, 105, 97] = 300286872 := by decide
theorem wiki_bs (w : World) (fr : Nat × Nat) : Bs (w.alloc (.cells #[.int .u8 87, .int .u8 105, .int .u8 107, .int .u8 105, .int .u8 112, .int .u8 101, .int .u8 100, .int .u8 105, .int .u8 97] 5 fr)) (w.heap.size + 1)
    (some ⟨w.heap.size, 0, none⟩) 9 [87, 105, 107, 105, 112, 101, 100, 105, 97] :=
  Bs.of_cells rfl (by decide) (by omega) (wiki_cells w fr)

theorem lives_any (w : World) : Calls Try.prog 8 #[] w fun e w' => e = .returned (.bool true) ∧ Below w.heap.size w w' := by
  have kc := fun (w : World) (C : Array Value) (n c : Nat) => Lib.run_convert_bytes_const (P := Try.prog) w 23 5 C n c Try.underlying23 Try.underlying5
  go_enter Try.func8, Try.ntmps8
  go_wp2_with (go_at_call 9; refine (sum_any _ _ _ _ _ _ (wiki_bs w _) (by omega)).mono ?_; rintro e w' ⟨rfl, rfl⟩)
  rw [wiki_sum]
  go_ret
  exact ⟨rfl, (Below.refl _ _).alloc (Nat.le_refl _) _⟩

set_option maxHeartbeats 400000 in
theorem join_any (a b n : Int) (w : World) (a0 : 0 ≤ a) (a1 : a < 4294967296) (b0 : 0 ≤ b) (b1 : b < 4294967296) (n0 : 0 ≤ n) (n1 : n < 18446744073709551616) :
    Calls Try.prog 13 #[.int .u32 a, .int .u32 b, .int .u64 n] w fun e w' => e = .returned (.int .u32 (Adl.join a b n)) ∧ w = w' := by
  have ha := and_low a a0 a1
  have hb := and_low b b0 b1
  obtain ⟨p0, p1⟩ := mul_bd (n % 65521) ((a % 65536 + 65521 - 1) % 65521) 65521 (by omega) (by omega) (by omega) (by omega)
  go_enter Try.func13, Try.ntmps13
  go_wp2
  go_ret
  refine ⟨ret_int ?_, rfl⟩
  rw [or_join _ _ (by omega) (by omega) (by omega) (by omega)]
  rfl

set_option maxHeartbeats 400000 in
theorem sums_walk (sum : Int) (A : Option Addr) (n c : Nat) (xs : List Int) (w : World) (h0 : 0 ≤ sum) (h1 : sum < 4294967296) (hb : Bs w w.heap.size A n xs) (hm : n ≤ maxLen) :
    Calls Try.prog 3 #[.int .u32 sum, .slice A n c] w fun e w' => e = .returned (.bool true) ∧ Below w.heap.size w w' := by
  unfold maxLen at hm
  have HB := Lib.hid hb
  clear hb
  by_cases hn : 8000 < n
  · go_enter Try.func3, Try.ntmps3
    go_wp2_with fail
    refine (lives_any _).mono ?_
    rintro e w1 ⟨rfl, hb1⟩
    go_wp2_with fail
    refine (lives_any _).mono ?_
    rintro e w2 ⟨rfl, hb2⟩
    go_wp2
    go_ret
    exact ⟨rfl, hb1.trans (hb2.mono hb1.size)⟩
  · go_enter Try.func3, Try.ntmps3
    go_wp2_with (go_at_call 8; refine (lives_any _).mono ?_; rintro e w1 ⟨rfl, hb1⟩)
    have HB1 := Lib.hid (HB.out.below hb1)
    have hconv : ∀ m, (convert 23 9 (.slice A n c)).run Try.prog (w1.drewN m) = .ok (.string (strOfNums xs)) (w1.drewN m) := fun m =>
      (HB1.out.drewN m).run_string Try.underlying23 Try.underlying5 Try.underlying9 c
    go_quiet ((first
      | (go_at_call 9; exact quiet_left (sum_any _ _ _ _ _ _ (HB1.out.drewN _) (by omega)))
      | (go_at_call 10; exact quiet_left (refSum_of _ _ HB1.out.2.1 (by rw [HB1.out.1]; omega)))
      | (go_at_call 11; exact quiet_left (update_any _ _ _ _ _ _ _ h0 h1 (HB1.out.drewN _) (by omega)))
      | (go_at_call 12; exact quiet_left (refUpdate_of _ _ _ h0 h1 HB1.out.2.1 (by rw [HB1.out.1]; omega)))))
    go_wp2
    go_ret
    exact ⟨rfl, below_drewN hb1 _⟩
