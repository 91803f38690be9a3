/- The chapter's examples; in which part a pixel lies. -/
import Derived.Test.YtfdgipbnbalcjaaM
import Derived.Test.YtfdgipbnbalcjaaB
namespace Go.Proofs.Ytfdgipbnbalcjaa
open Go.RowKit

theorem results_tmp4 {fn : Func} {t u v x : Tmp} (h : fn.results = #[.tmp t, .tmp u, .tmp v, .tmp x]) (tmps : Array Value) (P : Program) (w : World) :
    (results fn tmps).run P w = .ok (.tuple #[tmps.getD t undef, tmps.getD u undef, tmps.getD v undef, tmps.getD x undef]) w := by
  simp [results, h]
theorem count_n {a b : Int} {t : Bool} {c d n : Int} (w : World) (h : Ch.Right a b t c d) (hn : Ch.cnt a c * Ch.cnt b d = n) :
    Calls Try.prog 9 #[.agg #[.int .i64 a, .int .i64 b, .bool t, .int .i64 c, .int .i64 d]] w fun e w' => e = .returned (.tuple #[.int .i64 n, .int .i64 0]) ∧ Below w.heap.size w w' := by
  subst hn; exact count_yes a b t c d w h

set_option maxRecDepth 10000 in
set_option maxHeartbeats 1000000 in
theorem lives_any (w : World) : Calls Try.prog 6 #[] w fun e w' => e = .returned (.bool true) ∧ Below w.heap.size w w' := by
  go_enter Try.func6, Try.ntmps6
  go_wp2_with fail
  refine (count_n (a := 20) (b := 10) (t := false) (c := 20) (d := 4) (n := 3) _ (by decide) (by decide)).mono ?_
  rintro e w1 ⟨rfl, hb1⟩
  go_wp2_with fail
  refine (count_n (a := 20) (b := 10) (t := true) (c := 16) (d := 16) (n := 2) _ (by decide) (by decide)).mono ?_
  rintro e w2 ⟨rfl, hb2⟩
  go_wp2
  go_ret
  exact ⟨rfl, hb1.trans (hb2.mono hb1.size)⟩

set_option maxRecDepth 10000 in
set_option maxHeartbeats 1000000 in
theorem find_no (a b : Int) (t : Bool) (c d x y : Int) (w : World) (h : ¬ (Ch.Right a b t c d ∧ 0 ≤ x ∧ 0 ≤ y ∧ x < a ∧ y < b)) (wc : I64 c) (wd : I64 d) :
    Calls Try.prog 14 #[.agg #[.int .i64 a, .int .i64 b, .bool t, .int .i64 c, .int .i64 d], .int .i64 x, .int .i64 y] w fun e w' =>
      e = .returned (.tuple #[.int .i64 0, .int .i64 0, .int .i64 0, .int .i64 1]) ∧ Below w.heap.size w w' := by
  by_cases hr : Ch.Right a b t c d
  · have HR := Lib.hid (rightB_yes hr)
    by_cases h1 : x < 0
    all_goals by_cases h2 : y < 0
    all_goals by_cases h3 : a ≤ x
    all_goals by_cases h4 : b ≤ y
    all_goals first | exact absurd ⟨hr, by omega, by omega, by omega, by omega⟩ h | skip
    all_goals
      clear h hr
      go_enter Try.func14, Try.ntmps14
      go_wp2_with fail
      refine (right_is HR.out wc wd).mono ?_
      rintro e w1 ⟨rfl, hb1⟩
      obtain ⟨l0, l1, l2, l3, l4⟩ := (LayAt.made w a b t c d).below hb1 (by simp)
      have hb1' := Lib.hid (((Below.refl _ w).alloc (Nat.le_refl _) _).trans (hb1.mono (by simp)))
      clear hb1
      go_wp2
      (try simp only [Exit.inBlock, Exit.then])
      refine bodyPost_ret (results_tmp4 rfl _ _ _) rfl ?_
      exact ⟨rfl, hb1'.out⟩
  · clear h
    go_enter Try.func14, Try.ntmps14
    go_wp2_with fail
    refine (right_is (rightB_no hr) wc wd).mono ?_
    rintro e w1 ⟨rfl, hb1⟩
    go_wp2
    (try simp only [Exit.inBlock, Exit.then])
    refine bodyPost_ret (results_tmp4 rfl _ _ _) rfl ?_
    exact ⟨rfl, ((Below.refl _ _).alloc (Nat.le_refl _) _).trans (hb1.mono (by simp))⟩

set_option maxRecDepth 10000 in
set_option maxHeartbeats 1000000 in
theorem find_yes (a b : Int) (t : Bool) (c d x y : Int) (w : World) (h : Ch.Right a b t c d) (x0 : 0 ≤ x) (x1 : x < a) (y0 : 0 ≤ y) (y1 : y < b) :
    Calls Try.prog 14 #[.agg #[.int .i64 a, .int .i64 b, .bool t, .int .i64 c, .int .i64 d], .int .i64 x, .int .i64 y] w fun e w' =>
      e = .returned (.tuple #[.int .i64 (Ch.idx a c d x y), .int .i64 (x % c), .int .i64 (y % d), .int .i64 0]) ∧ Below w.heap.size w w' := by
  obtain ⟨a0, b0, a1, b1, ab, c0, d0, c1, d1⟩ := h.bd
  obtain ⟨n0, n1⟩ := Ch.cnt_bd a0 a1 c0
  obtain ⟨u0, u1⟩ := Ch.cnt_lt c0 x0 x1
  obtain ⟨m0, m1⟩ := Ch.cnt_bd b0 b1 d0
  obtain ⟨v0, v1⟩ := Ch.cnt_lt d0 y0 y1
  have pq := Ch.prod_bd n0 n1 m0 m1
  have k := Ch.idx_bd u0 u1 v0 v1
  have hacr := fun w => across_any a b t c d w h
  have HR := Lib.hid h
  unfold Ch.idx
  obtain ⟨nx, hnx⟩ : ∃ nx, nx = Ch.cnt a c := ⟨_, rfl⟩
  obtain ⟨ny, hny⟩ : ∃ ny, ny = Ch.cnt b d := ⟨_, rfl⟩
  rw [← hnx] at n0 n1 u1 pq k hacr ⊢
  rw [← hny] at m0 m1 v1 pq k hacr
  have HA := Lib.hid hacr
  have hq : wrap64 (x.tdiv c) = x / c := by rw [Int.tdiv_eq_ediv_of_nonneg x0]; exact IntWalk.wrap64_in _ ⟨by omega, by omega⟩
  have hq' : wrap64 (y.tdiv d) = y / d := by rw [Int.tdiv_eq_ediv_of_nonneg y0]; exact IntWalk.wrap64_in _ ⟨by omega, by omega⟩
  have hm : 0 ≤ y / d * nx ∧ y / d * nx ≤ 1073741824 := by
    refine ⟨Int.mul_nonneg v0 (by omega), ?_⟩
    omega
  have hqn : wrap64 (y / d * nx) = y / d * nx := IntWalk.wrap64_in _ ⟨by omega, by omega⟩
  clear hacr hnx hny h
  go_enter Try.func14, Try.ntmps14
  go_wp2_with fail
  refine (right_is (rightB_yes HR.out) (Right.w64 HR.out).1 (Right.w64 HR.out).2).mono ?_
  rintro e w1 ⟨rfl, hb1⟩
  have HL := Lib.hid ((LayAt.made w a b t c d).below hb1 (by simp))
  obtain ⟨l0, l1, l2, l3, l4⟩ := HL.out
  have hb1' := Lib.hid (((Below.refl _ w).alloc (Nat.le_refl _) _).trans (hb1.mono (by simp)))
  have hs1 := hb1.size
  simp only [World.size_alloc] at hs1
  clear hb1
  go_wp2_with fail
  refine (HA.out _).mono ?_
  rintro e w2 ⟨rfl, hb2⟩
  clear l0 l1 l2 l3 l4
  obtain ⟨l0, l1, l2, l3, l4⟩ := HL.out.below hb2 (by omega)
  have hb2' := Lib.hid (hb1'.out.trans (hb2.mono hb1'.out.size))
  clear hb2
  go_wp2_with fail
  go_quiet (fail)
  go_wp2
  (try simp only [Exit.inBlock, Exit.then])
  refine bodyPost_ret (results_tmp4 rfl _ _ _) rfl ?_
  exact ⟨rfl, below_drewN hb2'.out _⟩
end Go.Proofs.Ytfdgipbnbalcjaa
