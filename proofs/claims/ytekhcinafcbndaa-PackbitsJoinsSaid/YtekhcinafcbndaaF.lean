/- The chapter's example, and the walks of the statements on packbits. -/
import Derived.Test.YtekhcinafcbndaaE
namespace Go.Proofs.Ytekhcinafcbndaa
open Go.RowKit

theorem decode_is {N : Int} {ys : List Int} {k er : Int} {A : Option Addr} {n c B : Nat} {xs : List Int} {w : World} (hr : Pb.res N xs = (ys, k, er)) (hb : Bs w B A n xs) (hc : n ≤ c) (hn : n ≤ 8000) (hN : N ≤ 100000) (hB : B ≤ w.heap.size) :
    Calls Try.prog 8 #[.slice A n c, .int .i64 N] w fun e w' => ∃ A' m c', e = .returned (.tuple #[.slice A' m c', .int .i64 k, .int .i64 er]) ∧ Bs w' w'.heap.size A' m ys ∧ Below w.heap.size w w' := by
  refine (decode_any A n c B N xs w hb hc hn hN hB).mono ?_
  rintro e w' ⟨A', m, c', ys', k', er', rfl, h, hb', hw⟩
  rw [hr] at h
  injection h with h1 h
  injection h with h2 h3
  subst h1 h2 h3
  exact ⟨A', m, c', rfl, hb', hw⟩
theorem refdec_is {N : Int} {ys : List Int} {k er : Int} {xs : List Int} {w : World} (hr : Pb.res N xs = (ys, k, er)) (hx : ∀ x ∈ xs, 0 ≤ x ∧ x ≤ 255) (hn : xs.length ≤ 8000) (hN : N ≤ 100000) :
    Calls Try.prog 9 #[.string (strOfNums xs), .int .i64 N] w fun e w' => e = .returned (.tuple #[.string (strOfNums ys), .int .i64 k, .int .i64 er]) ∧ ∃ m, w' = w.drewN m := by
  refine (refdec_any (strOfNums xs) N w (by rw [strOfNums_size]; exact hn) hN).mono ?_
  rintro e w' ⟨⟨ys', k', er', rfl, h⟩, hm⟩
  rw [nums_str xs hx, hr] at h
  injection h with h1 h
  injection h with h2 h3
  subst h1 h2 h3
  exact ⟨rfl, hm⟩

theorem ex_cells (w : World) (fr : Nat × Nat) : ∀ j, j < 6 → (w.alloc (.cells #[.int .u8 254, .int .u8 7, .int .u8 2, .int .u8 7, .int .u8 8, .int .u8 9] 5 fr)).cell? ⟨w.heap.size, 0 + j, none⟩ =
    some (.int .u8 (([254, 7, 2, 7, 8, 9] : List Int).getD j 0)) := by
  intro j hj
  rw [Nat.zero_add, World.cell?_alloc_mark]
  match j, hj with
  | 0, _ => rfl
  | 1, _ => rfl
  | 2, _ => rfl
  | 3, _ => rfl
  | 4, _ => rfl
  | 5, _ => rfl
  | j + 6, h => omega
theorem ex_bs (w : World) (fr : Nat × Nat) : Bs (w.alloc (.cells #[.int .u8 254, .int .u8 7, .int .u8 2, .int .u8 7, .int .u8 8, .int .u8 9] 5 fr)) (w.heap.size + 1) (some ⟨w.heap.size, 0, none⟩) 6 [254, 7, 2, 7, 8, 9] :=
  Bs.of_cells rfl (by decide) (by omega) (ex_cells w fr)
theorem ex_res : Pb.res 6 [254, 7, 2, 7, 8, 9] = ([7, 7, 7, 7, 8, 9], 6, 0) := by decide

theorem lives_any (w : World) : Calls Try.prog 7 #[] w fun e w' => e = .returned (.bool true) ∧ Below w.heap.size w w' := by
  go_enter Try.func7, Try.ntmps7
  go_wp2_with fail
  refine (decode_is ex_res (ex_bs w _) (by omega) (by omega) (by omega) (by simp)).mono ?_
  rintro e w1 ⟨A, m, c, rfl, hb, hbel⟩
  have hconv := hb.run_string (P := Try.prog) Try.underlying22 Try.underlying5 Try.underlying9 c
  have hst : strOfNums [7, 7, 7, 7, 8, 9] = { data := #[7, 7, 7, 7, 8, 9] } := by decide
  rw [hst] at hconv
  go_wp2
  go_ret
  exact ⟨rfl, ((Below.refl _ _).alloc (Nat.le_refl _) _).trans (hbel.mono (by simp))⟩
end Go.Proofs.Ytekhcinafcbndaa
