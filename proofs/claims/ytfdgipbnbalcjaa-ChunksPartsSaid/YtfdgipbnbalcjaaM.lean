/- More of the plain law: the part in which a pixel lies. -/
import Derived.Test.YtfdgipbnbalcjaaMath
namespace Go.Proofs.Ytfdgipbnbalcjaa
namespace Ch

theorem mini_le {x y z : Int} (h1 : z < x) (h2 : z < y) : z < mini x y := by unfold mini; split <;> assumption
theorem mini_bd (x y : Int) : mini x y ≤ x ∧ mini x y ≤ y ∧ (mini x y = x ∨ mini x y = y) := by unfold mini; split <;> omega
theorem at_idx {n q r : Int} (r0 : 0 ≤ r) (r1 : r < n) : (q * n + r) / n = q ∧ (q * n + r) % n = r := by
  have e : q * n + r = r + n * q := by rw [Int.mul_comm]; omega
  rw [e]
  constructor
  · rw [Int.add_mul_ediv_left _ _ (by omega), Int.ediv_eq_zero_of_lt r0 r1]; omega
  · rw [Int.add_mul_emod_self_left]; exact Int.emod_eq_of_lt r0 r1
theorem idx_bd {n m q r : Int} (r0 : 0 ≤ r) (r1 : r < n) (q0 : 0 ≤ q) (q1 : q < m) : 0 ≤ q * n + r ∧ q * n + r < n * m := by
  have h0 : 0 ≤ q * n := Int.mul_nonneg q0 (by omega)
  have h1 : q * n ≤ (m - 1) * n := Int.mul_le_mul_of_nonneg_right (by omega) (by omega)
  have h2 : (m - 1) * n = n * m - n := by rw [Int.sub_mul, Int.mul_comm]; omega
  omega
/-- the part in which a pixel lies -/
def idx (a c d x y : Int) : Int := y / d * cnt a c + x / c
theorem quo_mul (x c : Int) : x / c * c = x - x % c := by have := Int.mul_ediv_add_emod x c; rw [Int.mul_comm]; omega
theorem idx_ok {a b : Int} {t : Bool} {c d x y : Int} (h : Right a b t c d) (x0 : 0 ≤ x) (x1 : x < a) (y0 : 0 ≤ y) (y1 : y < b) :
    0 ≤ idx a c d x y ∧ idx a c d x y < cnt a c * cnt b d ∧ idx a c d x y % cnt a c = x / c ∧ idx a c d x y / cnt a c = y / d := by
  obtain ⟨a0, b0, a1, b1, ab, c0, d0, c1, d1⟩ := h.bd
  obtain ⟨u0, u1⟩ := cnt_lt c0 x0 x1
  obtain ⟨v0, v1⟩ := cnt_lt d0 y0 y1
  obtain ⟨k0, k1⟩ := idx_bd u0 u1 v0 v1
  obtain ⟨e0, e1⟩ := at_idx (q := y / d) u0 u1
  exact ⟨k0, k1, e1, e0⟩
/-- where in its part it lies -/
theorem find_ok {a b : Int} {t : Bool} {c d x y : Int} (h : Right a b t c d) (x0 : 0 ≤ x) (x1 : x < a) (y0 : 0 ≤ y) (y1 : y < b) :
    partX a c (idx a c d x y) + x % c = x ∧ partY a c d (idx a c d x y) + y % d = y ∧ 0 ≤ x % c ∧ x % c < mini c (a - partX a c (idx a c d x y)) ∧
      0 ≤ y % d ∧ y % d < mini (partH b t d (partY a c d (idx a c d x y))) (b - partY a c d (idx a c d x y)) := by
  obtain ⟨a0, b0, a1, b1, ab, c0, d0, c1, d1⟩ := h.bd
  obtain ⟨_, _, e1, e0⟩ := idx_ok h x0 x1 y0 y1
  have m0 := Int.emod_nonneg x (show c ≠ 0 by omega)
  have m1 := Int.emod_lt_of_pos x (show 0 < c by omega)
  have n0 := Int.emod_nonneg y (show d ≠ 0 by omega)
  have n1 := Int.emod_lt_of_pos y (show 0 < d by omega)
  unfold partX partY
  rw [e0, e1, quo_mul, quo_mul]
  refine ⟨by omega, by omega, m0, mini_le m1 (by omega), n0, mini_le ?_ (by omega)⟩
  unfold partH
  split
  · exact n1
  · exact mini_le n1 (by omega)
end Ch
end Go.Proofs.Ytfdgipbnbalcjaa
