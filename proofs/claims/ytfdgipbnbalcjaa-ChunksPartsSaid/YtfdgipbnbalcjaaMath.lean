/- The plain law of layer 20: how pages are cut into strips and tiles. No program stands here. -/
namespace Go.Proofs.Ytfdgipbnbalcjaa
namespace Ch

/-- a right layout: a page of a by b, tiled or not, cut by c and d -/
def Right (a b : Int) (t : Bool) (c d : Int) : Prop :=
  (1 ≤ a ∧ 1 ≤ b ∧ a ≤ 32768 ∧ b ≤ 32768 ∧ a * b ≤ 4194304) ∧ (t = true → 16 ≤ c ∧ 16 ≤ d ∧ c % 16 = 0 ∧ d % 16 = 0 ∧ c ≤ 32768 ∧ d ≤ 32768 ∧ c * d ≤ 4194304) ∧ (t = false → c = a ∧ 1 ≤ d ∧ d ≤ b)
instance (a b : Int) (t : Bool) (c d : Int) : Decidable (Right a b t c d) := by unfold Right; infer_instance
def rightB (a b : Int) (t : Bool) (c d : Int) : Bool := decide (Right a b t c d)
theorem right_no {a b : Int} {t : Bool} {c d : Int} (h : ¬ Right a b t c d) : false = rightB a b t c d := by unfold rightB; rw [decide_eq_false h]
theorem right_yes {a b : Int} {t : Bool} {c d : Int} (h : Right a b t c d) : true = rightB a b t c d := by unfold rightB; rw [decide_eq_true h]
theorem right_dec {a b : Int} {t : Bool} {c d : Int} {p : Prop} [Decidable p] (h : p ↔ Right a b t c d) : decide p = rightB a b t c d := by unfold rightB; exact decide_eq_decide.2 h
theorem prod_bd {a b : Int} (a0 : 1 ≤ a) (a1 : a ≤ 32768) (b0 : 1 ≤ b) (b1 : b ≤ 32768) : 1 ≤ a * b ∧ a * b ≤ 1073741824 := by
  have h1 : 1 * 1 ≤ a * b := Int.mul_le_mul a0 b0 (by omega) (by omega)
  have h2 : a * b ≤ 32768 * 32768 := Int.mul_le_mul a1 b1 (by omega) (by omega)
  omega
/-- what a right layout says of the numbers -/
theorem Right.bd {a b : Int} {t : Bool} {c d : Int} (h : Right a b t c d) : 1 ≤ a ∧ 1 ≤ b ∧ a ≤ 32768 ∧ b ≤ 32768 ∧ a * b ≤ 4194304 ∧ 1 ≤ c ∧ 1 ≤ d ∧ c ≤ 32768 ∧ d ≤ 32768 := by
  obtain ⟨⟨h1, h2, h3, h4, h5⟩, ht, hf⟩ := h
  cases t
  · have := hf rfl; omega
  · have := ht rfl; omega

/-- how many parts beside each other -/
def cnt (a c : Int) : Int := (a + c - 1) / c
theorem cnt_bd {a c : Int} (a0 : 1 ≤ a) (a1 : a ≤ 32768) (c0 : 1 ≤ c) : 1 ≤ cnt a c ∧ cnt a c ≤ 32768 := by
  unfold cnt
  constructor
  · rw [Int.le_ediv_iff_mul_le (by omega)]; omega
  · have h : (a + c - 1) / c < 32768 + 1 := by
      rw [Int.ediv_lt_iff_lt_mul (by omega)]
      have : 32768 * 1 ≤ 32768 * c := Int.mul_le_mul_of_nonneg_left c0 (by omega)
      have e : (32768 + 1) * c = 32768 * c + c := by rw [Int.add_mul]; omega
      omega
    omega
/-- the parts cover: the last one begins inside, and goes on to the end -/
theorem cnt_last {a c : Int} (_a0 : 1 ≤ a) (c0 : 1 ≤ c) : (cnt a c - 1) * c < a ∧ a ≤ cnt a c * c := by
  unfold cnt
  have h1 := Int.mul_ediv_self_le (x := a + c - 1) (k := c) (by omega)
  have h2 := Int.lt_mul_ediv_self_add (x := a + c - 1) (k := c) (by omega)
  have e1 : ((a + c - 1) / c - 1) * c = c * ((a + c - 1) / c) - c := by rw [Int.sub_mul, Int.mul_comm]; omega
  have e2 : (a + c - 1) / c * c = c * ((a + c - 1) / c) := Int.mul_comm _ _
  rw [e1, e2]
  omega
/-- a place inside lies in a part that there is -/
theorem cnt_lt {a c x : Int} (c0 : 1 ≤ c) (x0 : 0 ≤ x) (x1 : x < a) : 0 ≤ x / c ∧ x / c < cnt a c := by
  refine ⟨Int.ediv_nonneg x0 (by omega), ?_⟩
  have := cnt_last (a := a) (c := c) (by omega) c0
  rw [Int.ediv_lt_iff_lt_mul (by omega)]
  omega
/-- .. and a part that there is begins inside -/
theorem begin_lt {a c q : Int} (a0 : 1 ≤ a) (c0 : 1 ≤ c) (q0 : 0 ≤ q) (q1 : q < cnt a c) : 0 ≤ q * c ∧ q * c < a := by
  refine ⟨Int.mul_nonneg q0 (by omega), ?_⟩
  have h1 := (cnt_last (a := a) (c := c) a0 c0).1
  have h2 : q * c ≤ (cnt a c - 1) * c := Int.mul_le_mul_of_nonneg_right (by omega) (by omega)
  omega
theorem quo_lt {m n i : Int} (n0 : 1 ≤ n) (i0 : 0 ≤ i) (i1 : i < n * m) : 0 ≤ i / n ∧ i / n < m ∧ 0 ≤ i % n ∧ i % n < n := by
  refine ⟨Int.ediv_nonneg i0 (by omega), ?_, Int.emod_nonneg _ (by omega), Int.emod_lt_of_pos _ (by omega)⟩
  rw [Int.ediv_lt_iff_lt_mul (by omega), Int.mul_comm]; exact i1

def mini (x y : Int) : Int := if x ≤ y then x else y
/-- the i-th part, and what of it lies inside -/
def partX (a c i : Int) : Int := i % cnt a c * c
def partY (a c d i : Int) : Int := i / cnt a c * d
def partH (b : Int) (t : Bool) (d y : Int) : Int := if t then d else mini d (b - y)
end Ch
end Go.Proofs.Ytfdgipbnbalcjaa
