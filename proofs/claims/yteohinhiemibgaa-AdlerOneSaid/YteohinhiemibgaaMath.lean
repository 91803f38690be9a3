/- The plain arithmetic of the two sums of layer 3: sums of lists of integers, weighted sums, and what is alike by 65521. No program stands here. -/
namespace Go.Proofs.Yteohinhiemibgaa
namespace Adl

def S : List Int → Int
  | [] => 0
  | x :: r => x + S r
def V : Int → List Int → Int
  | _, [] => 0
  | n, x :: r => n * x + V (n - 1) r

theorem S_append (xs ys : List Int) : S (xs ++ ys) = S xs + S ys := by
  induction xs with
  | nil => simp [S]
  | cons x r ih => simp only [List.cons_append, S, ih]; omega
theorem S_snoc (xs : List Int) (c : Int) : S (xs ++ [c]) = S xs + c := by
  rw [S_append]; simp [S]
theorem V_append (n : Int) (xs ys : List Int) : V n (xs ++ ys) = V n xs + V (n - xs.length) ys := by
  induction xs generalizing n with
  | nil => simp [V]
  | cons x r ih =>
    simp only [List.cons_append, V, ih, List.length_cons]
    rw [show n - 1 - (r.length : Int) = n - ((r.length + 1 : Nat) : Int) from by omega]
    omega
theorem V_snoc (n : Int) (xs : List Int) (c : Int) : V n (xs ++ [c]) = V n xs + (n - xs.length) * c := by
  rw [V_append]; simp [V]
theorem V_add (n k : Int) (xs : List Int) : V (n + k) xs = V n xs + k * S xs := by
  induction xs generalizing n with
  | nil => simp [V, S]
  | cons x r ih =>
    simp only [V, S]
    rw [show n + k - 1 = (n - 1) + k from by omega, ih, Int.add_mul, Int.mul_add]
    omega

/-- the low half and the high half of a sum, each below 65521 -/
def lo (s : Int) : Int := s % 65536 % 65521
def hi (s : Int) : Int := s / 65536 % 65521
def lows (s : Int) (xs : List Int) : Int := (lo s + S xs) % 65521
def highs (s : Int) (xs : List Int) : Int := (hi s + (xs.length * lo s + V xs.length xs)) % 65521
def adl (s : Int) (xs : List Int) : Int := highs s xs * 65536 + lows s xs

theorem lo_bd (s : Int) : 0 ≤ lo s ∧ lo s < 65521 := by unfold lo; omega
theorem hi_bd (s : Int) : 0 ≤ hi s ∧ hi s < 65521 := by unfold hi; omega
theorem lows_bd (s : Int) (xs : List Int) : 0 ≤ lows s xs ∧ lows s xs < 65521 := by unfold lows; omega
theorem highs_bd (s : Int) (xs : List Int) : 0 ≤ highs s xs ∧ highs s xs < 65521 := by unfold highs; omega
theorem adl_bd (s : Int) (xs : List Int) : 0 ≤ adl s xs ∧ adl s xs < 4294967296 := by
  have := lows_bd s xs
  have := highs_bd s xs
  unfold adl; omega
theorem lo_mk (h l : Int) (a : 0 ≤ l) (b : l < 65521) : lo (h * 65536 + l) = l := by unfold lo; omega
theorem hi_mk (h l : Int) (a : 0 ≤ l) (b : l < 65521) (c : 0 ≤ h) (d : h < 65521) : hi (h * 65536 + l) = h := by unfold hi; omega
theorem lo_adl (s : Int) (xs : List Int) : lo (adl s xs) = lows s xs := lo_mk _ _ (lows_bd s xs).1 (lows_bd s xs).2
theorem hi_adl (s : Int) (xs : List Int) : hi (adl s xs) = highs s xs := hi_mk _ _ (lows_bd s xs).1 (lows_bd s xs).2 (highs_bd s xs).1 (highs_bd s xs).2

theorem lows_nil (s : Int) : lows s [] = lo s := by have := lo_bd s; unfold lows; simp only [S]; omega
theorem highs_nil (s : Int) : highs s [] = hi s := by have := hi_bd s; unfold highs; simp [V]; omega
theorem lows_snoc (s : Int) (xs : List Int) (c : Int) : (lows s xs + c) % 65521 = lows s (xs ++ [c]) := by
  unfold lows; rw [S_snoc]; omega
theorem highs_snoc (s : Int) (xs : List Int) (c : Int) : (highs s xs + lows s (xs ++ [c])) % 65521 = highs s (xs ++ [c]) := by
  unfold highs lows
  rw [S_snoc]
  have e : (((xs ++ [c]).length : Nat) : Int) = (xs.length : Int) + 1 := by simp
  rw [e, V_snoc, V_add (xs.length : Int) 1 xs, Int.add_mul]
  have : ((xs.length : Int) + 1 - xs.length) * c = c := by rw [show ((xs.length : Int) + 1 - xs.length) = 1 from by omega]; omega
  rw [this]
  omega

/-- a product by what is alike -/
theorem mul_mod_left (a b : Int) : (a % 65521 * b) % 65521 = (a * b) % 65521 := by
  rw [Int.mul_emod, Int.emod_emod_of_dvd a (Int.dvd_refl _), ← Int.mul_emod]
theorem mul_mod_right (a b : Int) : (a * (b % 65521)) % 65521 = (a * b) % 65521 := by
  rw [Int.mul_comm, mul_mod_left, Int.mul_comm]

/-! ## sums behind sums -/
theorem adl_append (s : Int) (xs ys : List Int) : adl (adl s xs) ys = adl s (xs ++ ys) := by
  have hl : lows (adl s xs) ys = lows s (xs ++ ys) := by
    have : lo (adl s xs) = lows s xs := lo_adl s xs
    unfold lows at this ⊢
    rw [this, S_append]; omega
  have hh : highs (adl s xs) ys = highs s (xs ++ ys) := by
    have h1 := lo_adl s xs
    have h2 := hi_adl s xs
    have e : (((xs ++ ys).length : Nat) : Int) = (xs.length : Int) + (ys.length : Int) := by simp
    unfold highs at h2 ⊢
    rw [h2, h1, e, V_append, V_add]
    have e2 : (xs.length : Int) + (ys.length : Int) - (xs.length : Int) = (ys.length : Int) := by omega
    rw [e2, Int.add_mul]
    have h3 := mul_mod_right (ys.length : Int) (lo s + S xs)
    rw [Int.mul_add] at h3
    unfold lows
    omega
  unfold adl at *
  rw [hl, hh]

/-- what the program's Join says -/
def joinLo (a b : Int) : Int := (lo a + lo b + 65521 - 1) % 65521
def joinHi (a b n : Int) : Int := (hi a + hi b + n % 65521 * ((a % 65536 + 65521 - 1) % 65521)) % 65521
def join (a b n : Int) : Int := joinHi a b n * 65536 + joinLo a b
theorem join_bd (a b n : Int) : 0 ≤ join a b n ∧ join a b n < 4294967296 := by unfold join joinHi joinLo; omega
theorem lo_join (a b n : Int) : lo (join a b n) = joinLo a b := lo_mk _ _ (by unfold joinLo; omega) (by unfold joinLo; omega)
theorem hi_join (a b n : Int) : hi (join a b n) = joinHi a b n := hi_mk _ _ (by unfold joinLo; omega) (by unfold joinLo; omega) (by unfold joinHi; omega) (by unfold joinHi; omega)
theorem lo_one : lo 1 = 1 := by decide
theorem hi_one : hi 1 = 0 := by decide
theorem join_adl (xs ys : List Int) (n : Int) (hn : n = ys.length) : join (adl 1 xs) (adl 1 ys) n = adl 1 (xs ++ ys) := by
  have hl : joinLo (adl 1 xs) (adl 1 ys) = lows 1 (xs ++ ys) := by
    unfold joinLo
    rw [lo_adl, lo_adl]
    unfold lows
    rw [S_append, lo_one]; omega
  have hh : joinHi (adl 1 xs) (adl 1 ys) n = highs 1 (xs ++ ys) := by
    unfold joinHi
    rw [hi_adl, hi_adl]
    have e : (((xs ++ ys).length : Nat) : Int) = (xs.length : Int) + (ys.length : Int) := by simp
    have hb := lows_bd 1 xs
    have ea : adl 1 xs % 65536 = lows 1 xs := by unfold adl; omega
    rw [ea]
    unfold highs
    rw [e, V_append, V_add]
    have e2 : (xs.length : Int) + (ys.length : Int) - (xs.length : Int) = (ys.length : Int) := by omega
    rw [e2, lo_one, hi_one, hn]
    have h3 : ((ys.length : Int) % 65521 * ((lows 1 xs + 65521 - 1) % 65521)) % 65521 = ((ys.length : Int) * S xs) % 65521 := by
      rw [mul_mod_left]
      have : (lows 1 xs + 65521 - 1) % 65521 = S xs % 65521 := by unfold lows; rw [lo_one]; omega
      rw [this, mul_mod_right]
    omega
  unfold join
  rw [hl, hh]
  rfl
theorem join_nothing (xs : List Int) : join (adl 1 xs) (adl 1 []) 0 = adl 1 xs := by
  have := join_adl xs [] 0 (by simp)
  rwa [List.append_nil] at this

/-! ## one byte that is another one -/
theorem S_set (xs : List Int) (i : Nat) (c : Int) (h : i < xs.length) : S (xs.set i c) = S xs + (c - xs.getD i 0) := by
  induction xs generalizing i with
  | nil => simp at h
  | cons x r ih =>
    cases i with
    | zero => simp [S]; omega
    | succ j =>
      have := ih j (by simpa using h)
      simp only [List.set_cons_succ, S, this, List.getD_cons_succ]; omega
theorem adl_low (s t : Int) (xs ys : List Int) (h : adl s xs = adl t ys) : lows s xs = lows t ys := by
  rw [← lo_adl, ← lo_adl, h]
theorem adl_set (xs : List Int) (i : Nat) (c : Int) (h : i < xs.length) (c0 : 0 ≤ c) (c1 : c ≤ 255) (d0 : 0 ≤ xs.getD i 0) (d1 : xs.getD i 0 ≤ 255) :
    adl 1 (xs.set i c) = adl 1 xs ↔ c = xs.getD i 0 := by
  constructor
  · intro e
    have := adl_low _ _ _ _ e
    unfold lows at this
    rw [S_set _ _ _ h] at this
    omega
  · intro e
    have : xs.set i c = xs := by
      apply List.ext_getElem?
      intro j
      rw [List.getElem?_set]
      by_cases hj : i = j
      · subst hj
        simp only [h, if_true]
        rw [e, List.getD_eq_getElem?_getD, List.getElem?_eq_getElem h]; rfl
      · simp [hj]
    rw [this]

/-! ## the document's own reckoning, place by place -/
/-- behind the first k places of n: what is laid to the high half -/
theorem ref_step (n : Int) (xs : List Int) (c b : Int) : (b % 65521 + (n - xs.length) % 65521 * c) % 65521 = (b + (n - xs.length) * c) % 65521 := by
  have := mul_mod_left (n - xs.length) c
  omega
def refHi (s n : Int) (xs : List Int) : Int := (hi s + n % 65521 * lo s + V n xs) % 65521
theorem refHi_bd (s n : Int) (xs : List Int) : 0 ≤ refHi s n xs ∧ refHi s n xs < 65521 := by unfold refHi; omega
theorem refHi_nil (s n : Int) : refHi s n [] = (hi s + n % 65521 * lo s) % 65521 := by simp [refHi, V]
theorem refHi_snoc (s n : Int) (xs : List Int) (c : Int) : (refHi s n xs + (n - xs.length) % 65521 * c) % 65521 = refHi s n (xs ++ [c]) := by
  unfold refHi
  rw [V_snoc]
  have := mul_mod_left (n - xs.length) c
  omega
theorem refHi_all (s : Int) (xs : List Int) : refHi s xs.length xs = highs s xs := by
  unfold refHi highs
  have := mul_mod_left (xs.length : Int) (lo s)
  omega
theorem ref_all (s : Int) (xs : List Int) (a : Int) (ha : a = lo s + S xs) : refHi s xs.length xs * 65536 + a % 65521 = adl s xs := by
  rw [refHi_all, ha]; rfl
theorem S_bd (xs : List Int) (h : ∀ n ∈ xs, 0 ≤ n ∧ n ≤ 255) : 0 ≤ S xs ∧ S xs ≤ 255 * xs.length := by
  induction xs with
  | nil => simp [S]
  | cons x r ih =>
    have h1 := h x (by simp)
    have h2 := ih (fun n hn => h n (by simp [hn]))
    simp only [S, List.length_cons]; omega
end Adl
end Go.Proofs.Yteohinhiemibgaa
