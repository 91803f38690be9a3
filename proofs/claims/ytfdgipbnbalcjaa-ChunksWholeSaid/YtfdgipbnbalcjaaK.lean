/- The plain law of ChunksWhole: what has been seen behind so many parts, rows and pixels. -/
import Derived.Test.YtfdgipbnbalcjaaM
namespace Go.Proofs.Ytfdgipbnbalcjaa
namespace Ch

theorem div_at {x c q : Int} (_ : 1 ≤ c) (h0 : q * c ≤ x) (h1 : x < q * c + c) : x / c = q := by
  have e := (at_idx (n := c) (q := q) (r := x - q * c) (by omega) (by omega)).1
  rwa [show q * c + (x - q * c) = x by omega] at e
/-- the pixels of a part are those that lie in its rectangle -/
theorem idx_iff {a b : Int} {t : Bool} {c d x y i X Y V H : Int} (h : Right a b t c d) (x0 : 0 ≤ x) (x1 : x < a) (y0 : 0 ≤ y) (y1 : y < b)
    (hX : X = partX a c i) (hY : Y = partY a c d i) (hV : V = mini c (a - X)) (hH : H = mini (partH b t d Y) (b - Y)) :
    idx a c d x y = i ↔ X ≤ x ∧ x < X + V ∧ Y ≤ y ∧ y < Y + H := by
  obtain ⟨a0, b0, a1, b1, ab, c0, d0, c1, d1⟩ := h.bd
  constructor
  · intro e
    obtain ⟨eX, eY, r0, r1, s0, s1⟩ := find_ok h x0 x1 y0 y1
    rw [e, ← hX] at eX r1
    rw [e, ← hY] at eY s1
    rw [← hV] at r1
    rw [← hH] at s1
    omega
  · rintro ⟨u0, u1, v0, v1⟩
    have hVc : V ≤ c := by rw [hV]; exact (mini_bd _ _).1
    have hHd : H ≤ d := by
      rw [hH]
      have h1 := (mini_bd (partH b t d Y) (b - Y)).1
      have h2 : partH b t d Y ≤ d := by
        unfold partH
        split
        · omega
        · exact (mini_bd _ _).1
      omega
    have e1 : x / c = i % cnt a c := div_at c0 (by rw [hX] at u0; exact u0) (by rw [hX] at u1; unfold partX at u1; omega)
    have e2 : y / d = i / cnt a c := div_at d0 (by rw [hY] at v0; exact v0) (by rw [hY] at v1; unfold partY at v1; omega)
    unfold idx
    rw [e1, e2, Int.mul_comm]
    have := Int.mul_ediv_add_emod i (cnt a c)
    omega

/-- the part in which the j-th pixel lies -/
def pix (a c d : Int) (j : Nat) : Int := idx a c d (j % a) (j / a)
/-- what has been seen behind i parts -/
def sn (a c d i : Int) (j : Nat) : Bool := decide (pix a c d j < i)
/-- .. and behind the rows of part i ahead of row y, and its pixels in row y ahead of x -/
def snp (a c d i y x : Int) (j : Nat) : Bool := decide (pix a c d j < i ∨ (pix a c d j = i ∧ ((j : Int) / a < y ∨ ((j : Int) / a = y ∧ (j : Int) % a < x))))
theorem pix_in {a b : Int} {j N : Nat} (a0 : 1 ≤ a) (hN : a * b = N) (hj : j < N) : 0 ≤ (j : Int) % a ∧ (j : Int) % a < a ∧ 0 ≤ (j : Int) / a ∧ (j : Int) / a < b := by
  refine ⟨Int.emod_nonneg _ (by omega), Int.emod_lt_of_pos _ (by omega), Int.ediv_nonneg (by omega) (by omega), ?_⟩
  rw [Int.ediv_lt_iff_lt_mul (by omega), Int.mul_comm, hN]; omega
section
variable {a b : Int} {t : Bool} {c d i X Y V H : Int} {N : Nat}
theorem sn_none (j : Nat) (h : Right a b t c d) (hN : a * b = N) (hj : j < N) : sn a c d 0 j = false := by
  obtain ⟨a0, b0, a1, b1, ab, c0, d0, c1, d1⟩ := h.bd
  obtain ⟨p0, p1, p2, p3⟩ := pix_in a0 hN hj
  have := (idx_ok h p0 p1 p2 p3).1
  unfold sn pix
  exact decide_eq_false (by omega)
theorem sn_all (j : Nat) (h : Right a b t c d) (hN : a * b = N) (hj : j < N) : sn a c d (cnt a c * cnt b d) j = true := by
  obtain ⟨a0, b0, a1, b1, ab, c0, d0, c1, d1⟩ := h.bd
  obtain ⟨p0, p1, p2, p3⟩ := pix_in a0 hN hj
  have := (idx_ok h p0 p1 p2 p3).2.1
  unfold sn pix
  exact decide_eq_true this
theorem snp_open (j : Nat) (h : Right a b t c d) (hN : a * b = N) (hj : j < N) (hX : X = partX a c i) (hY : Y = partY a c d i) (hV : V = mini c (a - X)) (hH : H = mini (partH b t d Y) (b - Y)) :
    sn a c d i j = snp a c d i Y X j := by
  obtain ⟨a0, b0, a1, b1, ab, c0, d0, c1, d1⟩ := h.bd
  obtain ⟨p0, p1, p2, p3⟩ := pix_in a0 hN hj
  have k := idx_iff h p0 p1 p2 p3 hX hY hV hH
  unfold sn snp
  refine decide_eq_decide.2 ⟨Or.inl, fun o => ?_⟩
  rcases o with o | ⟨e, o⟩
  · exact o
  · have := k.1 e; omega
theorem snp_close (j : Nat) (h : Right a b t c d) (hN : a * b = N) (hj : j < N) (hX : X = partX a c i) (hY : Y = partY a c d i) (hV : V = mini c (a - X)) (hH : H = mini (partH b t d Y) (b - Y)) :
    snp a c d i (Y + H) X j = sn a c d (i + 1) j := by
  obtain ⟨a0, b0, a1, b1, ab, c0, d0, c1, d1⟩ := h.bd
  obtain ⟨p0, p1, p2, p3⟩ := pix_in a0 hN hj
  have k := idx_iff h p0 p1 p2 p3 hX hY hV hH
  unfold sn snp
  refine decide_eq_decide.2 ⟨fun o => ?_, fun o => ?_⟩
  · rcases o with o | ⟨e, _⟩ <;> omega
  · rcases Int.lt_or_le (pix a c d j) i with o' | o'
    · exact .inl o'
    · have e : pix a c d j = i := by omega
      have := k.1 e
      exact .inr ⟨e, by omega⟩
theorem snp_row (j : Nat) (y : Int) (h : Right a b t c d) (hN : a * b = N) (hj : j < N) (hX : X = partX a c i) (hY : Y = partY a c d i) (hV : V = mini c (a - X)) (hH : H = mini (partH b t d Y) (b - Y)) :
    snp a c d i y (X + V) j = snp a c d i (y + 1) X j := by
  obtain ⟨a0, b0, a1, b1, ab, c0, d0, c1, d1⟩ := h.bd
  obtain ⟨p0, p1, p2, p3⟩ := pix_in a0 hN hj
  have k := idx_iff h p0 p1 p2 p3 hX hY hV hH
  unfold snp
  refine decide_eq_decide.2 ⟨fun o => ?_, fun o => ?_⟩
  · rcases o with o | ⟨e, o⟩
    · exact .inl o
    · exact .inr ⟨e, by omega⟩
  · rcases o with o | ⟨e, o⟩
    · exact .inl o
    · have := k.1 e
      exact .inr ⟨e, by omega⟩
theorem place_ok {x y : Int} {p : Nat} (_ : 1 ≤ a) (x0 : 0 ≤ x) (x1 : x < a) (hp : (p : Int) = y * a + x) : (p : Int) / a = y ∧ (p : Int) % a = x := by
  rw [hp]; exact at_idx x0 x1
theorem snp_here {x y : Int} {p : Nat} (h : Right a b t c d) (hX : X = partX a c i) (hY : Y = partY a c d i) (hV : V = mini c (a - X)) (hH : H = mini (partH b t d Y) (b - Y))
    (X0 : 0 ≤ X) (Y0 : 0 ≤ Y) (x0 : X ≤ x) (x1 : x < X + V) (y0 : Y ≤ y) (y1 : y < Y + H) (x2 : x < a) (y2 : y < b) (hp : (p : Int) = y * a + x) : snp a c d i y x p = false := by
  obtain ⟨a0, b0, a1, b1, ab, c0, d0, c1, d1⟩ := h.bd
  obtain ⟨e1, e2⟩ := place_ok a0 (by omega) x2 hp
  have k := (idx_iff h (by omega) x2 (by omega) y2 hX hY hV hH).2 ⟨x0, x1, y0, y1⟩
  unfold snp pix
  rw [e1, e2, k]
  exact decide_eq_false (by omega)
theorem snp_next (j : Nat) {x y : Int} {p : Nat} (h : Right a b t c d) (hX : X = partX a c i) (hY : Y = partY a c d i) (hV : V = mini c (a - X)) (hH : H = mini (partH b t d Y) (b - Y))
    (X0 : 0 ≤ X) (Y0 : 0 ≤ Y) (x0 : X ≤ x) (x1 : x < X + V) (y0 : Y ≤ y) (y1 : y < Y + H) (x2 : x < a) (y2 : y < b) (hp : (p : Int) = y * a + x) :
    (if j = p then true else snp a c d i y x j) = snp a c d i y (x + 1) j := by
  obtain ⟨a0, b0, a1, b1, ab, c0, d0, c1, d1⟩ := h.bd
  obtain ⟨e1, e2⟩ := place_ok a0 (by omega) x2 hp
  have k := (idx_iff h (by omega) x2 (by omega) y2 hX hY hV hH).2 ⟨x0, x1, y0, y1⟩
  split
  · next e =>
    subst e
    unfold snp pix
    rw [e1, e2, k]
    exact (decide_eq_true (by omega)).symm
  · next e =>
    have hne : ¬ ((j : Int) / a = y ∧ (j : Int) % a = x) := fun ⟨k1, k2⟩ => e (by
      have := Int.mul_ediv_add_emod (j : Int) a
      rw [k1, k2, Int.mul_comm] at this
      omega)
    unfold snp
    refine decide_eq_decide.2 ⟨fun o => ?_, fun o => ?_⟩
    · rcases o with o | ⟨e, o⟩
      · exact .inl o
      · exact .inr ⟨e, by omega⟩
    · rcases o with o | ⟨e, o⟩
      · exact .inl o
      · exact .inr ⟨e, by omega⟩
end
end Ch
end Go.Proofs.Ytfdgipbnbalcjaa
