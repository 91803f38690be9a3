/- The plain law of layer 4: what packed bytes stand for, piece by piece. No program stands here. -/
namespace Go.Proofs.Ytekhcinafcbndaa
namespace Pb

/-- what the first piece stands for, and what is behind it -/
def piece : List Int → Option (List Int × List Int)
  | [] => none
  | c :: r =>
    if c = 128 then some ([], r)
    else if c < 128 then (if r.length ≤ c.toNat then none else some (r.take (c.toNat + 1), r.drop (c.toNat + 1)))
    else match r with
      | [] => none
      | v :: r' => some (List.replicate (257 - c).toNat v, r')

theorem piece_skip (r : List Int) : piece (128 :: r) = some ([], r) := rfl
theorem piece_short (c : Int) (r : List Int) (h : c < 128) (hl : r.length ≤ c.toNat) : piece (c :: r) = none := by
  simp only [piece]; rw [if_neg (by omega), if_pos h, if_pos hl]
theorem piece_lit (c : Int) (r : List Int) (h : c < 128) (hl : c.toNat < r.length) : piece (c :: r) = some (r.take (c.toNat + 1), r.drop (c.toNat + 1)) := by
  simp only [piece]; rw [if_neg (by omega), if_pos h, if_neg (by omega)]
theorem piece_bare (c : Int) (h : 128 < c) : piece [c] = none := by
  simp only [piece]; rw [if_neg (by omega), if_neg (by omega)]
theorem piece_run (c v : Int) (r : List Int) (h : 128 < c) : piece (c :: v :: r) = some (List.replicate (257 - c).toNat v, r) := by
  simp only [piece]; rw [if_neg (by omega), if_neg (by omega)]

theorem piece_lt {s p t : List Int} (h : piece s = some (p, t)) : t.length < s.length := by
  cases s with
  | nil => cases h
  | cons c r =>
    by_cases h1 : c = 128
    · subst h1
      rw [piece_skip] at h
      injection h with h
      injection h with _ h
      subst h
      simp
    · by_cases h2 : c < 128
      · by_cases h3 : r.length ≤ c.toNat
        · rw [piece_short c r h2 h3] at h; cases h
        · rw [piece_lit c r h2 (by omega)] at h
          injection h with h
          injection h with _ h
          subst h
          simp only [List.length_drop, List.length_cons]; omega
      · cases r with
        | nil => rw [piece_bare c (by omega)] at h; cases h
        | cons v r =>
          rw [piece_run c v r (by omega)] at h
          injection h with h
          injection h with _ h
          subst h
          simp only [List.length_cons]; omega

/-- so many bytes: what came, what is behind, the error's number -/
def decF : Nat → Nat → List Int → List Int → List Int × List Int × Int
  | 0, _, _, _ => ([], [], 2)
  | f + 1, n, out, s =>
    if n ≤ out.length then (out, s, 0)
    else match piece s with
      | none => ([], [], 2)
      | some (p, t) => if n < (out ++ p).length then ([], [], 5) else decF f n (out ++ p) t

theorem decF_more (f g n : Nat) (out s : List Int) (hf : s.length < f) (hg : s.length < g) : decF f n out s = decF g n out s := by
  induction f generalizing g out s with
  | zero => omega
  | succ f ih =>
    cases g with
    | zero => omega
    | succ g =>
      unfold decF
      split
      · rfl
      · split
        · rfl
        · rename_i p t hp
          have := piece_lt hp
          split
          · rfl
          · exact ih g _ _ (by omega) (by omega)

def dec (n : Nat) (out s : List Int) : List Int × List Int × Int := decF (s.length + 1) n out s
theorem dec_done (n : Nat) (out s : List Int) (h : n ≤ out.length) : dec n out s = (out, s, 0) := by
  unfold dec decF; simp [h]
theorem dec_cut (n : Nat) (out s : List Int) (h : out.length < n) (hp : piece s = none) : dec n out s = ([], [], 2) := by
  unfold dec decF; rw [if_neg (by omega), hp]
theorem dec_long (n : Nat) (out s p t : List Int) (h : out.length < n) (hp : piece s = some (p, t)) (hl : n < (out ++ p).length) : dec n out s = ([], [], 5) := by
  unfold dec decF; rw [if_neg (by omega), hp]; simp only [hl, if_true]
theorem dec_step (n : Nat) (out s p t : List Int) (h : out.length < n) (hp : piece s = some (p, t)) (hl : (out ++ p).length ≤ n) : dec n out s = dec n (out ++ p) t := by
  have hlt := piece_lt hp
  have e : dec n out s = decF s.length n (out ++ p) t := by
    show decF (s.length + 1) n out s = _
    rw [decF.eq_2, if_neg (by omega), hp]
    simp only []
    rw [if_neg (by omega)]
  rw [e]
  exact decF_more _ _ _ _ _ (by omega) (by omega)

/-! ## pieces: what each stands for, and how it is told -/
/-- a piece that is told by 'x' and stands for 'p': not empty; whatever stands behind it; cut off it isn't one -/
def Good (q : List Int × List Int) : Prop :=
  0 < q.1.length ∧ (∀ r, piece (q.2 ++ r) = some (q.1, r)) ∧ ∀ m, m < q.2.length → piece (q.2.take m) = none

theorem good_run (n : Nat) (v : Int) (h : 2 ≤ n) (h2 : n ≤ 128) : Good (List.replicate n v, [257 - (n : Int), v]) := by
  refine ⟨by simp; omega, fun r => ?_, fun m hm => ?_⟩
  · show piece ((257 - (n : Int)) :: v :: r) = _
    rw [piece_run _ _ _ (by omega), show (257 - (257 - (n : Int))).toNat = n from by omega]
  · match m, hm with
    | 0, _ => rfl
    | 1, _ => exact piece_bare _ (by omega)
    | m + 2, hm => exact absurd hm (by simp)

theorem good_lit (l : List Int) (h : 0 < l.length) (h2 : l.length ≤ 128) : Good (l, ((l.length : Int) - 1) :: l) := by
  have e : ((l.length : Int) - 1).toNat = l.length - 1 := by omega
  refine ⟨h, fun r => ?_, fun m hm => ?_⟩
  · show piece (((l.length : Int) - 1) :: (l ++ r)) = _
    rw [piece_lit _ _ (by omega) (by rw [e, List.length_append]; omega), e]
    rw [show l.length - 1 + 1 = l.length from by omega]
    simp
  · cases m with
    | zero => rfl
    | succ m =>
      simp only [List.take_succ_cons]
      simp only [List.length_cons] at hm
      exact piece_short _ _ (by omega) (by rw [e, List.length_take]; omega)

/-- 'x' packs 'b' -/
def Pk (b x : List Int) : Prop := ∃ qs : List (List Int × List Int), (∀ q ∈ qs, Good q) ∧ b = (qs.map (·.1)).flatten ∧ x = (qs.map (·.2)).flatten
theorem Pk.nil : Pk [] [] := ⟨[], by simp, rfl, rfl⟩
theorem Pk.snoc {b x : List Int} (h : Pk b x) {q : List Int × List Int} (hq : Good q) : Pk (b ++ q.1) (x ++ q.2) := by
  obtain ⟨qs, hg, rfl, rfl⟩ := h
  refine ⟨qs ++ [q], ?_, by simp, by simp⟩
  intro r hr
  rcases List.mem_append.1 hr with hr | hr
  · exact hg r hr
  · simp at hr; subst hr; exact hq
theorem Pk.append {a b x y : List Int} (h : Pk a x) (k : Pk b y) : Pk (a ++ b) (x ++ y) := by
  obtain ⟨qs, hg, rfl, rfl⟩ := h
  obtain ⟨rs, hr, rfl, rfl⟩ := k
  refine ⟨qs ++ rs, ?_, by simp, by simp⟩
  intro r h
  rcases List.mem_append.1 h with h | h
  · exact hg r h
  · exact hr r h

theorem good_packed {q : List Int × List Int} (h : Good q) : 0 < q.2.length := by
  have h1 := h.2.1 []
  rcases Nat.eq_zero_or_pos q.2.length with h0 | h0
  · have : q.2 = [] := List.eq_nil_of_length_eq_zero h0
    rw [this] at h1
    simp [piece] at h1
  · exact h0

theorem dec_good (qs : List (List Int × List Int)) (hg : ∀ q ∈ qs, Good q) (out r : List Int) (n : Nat) (hn : n = out.length + (qs.map (·.1)).flatten.length) :
    dec n out ((qs.map (·.2)).flatten ++ r) = (out ++ (qs.map (·.1)).flatten, r, 0) := by
  induction qs generalizing out with
  | nil => simp at hn ⊢; exact dec_done _ _ _ (by omega)
  | cons q qs ih =>
    have hq := hg q (by simp)
    have h0 := hq.1
    simp only [List.map_cons, List.flatten_cons, List.length_append, List.append_assoc] at hn ⊢
    rw [dec_step n out _ q.1 ((qs.map (·.2)).flatten ++ r) (by omega) (hq.2.1 _) (by rw [List.length_append]; omega)]
    rw [ih (fun q h => hg q (by simp [h])) (out ++ q.1) (by rw [List.length_append]; omega)]
    simp

theorem dec_good_cut (qs : List (List Int × List Int)) (hg : ∀ q ∈ qs, Good q) (out : List Int) (n m : Nat) (hn : n = out.length + (qs.map (·.1)).flatten.length)
    (hm : m < (qs.map (·.2)).flatten.length) : dec n out ((qs.map (·.2)).flatten.take m) = ([], [], 2) := by
  induction qs generalizing out m with
  | nil => simp at hm
  | cons q qs ih =>
    have hq := hg q (by simp)
    have h0 := hq.1
    simp only [List.map_cons, List.flatten_cons, List.length_append] at hn hm ⊢
    by_cases hlt : m < q.2.length
    · rw [List.take_append_of_le_length (by omega)]
      exact dec_cut _ _ _ (by omega) (hq.2.2 m hlt)
    · obtain ⟨j, rfl⟩ : ∃ j, m = q.2.length + j := ⟨m - q.2.length, by omega⟩
      rw [List.take_length_add_append]
      rw [dec_step n out _ q.1 _ (by omega) (hq.2.1 _) (by rw [List.length_append]; omega)]
      exact ih (fun q h => hg q (by simp [h])) (out ++ q.1) j (by rw [List.length_append]; omega) (by omega)

theorem Pk.dec {b x : List Int} (h : Pk b x) (r : List Int) : Pb.dec b.length [] (x ++ r) = (b, r, 0) := by
  obtain ⟨qs, hg, rfl, rfl⟩ := h
  simpa using dec_good qs hg [] r _ rfl
theorem Pk.cut {b x : List Int} (h : Pk b x) (m : Nat) (hm : m < x.length) : Pb.dec b.length [] (x.take m) = ([], [], 2) := by
  obtain ⟨qs, hg, rfl, rfl⟩ := h
  exact dec_good_cut qs hg [] _ m (by simp) hm
theorem Pk.none_ {x : List Int} (h : Pk [] x) : x = [] := by
  obtain ⟨qs, hg, hb, rfl⟩ := h
  cases qs with
  | nil => rfl
  | cons q qs =>
    have := (hg q (by simp)).1
    have e := congrArg List.length hb
    simp at e; omega
theorem Pk.some_ {b x : List Int} (h : Pk b x) (hb : b ≠ []) : 0 < x.length := by
  obtain ⟨qs, hg, rfl, rfl⟩ := h
  cases qs with
  | nil => simp at hb
  | cons q qs =>
    have := good_packed (hg q (by simp))
    simp; omega

/-! ## how many are alike at a beginning -/
def runF : Nat → Int → List Int → Nat
  | 0, _, _ => 0
  | _ + 1, _, [] => 0
  | f + 1, v, x :: r => if x = v then 1 + runF f v r else 0
def run (b : List Int) : Nat := runF 128 (b.getD 0 0) b
theorem runF_le (f : Nat) (v : Int) (l : List Int) : runF f v l ≤ f ∧ runF f v l ≤ l.length := by
  induction f generalizing l with
  | zero => simp [runF]
  | succ f ih =>
    cases l with
    | nil => simp [runF]
    | cons x r =>
      have := ih r
      unfold runF
      split
      · simp; omega
      · simp
theorem run_le (b : List Int) : run b ≤ 128 ∧ run b ≤ b.length := runF_le _ _ _
theorem runF_take (f : Nat) (v : Int) (l : List Int) : l.take (runF f v l) = List.replicate (runF f v l) v := by
  induction f generalizing l with
  | zero => simp [runF]
  | succ f ih =>
    cases l with
    | nil => simp [runF]
    | cons x r =>
      unfold runF
      split
      · rename_i h
        rw [Nat.add_comm 1, List.take_succ_cons, List.replicate_succ, ih, h]
      · simp
theorem run_take (b : List Int) : b.take (run b) = List.replicate (run b) (b.getD 0 0) := runF_take _ _ _
/-- how the loop that counts comes to it: the first n are alike -/
theorem runF_eq (f n : Nat) (v : Int) (l : List Int) (h1 : ∀ i, i < n → l.getD i 0 = v) (hn : n ≤ l.length) (hf : n ≤ f)
    (hend : n = f ∨ n = l.length ∨ l.getD n 0 ≠ v) : runF f v l = n := by
  induction n generalizing f l with
  | zero =>
    cases f with
    | zero => rfl
    | succ f =>
      cases l with
      | nil => rfl
      | cons x r =>
        unfold runF
        rcases hend with h | h | h
        · omega
        · simp at h
        · rw [if_neg (by simpa using h)]
  | succ n ih =>
    cases f with
    | zero => omega
    | succ f =>
      cases l with
      | nil => simp at hn
      | cons x r =>
        have hx : x = v := by simpa using h1 0 (by omega)
        unfold runF
        rw [if_pos hx, ih f r (fun i hi => by simpa using h1 (i + 1) (by omega)) (by simpa using hn) (by omega) ?_]
        · omega
        · rcases hend with h | h | h
          · exact .inl (by omega)
          · exact .inr (.inl (by simpa using h))
          · exact .inr (.inr (by simpa using h))

/-! ## how long what is packed is: 'k' bytes are packed into 'm', what is left is 'rest' -/
def Ex (k m : Nat) (rest : List Int) : Prop :=
  ∃ f : Nat, 128 * f ≤ k ∧ (m ≤ k + f ∨ (m ≤ k + f + 1 ∧ 128 * f + 1 ≤ k ∧ (rest = [] ∨ 3 ≤ run rest)))
theorem Ex.zero (rest : List Int) : Ex 0 0 rest := ⟨0, by omega, .inl (by omega)⟩
theorem Ex.run {k m n : Nat} {rest rest' : List Int} (h : Ex k m rest) (hn : n = Pb.run rest) (h2 : 2 ≤ n) : Ex (k + n) (m + 2) rest' := by
  obtain ⟨f, hf, h | ⟨h, h', h3 | h3⟩⟩ := h
  · exact ⟨f, by omega, .inl (by omega)⟩
  · subst h3; have := (run_le []).2; simp at this; omega
  · exact ⟨f, by omega, .inl (by omega)⟩
theorem Ex.lit {k m n : Nat} {rest rest' : List Int} (h : Ex k m rest) (hr : Pb.run rest < 2) (hne : rest ≠ []) (h1 : 1 ≤ n) (hend : n = 128 ∨ rest' = [] ∨ 3 ≤ Pb.run rest') :
    Ex (k + n) (m + (n + 1)) rest' := by
  obtain ⟨f, hf, h | ⟨h, h', h3 | h3⟩⟩ := h
  · rcases hend with he | he
    · exact ⟨f + 1, by omega, .inl (by omega)⟩
    · exact ⟨f, by omega, .inr ⟨by omega, by omega, he⟩⟩
  · exact absurd h3 hne
  · omega
theorem Ex.all {k m : Nat} {rest : List Int} (h : Ex k m rest) : m ≤ k + (k + 127) / 128 := by
  obtain ⟨f, hf, h | ⟨h, h', _⟩⟩ := h <;> omega
end Pb
end Go.Proofs.Ytekhcinafcbndaa
