/- The plain law of layer 9: what tokens stand for. No program stands here. -/
namespace Go.Proofs.Ytfaekhbofgkdjaa
namespace Lz

/-- a token: its byte, its length, how far back -/
structure Tok where
  lit : Int
  len : Int
  dist : Int

def cpy : Nat → Nat → List Int → List Int
  | 0, _, out => out
  | k + 1, d, out => cpy k d (out ++ [out.getD (out.length - d) 0])
theorem cpy_len (k d : Nat) (out : List Int) : (cpy k d out).length = out.length + k := by
  induction k generalizing out with
  | zero => rfl
  | succ k ih => unfold cpy; rw [ih]; simp; omega
/-- the last round stands last -/
theorem cpy_succ (k d : Nat) (out : List Int) : cpy (k + 1) d out = cpy k d out ++ [(cpy k d out).getD ((cpy k d out).length - d) 0] := by
  induction k generalizing out with
  | zero => rfl
  | succ k ih => rw [cpy, ih]; rfl

/-- one token: the error's number, or what is there then -/
def step (out : List Int) (most : Int) (t : Tok) : Int × List Int :=
  if t.len ≠ 0 ∧ (t.len < 3 ∨ t.len > 258 ∨ t.dist < 1 ∨ t.dist > 32768) then (1, [])
  else if t.len ≠ 0 ∧ t.dist > out.length then (3, [])
  else if max t.len 1 > most - out.length then (8, [])
  else if t.len = 0 then (0, out ++ [t.lit])
  else (0, cpy t.len.toNat t.dist.toNat out)
def exp : List Tok → List Int → Int → Int × List Int
  | [], out, _ => (0, out)
  | t :: ts, out, most => if (step out most t).1 = 0 then exp ts (step out most t).2 most else ((step out most t).1, [])

theorem step_arg {out : List Int} {most : Int} {t : Tok} (h0 : t.len ≠ 0) (h : t.len < 3 ∨ t.len > 258 ∨ t.dist < 1 ∨ t.dist > 32768) : step out most t = (1, []) := by
  unfold step; rw [if_pos ⟨h0, h⟩]
theorem step_form {out : List Int} {most : Int} {t : Tok} (h0 : t.len ≠ 0) (h : ¬ (t.len < 3 ∨ t.len > 258 ∨ t.dist < 1 ∨ t.dist > 32768)) (hd : t.dist > out.length) : step out most t = (3, []) := by
  unfold step; rw [if_neg (fun x => h x.2), if_pos ⟨h0, hd⟩]
theorem step_over {out : List Int} {most : Int} {t : Tok} (_h0 : t.len ≠ 0) (h : ¬ (t.len < 3 ∨ t.len > 258 ∨ t.dist < 1 ∨ t.dist > 32768)) (hd : ¬ t.dist > out.length)
    (hm : t.len > most - out.length) : step out most t = (8, []) := by
  unfold step; rw [if_neg (fun x => h x.2), if_neg (fun x => hd x.2), if_pos (by omega)]
theorem step_copy {out : List Int} {most : Int} {t : Tok} (h0 : t.len ≠ 0) (h : ¬ (t.len < 3 ∨ t.len > 258 ∨ t.dist < 1 ∨ t.dist > 32768)) (hd : ¬ t.dist > out.length)
    (hm : ¬ t.len > most - out.length) : step out most t = (0, cpy t.len.toNat t.dist.toNat out) := by
  unfold step; rw [if_neg (fun x => h x.2), if_neg (fun x => hd x.2), if_neg (by omega), if_neg h0]
theorem step_full {out : List Int} {most : Int} {t : Tok} (h0 : t.len = 0) (hm : 1 > most - out.length) : step out most t = (8, []) := by
  unfold step; rw [if_neg (fun x => x.1 h0), if_neg (fun x => x.1 h0), if_pos (by omega)]
theorem step_lit {out : List Int} {most : Int} {t : Tok} (h0 : t.len = 0) (hm : ¬ 1 > most - out.length) : step out most t = (0, out ++ [t.lit]) := by
  unfold step; rw [if_neg (fun x => x.1 h0), if_neg (fun x => x.1 h0), if_neg (by omega), if_pos h0]
theorem exp_ok {t : Tok} {ts : List Tok} {out o : List Int} {most : Int} (h : step out most t = (0, o)) : exp (t :: ts) out most = exp ts o most := by
  simp only [exp, h, if_true]
theorem exp_err {t : Tok} {ts : List Tok} {out o : List Int} {most e : Int} (h : step out most t = (e, o)) (he : e ≠ 0) : exp (t :: ts) out most = (e, []) := by
  simp only [exp, h]; rw [if_neg he]

theorem exp_append (ts us : List Tok) (out : List Int) (most : Int) :
    exp (ts ++ us) out most = if (exp ts out most).1 = 0 then exp us (exp ts out most).2 most else exp ts out most := by
  induction ts generalizing out with
  | nil => simp [exp]
  | cons t ts ih =>
    simp only [List.cons_append, exp]
    split
    · exact ih _
    · rfl

/-- 'ts' tell 'b', whatever stands ahead of them; where there is no room ErrLimit comes -/
def Tk (ts : List Tok) (b : List Int) : Prop :=
  ∀ (pre : List Int) (most : Int), ((pre.length : Int) + b.length ≤ most → exp ts pre most = (0, pre ++ b)) ∧
    ((pre.length : Int) ≤ most → most < (pre.length : Int) + b.length → exp ts pre most = (8, []))
theorem Tk.nil : Tk [] [] := fun pre most => ⟨fun _ => by simp [exp], fun h h' => by simp at h'; omega⟩
theorem Tk.append {ts us : List Tok} {a b : List Int} (h : Tk ts a) (k : Tk us b) : Tk (ts ++ us) (a ++ b) := by
  intro pre most
  constructor
  · intro hm
    simp only [List.length_append] at hm
    rw [exp_append, (h pre most).1 (by omega)]
    simp only [if_true]
    rw [(k (pre ++ a) most).1 (by simp; omega)]
    simp
  · intro h0 hm
    simp only [List.length_append] at hm
    rw [exp_append]
    by_cases hc : (pre.length : Int) + a.length ≤ most
    · rw [(h pre most).1 hc]
      simp only [if_true]
      exact (k (pre ++ a) most).2 (by simp; omega) (by simp; omega)
    · rw [(h pre most).2 h0 (by omega)]
      simp
theorem tk_lit (c : Int) : Tk [⟨c, 0, 0⟩] [c] := by
  intro pre most
  constructor
  · intro hm
    simp only [List.length_cons, List.length_nil] at hm
    rw [exp_ok (step_lit rfl (by omega))]; rfl
  · intro h0 hm
    simp only [List.length_cons, List.length_nil] at hm
    exact exp_err (step_full rfl (by omega)) (by decide)

/-- a copy tells what lies behind: 'b' are the bytes, the first i are told, n more are alike from k on -/
theorem cpy_slice (b : List Int) (i k n : Nat) (pre : List Int) (hk : k < i) (hn : i + n ≤ b.length) (ha : ∀ j, j < n → b.getD (i + j) 0 = b.getD (k + j) 0) :
    cpy n (i - k) (pre ++ b.take i) = pre ++ b.take (i + n) := by
  induction n with
  | zero => rfl
  | succ n ih =>
    rw [cpy_succ, ih (by omega) (fun j hj => ha j (by omega))]
    have hl : (pre ++ b.take (i + n)).length = pre.length + (i + n) := by simp; omega
    rw [hl]
    have e1 : pre.length + (i + n) - (i - k) = pre.length + (k + n) := by omega
    rw [e1]
    have e2 : (pre ++ b.take (i + n)).getD (pre.length + (k + n)) 0 = b.getD (i + n) 0 := by
      rw [ha n (by omega), List.getD_eq_getElem?_getD, List.getElem?_append_right (by omega), List.getD_eq_getElem?_getD]
      rw [show pre.length + (k + n) - pre.length = k + n from by omega, List.getElem?_take]
      rw [if_pos (by omega)]
    rw [e2, List.append_assoc]
    congr 1
    rw [← Nat.add_assoc, List.take_succ_eq_append_getElem (by omega : i + n < b.length)]
    rw [List.getD_eq_getElem?_getD, List.getElem?_eq_getElem (by omega)]
    rfl

/-- one copy more behind tokens that tell the first i -/
theorem Tk.copy {ts : List Tok} {b : List Int} {i k n : Nat} (h : Tk ts (b.take i)) (hk : k < i) (hw : i - k ≤ 32768) (h3 : 3 ≤ n) (h258 : n ≤ 258) (hn : i + n ≤ b.length)
    (ha : ∀ j, j < n → b.getD (i + j) 0 = b.getD (k + j) 0) : Tk (ts ++ [⟨0, n, ((i - k : Nat) : Int)⟩]) (b.take (i + n)) := by
  intro pre most
  have hli : (b.take i).length = i := by simp; omega
  have hln : (b.take (i + n)).length = i + n := by simp; omega
  have hst : (pre.length : Int) + i ≤ most → exp [⟨0, n, ((i - k : Nat) : Int)⟩] (pre ++ b.take i) most = if (pre.length : Int) + (i + n : Nat) ≤ most then (0, pre ++ b.take (i + n)) else (8, []) := by
    intro hm
    have hlp : ((pre ++ b.take i).length : Int) = pre.length + i := by rw [List.length_append, hli]; omega
    have h0 : ((⟨0, n, ((i - k : Nat) : Int)⟩ : Tok)).len ≠ 0 := by show (n : Int) ≠ 0; omega
    have h1 : ¬ (((⟨0, n, ((i - k : Nat) : Int)⟩ : Tok)).len < 3 ∨ ((⟨0, n, ((i - k : Nat) : Int)⟩ : Tok)).len > 258 ∨ ((⟨0, n, ((i - k : Nat) : Int)⟩ : Tok)).dist < 1 ∨ ((⟨0, n, ((i - k : Nat) : Int)⟩ : Tok)).dist > 32768) := by
      show ¬ ((n : Int) < 3 ∨ (n : Int) > 258 ∨ ((i - k : Nat) : Int) < 1 ∨ ((i - k : Nat) : Int) > 32768); omega
    have h2 : ¬ ((⟨0, n, ((i - k : Nat) : Int)⟩ : Tok)).dist > (pre ++ b.take i).length := by show ¬ ((i - k : Nat) : Int) > _; omega
    by_cases hc : (pre.length : Int) + (i + n : Nat) ≤ most
    · rw [if_pos hc, exp_ok (step_copy h0 h1 h2 (by show ¬ (n : Int) > _; omega))]
      show (0, cpy ((n : Int)).toNat (((i - k : Nat) : Int)).toNat (pre ++ b.take i)) = _
      rw [Int.toNat_natCast, Int.toNat_natCast, cpy_slice b i k n pre hk hn ha]
    · rw [if_neg hc, exp_err (step_over h0 h1 h2 (by show (n : Int) > _; omega)) (by decide)]
  constructor
  · intro hm
    rw [hln] at hm
    rw [exp_append, (h pre most).1 (by rw [hli]; omega)]
    simp only [if_true]
    rw [hst (by omega), if_pos hm]
  · intro h0 hm
    rw [hln] at hm
    rw [exp_append]
    by_cases hc : (pre.length : Int) + i ≤ most
    · rw [(h pre most).1 (by rw [hli]; exact hc)]
      simp only [if_true]
      rw [hst hc, if_neg (by omega)]
    · rw [(h pre most).2 h0 (by rw [hli]; omega)]
      simp
theorem Tk.lit {ts : List Tok} {b : List Int} {i : Nat} (h : Tk ts (b.take i)) (hi : i < b.length) : Tk (ts ++ [⟨b.getD i 0, 0, 0⟩]) (b.take (i + 1)) := by
  have := h.append (tk_lit (b.getD i 0))
  rw [List.take_succ_eq_append_getElem hi]
  rwa [List.getD_eq_getElem?_getD, List.getElem?_eq_getElem hi] at this ⊢
end Lz
end Go.Proofs.Ytfaekhbofgkdjaa
