/- Plain steps of the plain 'exp'. -/
import Derived.Test.YtfaekhbofgkdjaaT
namespace Go.Proofs.Ytfaekhbofgkdjaa
open Go.RowKit

theorem info5 : (Try.prog.info? 5).map (fun i => (i.zero, i.size, i.bytes)) = some (some (.int .u8 0), 1, 1) := by kernel_rfl

namespace Lz
theorem drop_at {ts : List Tok} {k : Nat} {t : Tok} (h : ts[k]? = some t) : ts.drop k = t :: ts.drop (k + 1) := by
  have hk : k < ts.length := by
    rcases Nat.lt_or_ge k ts.length with h1 | h1
    · exact h1
    · rw [List.getElem?_eq_none h1] at h; cases h
  rw [List.drop_eq_getElem_cons hk]
  rw [List.getElem?_eq_getElem hk] at h
  injection h with h
  rw [h]
end Lz
section
variable {most : Int} {ts : List Lz.Tok} {os p : List Int} {k m : Nat} {t : Lz.Tok} {e : Int}
theorem ex_done {n : Nat} (hn : ts.length = n) (hk : n ≤ k) (h : Lz.exp ts [] most = Lz.exp (ts.drop k) os most) : Lz.exp ts [] most = (0, os) := by
  rw [h, List.drop_of_length_le (by omega)]; rfl
theorem ex_err (h : Lz.exp ts [] most = Lz.exp (ts.drop k) os most) (ht : ts[k]? = some t) (hs : Lz.step os most t = (e, [])) (he : e ≠ 0) : Lz.exp ts [] most = (e, []) := by
  rw [h, Lz.drop_at ht, Lz.exp_err hs he]
theorem ex_next (h : Lz.exp ts [] most = Lz.exp (ts.drop k) os most) (ht : ts[k]? = some t) (hs : Lz.step os most t = (0, p)) : Lz.exp ts [] most = Lz.exp (ts.drop (k + 1)) p most := by
  rw [h, Lz.drop_at ht, Lz.exp_ok hs]
end
theorem cpy_bd {os : List Int} (h : ∀ y ∈ os, 0 ≤ y ∧ y ≤ 255) (k d : Nat) : ∀ y ∈ Lz.cpy k d os, 0 ≤ y ∧ y ≤ 255 := by
  induction k generalizing os with
  | zero => exact h
  | succ k ih =>
    unfold Lz.cpy
    refine ih fun y hy => ?_
    rcases List.mem_append.1 hy with hy | hy
    · exact h y hy
    · simp only [List.mem_singleton] at hy
      subst hy
      rw [List.getD_eq_getElem?_getD]
      rcases hx : os[os.length - d]? with _ | x
      · simp
      · simpa using h x (List.mem_of_getElem? hx)
end Go.Proofs.Ytfaekhbofgkdjaa
