/- The chapter's example; tokens behind tokens. -/
import Derived.Test.YtfaekhbofgkdjaaB
import Derived.Test.YtfaekhbofgkdjaaC
import Derived.Test.YtfaekhbofgkdjaaF
namespace Go.Proofs.Ytfaekhbofgkdjaa
open Go.RowKit

theorem expand_is {A : Option Addr} {n c B : Nat} {most : Int} {ts : List Lz.Tok} {er : Int} {ys : List Int} {w : World} (he : Lz.exp ts [] most = (er, ys)) (ht : Ts w B A n ts) (hn : n ≤ 8000) (hB : B ≤ w.heap.size) (hm0 : -9223372036854775808 ≤ most) (hm : most ≤ 100000) :
    Calls Try.prog 8 #[.slice A n c, .int .i64 most] w fun e w' => ∃ A' m c', e = .returned (.tuple #[.slice A' m c', .int .i64 er]) ∧ Bs w' w'.heap.size A' m ys ∧ Below w.heap.size w w' := by
  refine (expand_any A n c B most ts w ht hn hB hm0 hm).mono ?_
  rintro e w' ⟨A', m, c', ys', er', rfl, h, hb', hw⟩
  rw [he] at h
  injection h with h1 h2
  subst h1 h2
  exact ⟨A', m, c', rfl, hb', hw⟩
theorem refexp_is {A : Option Addr} {n c B : Nat} {most : Int} {ts : List Lz.Tok} {er : Int} {ys : List Int} {w : World} (he : Lz.exp ts [] most = (er, ys)) (ht : Ts w B A n ts) (hn : n ≤ 8000) (hB : B ≤ w.heap.size) (hm0 : -9223372036854775808 ≤ most) (hm : most ≤ 100000) :
    Calls Try.prog 9 #[.slice A n c, .int .i64 most] w fun e w' => e = .returned (.tuple #[.string (strOfNums ys), .int .i64 er]) ∧ Below w.heap.size w w' := by
  refine (refexp_any A n c B most ts w ht hn hB hm0 hm).mono ?_
  rintro e w' ⟨ys', er', rfl, h, hw⟩
  rw [he] at h
  injection h with h1 h2
  subst h1 h2
  exact ⟨rfl, hw⟩
/-- string(..) of a slice of bytes -/
theorem conv_of {w : World} {B : Nat} {A : Option Addr} {n : Nat} {xs : List Int} (h : Bs w B A n xs) (c : Nat) : (convert 22 9 (.slice A n c)).run Try.prog w = .ok (.string (strOfNums xs)) w :=
  h.run_string Try.underlying22 Try.underlying5 Try.underlying9 c

def abc : List Int := [97, 98, 99, 97, 98, 99, 97, 98, 99]
theorem abc_cells (w : World) (fr : Nat × Nat) : ∀ j, j < 9 → (w.alloc (.cells #[.int .u8 97, .int .u8 98, .int .u8 99, .int .u8 97, .int .u8 98, .int .u8 99, .int .u8 97, .int .u8 98, .int .u8 99] 5 fr)).cell? ⟨w.heap.size, 0 + j, none⟩ = some (.int .u8 (abc.getD j 0)) := by
  intro j hj
  rw [Nat.zero_add, World.cell?_alloc_mark]
  match j, hj with
  | 0, _ => rfl
  | 1, _ => rfl
  | 2, _ => rfl
  | 3, _ => rfl
  | 4, _ => rfl
  | 5, _ => rfl
  | 6, _ => rfl
  | 7, _ => rfl
  | 8, _ => rfl
  | j + 9, h => omega
theorem abc_bs (w : World) (fr : Nat × Nat) : Bs (w.alloc (.cells #[.int .u8 97, .int .u8 98, .int .u8 99, .int .u8 97, .int .u8 98, .int .u8 99, .int .u8 97, .int .u8 98, .int .u8 99] 5 fr)) (w.heap.size + 1) (some ⟨w.heap.size, 0, none⟩) 9 abc :=
  Bs.of_cells rfl (by decide) (by omega) (abc_cells w fr)
def exTs : List Lz.Tok := [⟨97, 0, 0⟩, ⟨0, 3, 1⟩]
theorem ex_ts {w : World} {fr : Nat × Nat} {g : Nat} (hg : w.heap.size = g) : Ts (w.alloc (.cells #[.int .u8 97, .int .i64 0, .int .i64 0, .int .u8 0, .int .i64 3, .int .i64 1] 33 fr)) (g + 1) (some ⟨g, 0, none⟩) 2 exTs := by
  subst hg
  refine ⟨rfl, ?_, fun _ => ⟨w.heap.size, 0, rfl, by omega, fun j t ht => ?_⟩⟩
  · intro t ht
    simp only [exTs, List.mem_cons, List.not_mem_nil, or_false] at ht
    rcases ht with rfl | rfl <;> (simp only [TokOk]; omega)
  · rw [Nat.zero_add, World.cell?_alloc_mark, World.cell?_alloc_mark, World.cell?_alloc_mark]
    match j, ht with
    | 0, ht => injection ht with ht; subst ht; exact ⟨rfl, rfl, rfl⟩
    | 1, ht => injection ht with ht; subst ht; exact ⟨rfl, rfl, rfl⟩
    | j + 2, ht => simp [exTs] at ht
theorem ex_exp : Lz.exp exTs [] 9 = (0, [97, 97, 97, 97]) := by decide

set_option maxRecDepth 10000 in
set_option maxHeartbeats 1000000 in
theorem lives_any (w : World) : Calls Try.prog 6 #[] w fun e w' => e = .returned (.bool true) ∧ Below w.heap.size w w' := by
  have kc := fun (w : World) (C : Array Value) (n c : Nat) => Lib.run_convert_bytes_const (P := Try.prog) w 22 5 C n c Try.underlying22 Try.underlying5
  go_enter Try.func6, Try.ntmps6
  go_wp2_with fail
  refine (tokens_any _ 9 9 _ _ _ (abc_bs w _) (by omega) (by omega) (by simp)).mono ?_
  rintro e w1 ⟨A1, m1, c1, ts, rfl, hc1, hm1, own1, hts, htk, hb1⟩
  clear kc
  have hb1' := Lib.hid (((Below.refl _ w).alloc (Nat.le_refl _) _).trans (hb1.mono (by simp)))
  have HT1 := Lib.hid (Ts.of_own own1 (fun t ht => (hts t ht).1))
  have HTK : Hid (Lz.exp ts [] 100 = (0, abc)) := Lib.hid ((htk [] 100).1 (by decide))
  have hs1 := hb1'.out.size
  clear own1 hts htk hb1
  go_wp2_with fail
  refine (expand_is ex_exp (ex_ts rfl) (by omega) (by simp) (by omega) (by omega)).mono ?_
  rintro e w2 ⟨A2, m2, c2, rfl, hr2, hb2⟩
  have hb2' := Lib.hid ((hb1'.out.alloc hs1 _).trans (hb2.mono (by simp; omega)))
  have HT2 := Lib.hid ((HT1.out.alloc (Nat.le_refl _) _).below (hb2.mono (by simp)))
  have hs12 := hb2.size
  have HR2 := Lib.hid hr2
  clear hr2 hb2
  go_wp2_with fail
  refine (refexp_is HTK.out HT2.out (by omega) (by simp at hs12; omega) (by omega) (by omega)).mono ?_
  rintro e w3 ⟨rfl, hb3⟩
  have hb3' := hb2'.out.trans (hb3.mono hb2'.out.size)
  have k1 := conv_of (HR2.out.below hb3) c2
  have hst : strOfNums [97, 97, 97, 97] = { data := #[97, 97, 97, 97] } := by decide
  have hst2 : strOfNums abc = { data := #[97, 98, 99, 97, 98, 99, 97, 98, 99] } := by decide
  rw [hst] at k1
  rw [hst2]
  go_wp2
  go_ret
  exact ⟨rfl, hb3'⟩
end Go.Proofs.Ytfaekhbofgkdjaa
