/- The three bytes' number, and how many bytes are alike. -/
import Derived.Test.YtfaekhbofgkdjaaProg
import Derived.Test.YtfaekhbofgkdjaaMath
import Derived.Test.YtfaekhbofgkdjaaWords
import Derived.Test.YtfaekhbofgkdjaaAppend
import Derived.Test.YtfaekhbofgkdjaaKept
import Derived.WalkKit
import Derived.WalkLawsBesides
import Derived.WalkSpells
import Derived.Lib.Hide
import Derived.Deep.QuietTactic
import Derived.BigQuiet
import Derived.Outline
import Derived.OpenShut
namespace Go.Proofs.Ytfaekhbofgkdjaa
open Go.RowKit

/-- three bytes as one number -/
def key3 (xs : List Int) : Int := bits BinOp.or IntKind.i64 (bits BinOp.or IntKind.i64 (xs.getD 0 0 * 65536) (xs.getD 1 0 * 256)) (xs.getD 2 0)
theorem key3_wf (xs : List Int) : (Lit.int .i64 (key3 xs)).wf = true := wf_bits _ _ _ _

set_option maxRecDepth 10000 in
set_option maxHeartbeats 400000 in
theorem at_any (A : Option Addr) (n c B : Nat) (xs : List Int) (w : World) (hb : Bs w B A n xs) (hn : 3 ≤ n) :
    Calls Try.prog 12 #[.slice A n c] w fun e w' => e = .returned (.int .i64 (key3 xs)) ∧ ∃ m, w' = w.drewN m := by
  obtain ⟨b, off, hA, _, h0⟩ := hb.at_ (show 0 < n by omega)
  obtain ⟨b', off', hA', _, h1⟩ := hb.at_ (show 1 < n by omega)
  rw [hA] at hA'
  injection hA' with hA'
  injection hA' with e1 e2
  subst e1 e2
  obtain ⟨b', off', hA', _, h2⟩ := hb.at_ (show 2 < n by omega)
  rw [hA] at hA'
  injection hA' with hA'
  injection hA' with e1 e2
  subst e1 e2 hA
  obtain ⟨x, hx⟩ : ∃ x, x = xs.getD 0 0 := ⟨_, rfl⟩
  obtain ⟨y, hy⟩ : ∃ y, y = xs.getD 1 0 := ⟨_, rfl⟩
  obtain ⟨z, hz⟩ : ∃ z, z = xs.getD 2 0 := ⟨_, rfl⟩
  have bx := hb.bd 0
  have by' := hb.bd 1
  have bz := hb.bd 2
  rw [← hx] at bx h0
  rw [← hy] at by' h1
  rw [← hz] at bz h2
  rw [Nat.add_zero] at h0
  have HX := Lib.hid hx
  have HY := Lib.hid hy
  have HZ := Lib.hid hz
  clear hx hy hz hb
  have i1 : (1 : Int) < (n : Int) := by omega
  have i2 : (2 : Int) < (n : Int) := by omega
  go_enter Try.func12, Try.ntmps12
  go_wp2
  go_quiet (fail)
  go_wp2
  go_ret
  exact ⟨ret_int (by unfold key3; rw [HX.out, HY.out, HZ.out]), _, rfl⟩

theorem alike_more {xs : List Int} {i k q : Nat} (h : ∀ j, j < q → xs.getD (i + j) 0 = xs.getD (k + j) 0) (he : xs.getD (i + q) 0 = xs.getD (k + q) 0) : ∀ j, j < q + 1 → xs.getD (i + j) 0 = xs.getD (k + j) 0 := fun j hj => by
  rcases Nat.lt_or_ge j q with h1 | h1
  · exact h j h1
  · obtain rfl : j = q := by omega
    exact he

set_option maxRecDepth 10000 in
set_option maxHeartbeats 400000 in
theorem alike_any (A : Option Addr) (n c B i k : Nat) (xs : List Int) (w : World) (hb : Bs w B A n xs) (hn : n ≤ 8000) (hi : i ≤ n) (hk : k ≤ i) :
    Calls Try.prog 13 #[.slice A n c, .int .i64 i, .int .i64 k] w fun e w' => (∃ q : Nat, e = .returned (.int .i64 q) ∧ q ≤ 258 ∧ i + q ≤ n ∧ ∀ j, j < q → xs.getD (i + j) 0 = xs.getD (k + j) 0) ∧ ∃ m, w' = w.drewN m := by
  have HB := Lib.hid hb
  clear hb
  go_enter Try.func13, Try.ntmps13
  go_wp2
  go_loopw [7] (fun q' wr => ∃ q m : Nat, q' = .int .i64 q ∧ q ≤ 258 ∧ i + q ≤ n ∧ wr = w.drewN m ∧ Hid (∀ j, j < q → xs.getD (i + j) 0 = xs.getD (k + j) 0)) (fun q' _ => 258 - (intOf q').toNat)
  case atStart => exact ⟨0, 0, rfl, by omega, by omega, rfl, Lib.hid (fun j hj => by omega)⟩
  case round =>
    obtain ⟨q, m, rfl, hq, hiq, rfl, HE⟩ := hrel
    by_cases h2 : q < 258
    · have d2 : decide ((q : Int) < 258) = true := by simp; omega
      by_cases h1 : i + q < n
      · have d1 : decide ((i : Int) + (q : Int) < (n : Int)) = true := by simp; omega
        obtain ⟨z, hz⟩ : ∃ z, z = xs.getD (i + q) 0 := ⟨_, rfl⟩
        obtain ⟨y, hy⟩ : ∃ y, y = xs.getD (k + q) 0 := ⟨_, rfl⟩
        obtain ⟨b, off, hA, _, hcell⟩ := HB.out.at_ h1
        obtain ⟨b', off', hA', _, hcell0⟩ := HB.out.at_ (show k + q < n by omega)
        rw [← hz] at hcell
        rw [← hy] at hcell0
        rw [hA] at hA'
        injection hA' with hA'
        injection hA' with e1 e2
        subst e1 e2 hA
        have HZ := Lib.hid hz
        have HY := Lib.hid hy
        clear hz hy
        have i1 : (k : Int) + (q : Int) < (n : Int) := by omega
        go_wp2_with fail
        go_quiet (fail)
        go_wp2
        · have he : (z == y) = true := by assumption
          go_roundw
          case rel =>
            refine ⟨q + 1, m + nq, by go_num, by omega, by omega, rfl, Lib.hid (alike_more HE.out ?_)⟩
            rw [← HZ.out, ← HY.out]; simpa using he
          case measure => simp [intOf]; omega
        · go_ret
          exact ⟨⟨q, rfl, hq, hiq, HE.out⟩, m + nq, World.drewN_drewN ..⟩
      · have d1 : decide ((i : Int) + (q : Int) < (n : Int)) = false := by simp; omega
        go_wp2_with fail
        go_quiet (fail)
        go_wp2
        go_ret
        exact ⟨⟨q, rfl, hq, hiq, HE.out⟩, m + nq, World.drewN_drewN ..⟩
    · have d2 : decide ((q : Int) < 258) = false := by simp; omega
      go_wp2_with fail
      go_quiet (fail)
      go_wp2
      go_ret
      exact ⟨⟨q, rfl, hq, hiq, HE.out⟩, m + nq, World.drewN_drewN ..⟩
end Go.Proofs.Ytfaekhbofgkdjaa
