/- The finder's best: what it hands back is a copy of what lies behind. -/
import Derived.Test.YtfaekhbofgkdjaaK
namespace Go.Proofs.Ytfaekhbofgkdjaa
open Go.RowKit

/-- a copy for place i: so many bytes, from so far back; or none -/
def BestIs (xs : List Int) (n i : Nat) (long far : Int) : Prop :=
  (long = 0 ∧ far = 0) ∨ ∃ L k : Nat, long = L ∧ far = (i : Int) - k ∧ k < i ∧ i - k ≤ 32768 ∧ L ≤ 258 ∧ i + L ≤ n ∧ ∀ j, j < L → xs.getD (i + j) 0 = xs.getD (k + j) 0
theorem BestIs.bd {xs : List Int} {n i : Nat} {long far : Int} (h : BestIs xs n i long far) : 0 ≤ long ∧ long ≤ 258 ∧ 0 ≤ far ∧ far ≤ 32768 := by
  rcases h with ⟨h1, h2⟩ | ⟨L, k, h1, h2, h3, h4, h5, _⟩ <;> omega

set_option maxRecDepth 10000 in
set_option maxHeartbeats 2000000 in
theorem best_any (mb fb base i : Nat) (A : Option Addr) (c : Nat) (ah : List Int) (Ab : Option Addr) (n cb B : Nat) (xs : List Int) (w : World) (hf : Fnd w mb fb base i A c ah) (hb : Bs w B Ab n xs) (hi : i ≤ n) (hn : n ≤ 8000) (hcb : n ≤ cb) :
    Calls Try.prog 10 #[.pointer (some ⟨fb, 0, none⟩), .slice Ab n cb, .int .i64 i] w fun e w' => (∃ long far : Int, e = .returned (.tuple #[.int .i64 long, .int .i64 far]) ∧ BestIs xs n i long far) ∧ ∃ m, w' = w.drewN m := by
  by_cases h3 : n < i + 3
  · go_enter Try.func10, Try.ntmps10
    go_wp2
    go_ret2
    exact ⟨⟨0, 0, rfl, .inl ⟨rfl, rfl⟩⟩, 0, rfl⟩
  obtain ⟨f0, f1, f2, ⟨D, hmap, hlow⟩, hown, hah⟩ := hf
  obtain ⟨b, off, hA, _, _⟩ := hb.at_ (show i < n by omega)
  subst hA
  have HB := Lib.hid hb
  have hcut := bs_cut_some hb (show i < n by omega) hcb
  have hatc := fun m => at_any _ _ (cb - i) _ _ (w.drewN m) (hcut.drewN m) (by omega)
  obtain ⟨κ, hκ⟩ : ∃ κ, κ = key3 (xs.drop i) := ⟨_, rfl⟩
  rw [← hκ] at hatc
  have hwf : (Lit.int .i64 κ).wf = true := by rw [hκ]; exact key3_wf _
  obtain ⟨was, ok, hlook, hwas⟩ := look_of hmap hlow hwf
  have HW := Lib.hid hwas
  have HO := Lib.hid hown
  have HA := Lib.hid hah
  have HAT := Lib.hid hatc
  have hic : (i : Int) ≤ (n : Int) := by omega
  clear hb hcut hκ hmap hlow hown hah hwas hatc hwf
  go_enter Try.func10, Try.ntmps10
  go_wp2_with fail
  go_quiet (first | (go_at_call 12; exact quiet_draws (HAT.out _)))
  clear hlook
  cases ok
  · go_wp2_with fail
    go_ret2
    exact ⟨⟨0, 0, rfl, .inl ⟨rfl, rfl⟩⟩, _, rfl⟩
  · have hw := HW.out rfl
    go_wp2_with fail
    go_loopw [8, 10, 11, 32] (fun k' lo fa r' wr => ∃ (kk long far : Int) (r m : Nat), k' = .int .i64 kk ∧ lo = .int .i64 long ∧ fa = .int .i64 far ∧ r' = .int .i64 r ∧ -1 ≤ kk ∧ kk < i ∧ r ≤ 64 ∧ wr = w.drewN m ∧ 0 ≤ long ∧ long ≤ 258 ∧ Hid (BestIs xs n i long far)) (fun _ _ _ r' _ => 64 - (intOf r').toNat)
    case atStart => exact ⟨was, 0, 0, 0, nq, rfl, rfl, rfl, rfl, by omega, by omega, by omega, rfl, by omega, by omega, Lib.hid (.inl ⟨rfl, rfl⟩)⟩
    case round =>
      obtain ⟨kk, long, far, r, m, rfl, rfl, rfl, rfl, hk0, hk1, hr, rfl, hl0, hl1, HBI⟩ := hrel
      by_cases hr64 : r < 64
      · by_cases hneg : kk < 0
        · go_wp2_with fail
          go_ret2
          exact ⟨⟨long, far, rfl, HBI.out⟩, m, rfl⟩
        · by_cases hfar : (i : Int) - kk > 32768
          · exfalso; omega
          · obtain ⟨kn, hkn⟩ : ∃ kn : Nat, kk = kn := ⟨kk.toNat, by omega⟩
            subst hkn
            go_wp2_with fail
            refine (alike_any _ _ _ _ _ _ _ _ (HB.out.drewN m) (by omega) (by omega) (by omega)).mono ?_
            rintro e w2 ⟨⟨q, rfl, hq1, hq2, hq3⟩, m2, rfl⟩
            have HQ := Lib.hid hq3
            clear hq3
            obtain ⟨g, hg, hg0, hg1⟩ := own_at HO.out (by omega)
            subst hg
            obtain ⟨z, hz⟩ : ∃ z, z = ah.getD kn 0 := ⟨_, rfl⟩
            have hcz := own_cell HO.out (show kn < i by omega)
            have hzb := HA.out kn (by omega)
            rw [← hz] at hcz hzb
            clear hz
            by_cases hlong : (q : Int) > long
            · go_wp2_with fail
              go_roundw
              case rel => exact ⟨z, q, (i : Int) - kn, r + 1, m + m2, rfl, rfl, by go_num, by go_num, by omega, by omega, by omega, rfl, by omega, by omega, Lib.hid (.inr ⟨q, kn, rfl, rfl, by omega, by omega, hq1, hq2, HQ.out⟩)⟩
              case measure => simp [intOf]; omega
            · go_wp2_with fail
              go_roundw
              case rel => exact ⟨z, long, far, r + 1, m + m2, rfl, rfl, rfl, by go_num, by omega, by omega, by omega, rfl, by omega, by omega, HBI⟩
              case measure => simp [intOf]; omega
      · go_wp2_with fail
        go_ret2
        exact ⟨⟨long, far, rfl, HBI.out⟩, m, rfl⟩
end Go.Proofs.Ytfaekhbofgkdjaa
