/- The walks of the statements that turn one byte. -/
import Derived.Test.YteohinhiemibgaaC
import Derived.Deep.RegionWith
namespace Go.Proofs.Yteohinhiemibgaa
open Go.RowKit

theorem wrap_u64_nonneg (a : Int) : 0 ≤ IntKind.u64.wrap a := by
  have h : IntKind.u64.wrap a = a % 18446744073709551616 := by simp [IntKind.wrap, IntKind.bits, IntKind.signed]
  rw [h]; omega
/-- the place: what an int leaves by the length, reckoned without a sign -/
theorem place_of (at' : Int) (n : Nat) (hn : 0 < n) : ∃ (U : Int) (j : Nat), 0 ≤ U ∧ j < n ∧ IntKind.u64.wrap at' = U ∧ U % (n : Int) = j ∧ U.tmod (n : Int) = j := by
  have h0 := wrap_u64_nonneg at'
  have h1 := Int.emod_nonneg (IntKind.u64.wrap at') (show (n : Int) ≠ 0 by omega)
  have h2 := Int.emod_lt_of_pos (IntKind.u64.wrap at') (show (0 : Int) < n by omega)
  refine ⟨_, (IntKind.u64.wrap at' % (n : Int)).toNat, h0, by omega, rfl, by omega, ?_⟩
  rw [Int.tmod_eq_emod_of_nonneg h0]; omega
theorem own_at {w : World} {base : Nat} {e : TypeId} {A : Option Addr} {n c : Nat} {xs : List Value} (h : w.ownsRow base e 1 (.slice A n c) n xs) (hn : 0 < n) : ∃ g, A = some ⟨g, 0, none⟩ ∧ base ≤ g ∧ g < w.heap.size := by
  obtain ⟨g, cap, hv, _⟩ := h.form hn
  have hA : A = some ⟨g, 0, none⟩ := by injection hv
  subst hA
  exact ⟨g, rfl, (h.lt g rfl).1, (h.lt g rfl).2⟩
theorem own_cell {w : World} {base : Nat} {e : TypeId} {g n c : Nat} {xs : List Int} (h : w.ownsRow base e 1 (.slice (some ⟨g, 0, none⟩) n c) n (xs.map (Value.int .u8))) {j : Nat} (hj : j < n) :
    w.cell? ⟨g, j, none⟩ = some (.int .u8 (xs.getD j 0)) := by
  have hl : xs.length = n := by have := h.1; simpa using this
  rw [h.cellAt j (by omega), List.getElem?_map, List.getElem?_eq_getElem (by omega), List.getD_eq_getElem?_getD, List.getElem?_eq_getElem (by omega)]
  rfl
theorem own_set {w : World} {base : Nat} {e : TypeId} {g n c : Nat} {xs : List Int} (h : w.ownsRow base e 1 (.slice (some ⟨g, 0, none⟩) n c) n (xs.map (Value.int .u8))) (j : Nat) (x : Int) :
    (w.setCell ⟨g, j, none⟩ (.int .u8 x)).ownsRow base e 1 (.slice (some ⟨g, 0, none⟩) n c) n ((xs.set j x).map (Value.int .u8)) := by
  have := (h.stored j (.int .u8 x)).1
  rwa [← List.map_set] at this
theorem set_bd {xs : List Int} {x : Int} (j : Nat) (h : ∀ y ∈ xs, 0 ≤ y ∧ y ≤ 255) (h0 : 0 ≤ x) (h1 : x ≤ 255) : ∀ y ∈ xs.set j x, 0 ≤ y ∧ y ≤ 255 := by
  intro y hy
  rcases List.mem_or_eq_of_mem_set hy with h' | rfl
  · exact h y h'
  · exact ⟨h0, h1⟩

set_option maxHeartbeats 1000000 in
theorem one_walk (A : Option Addr) (n c : Nat) (at' v : Int) (xs : List Int) (w : World) (ha : Bs w w.heap.size A n xs) (hn : n ≤ maxLen) (v0 : 0 ≤ v) (v1 : v ≤ 255) :
    Calls Try.prog 5 #[.slice A n c, .int .i64 at', .int .u8 v] w fun e w' => e = .returned (.bool true) ∧ Below w.heap.size w w' := by
  unfold maxLen at hn
  have HA := Lib.hid ha
  clear ha
  obtain ⟨i0, hi, hz0, hz1, hz2⟩ := info_parts info5
  by_cases hl : n = 0 ∨ 3000 < n
  · rcases hl with rfl | hl
    all_goals
      go_enter Try.func5, Try.ntmps5
      go_wp2_with fail
      refine (lives_any _).mono ?_
      rintro e w1 ⟨rfl, hb1⟩
      go_wp2_with fail
      refine (lives_any _).mono ?_
      rintro e w2 ⟨rfl, hb2⟩
      go_wp2
      go_ret
      exact ⟨rfl, hb1.trans (hb2.mono hb1.size)⟩
  · have hp : 0 < n := by omega
    obtain ⟨b, off, rfl, hbB, _⟩ := HA.out.at_ hp
    obtain ⟨U, j, u0, hj, hU, hj1, hj2⟩ := place_of at' n hp
    obtain ⟨z, hz⟩ : ∃ z, z = xs.getD j 0 := ⟨_, rfl⟩
    obtain ⟨z0, z1⟩ := HA.out.bd j
    rw [← hz] at z0 z1
    obtain ⟨X, x0, x1, HX⟩ := sum_name xs
    obtain ⟨S, s0, s1, HS⟩ := sum_name (xs.set j v)
    obtain ⟨t, ht1, ht2⟩ : ∃ t : Bool, (S == X) = t ∧ (z == v) = t := by
      have := Adl.adl_set xs j v (by rw [HA.out.1]; exact hj) v0 v1 (by rw [← hz]; exact z0) (by rw [← hz]; exact z1)
      rw [HX.out, HS.out, ← hz] at this
      refine ⟨_, rfl, ?_⟩
      rw [Bool.eq_iff_iff, beq_iff_eq, beq_iff_eq, this]
      exact ⟨fun h => h.symm, fun h => h.symm⟩
    have HZ := Lib.hid hz
    clear hz
    have hne : ((n : Int) == 0) = false := by simp; omega
    go_enter Try.func5, Try.ntmps5
    go_wp2_with fail
    refine (lives_any _).mono ?_
    rintro e w1 ⟨rfl, hb1⟩
    have HA1 := Lib.hid (HA.out.below hb1)
    have hs1 := hb1.size
    have hw0 : (w1.alloc (.cells #[] 5)).ownsRow w1.heap.size 5 1 (.slice (some ⟨w1.heap.size, 0, none⟩) 0 0) 0 (([] : List Int).map (Value.int .u8)) :=
      World.ownsRow_made w1 #[] 0 (Nat.le_refl _) (by unfold maxLen; omega) (by simp)
    have hb2 : Below w.heap.size w (w1.alloc (.cells #[] 5)) := hb1.alloc hs1 _
    go_wp2_with (first
      | (at_builtin; refine wpList_append_bs _ rfl (.tmp 29) (.tmp 30) _ rfl w1.heap.size 5 i0 _ Try.underlying23 hi hz0 hz1 hz2 rfl _ 0 [] rfl hw0 w.heap.size _ n c xs rfl (HA1.out.alloc hs1 _) (by omega) (by simp) ?_; intro A2 c2 w2 own2 h2 h2' g2 l2; simp only [Nat.zero_add, List.nil_append] at own2 h2 g2 l2; have hb3 := Lib.hid (below_append hb2 hw0 hs1 (by simp; omega) g2); obtain ⟨g, hg, hg0, hg1⟩ := own_at own2 hp; subst hg; have hcg := own_cell own2 hj; have hfg := own2.frozenAt j))
    have own3 := own_set own2 j v
    have hb4 : Below w.heap.size w (w2.setCell ⟨g, j, none⟩ (.int .u8 v)) := hb3.out.setCell (by show w.heap.size ≤ g; omega) _
    have HA4 := Lib.hid (HA.out.below hb4)
    have HC := Lib.hid (Bs.of_own own3 (set_bd j HA.out.2.1 v0 v1))
    have hcb : (w2.setCell ⟨g, j, none⟩ (.int .u8 v)).cell? ⟨b, off + j, none⟩ = some (.int .u8 z) := by
      obtain ⟨b', off', hA', _, hc'⟩ := HA4.out.at_ hj
      injection hA' with hA'
      injection hA' with h1 h2
      subst h1 h2
      rw [hc', HZ.out]
    clear own2 own3 g2 l2 hw0 hcg hfg hj1 hj2 hU
    generalize w2.setCell ⟨g, j, none⟩ (.int .u8 v) = w3 at hb4 HA4 HC hcb ⊢
    go_quiet ((first
      | (go_at_call_of 9 (Value.slice (some ⟨g, 0, none⟩) n c2); exact quiet_left (sum_is HS.out (HC.out.drewN _) (by omega)))
      | (go_at_call 9; exact quiet_left (sum_is HX.out (HA4.out.drewN _) (by omega)))))
    go_wp2
    go_ret
    exact ⟨rfl, below_drewN hb4 _⟩

theorem xor_turn (z v : Int) (z0 : 0 ≤ z) (z1 : z ≤ 255) (v0 : 0 ≤ v) (v1 : v ≤ 255) (hv : v ≠ 0) : ∃ y : Int, bits BinOp.xor IntKind.u8 z v = y ∧ 0 ≤ y ∧ y ≤ 255 ∧ y ≠ z := by
  have h := u8_xor z v z0 (by omega) v0 (by omega)
  have hlt : z.toNat ^^^ v.toNat < 2 ^ 8 := Nat.xor_lt_two_pow (by omega) (by omega)
  refine ⟨_, h, by omega, by omega, fun e => hv ?_⟩
  have e' : z.toNat ^^^ v.toNat = z.toNat := by omega
  have : v.toNat = 0 := by
    have := congrArg (fun x => z.toNat ^^^ x) e'
    simpa [← Nat.xor_assoc] using this
  omega

set_option maxHeartbeats 1000000 in
theorem turned_walk (A : Option Addr) (n c : Nat) (at' v : Int) (xs : List Int) (w : World) (ha : Bs w w.heap.size A n xs) (hn : n ≤ maxLen) (v0 : 0 ≤ v) (v1 : v ≤ 255) :
    Calls Try.prog 4 #[.slice A n c, .int .i64 at', .int .u8 v] w fun e w' => e = .returned (.bool true) ∧ Below w.heap.size w w' := by
  unfold maxLen at hn
  have HA := Lib.hid ha
  clear ha
  obtain ⟨i0, hi, hz0, hz1, hz2⟩ := info_parts info5
  by_cases hl : n = 0 ∨ 8000 < n ∨ v = 0
  · rcases hl with rfl | hl
    · go_enter Try.func4, Try.ntmps4
      go_wp2_with fail
      refine (lives_any _).mono ?_
      rintro e w1 ⟨rfl, hb1⟩
      go_wp2_with fail
      refine (lives_any _).mono ?_
      rintro e w2 ⟨rfl, hb2⟩
      go_wp2
      go_ret
      exact ⟨rfl, hb1.trans (hb2.mono hb1.size)⟩
    · by_cases h8 : 8000 < n
      · go_enter Try.func4, Try.ntmps4
        go_wp2_with fail
        refine (lives_any _).mono ?_
        rintro e w1 ⟨rfl, hb1⟩
        go_wp2_with fail
        refine (lives_any _).mono ?_
        rintro e w2 ⟨rfl, hb2⟩
        go_wp2
        go_ret
        exact ⟨rfl, hb1.trans (hb2.mono hb1.size)⟩
      · obtain rfl : v = 0 := by omega
        by_cases hp : n = 0
        all_goals
          go_enter Try.func4, Try.ntmps4
          go_wp2_with fail
          refine (lives_any _).mono ?_
          rintro e w1 ⟨rfl, hb1⟩
          go_wp2_with fail
          refine (lives_any _).mono ?_
          rintro e w2 ⟨rfl, hb2⟩
          go_wp2
          go_ret
          exact ⟨rfl, hb1.trans (hb2.mono hb1.size)⟩
  · have hp : 0 < n := by omega
    obtain ⟨b, off, rfl, hbB, _⟩ := HA.out.at_ hp
    obtain ⟨U, j, u0, hj, hU, hj1, hj2⟩ := place_of at' n hp
    obtain ⟨z, hz⟩ : ∃ z, z = xs.getD j 0 := ⟨_, rfl⟩
    obtain ⟨z0, z1⟩ := HA.out.bd j
    rw [← hz] at z0 z1
    obtain ⟨y, hy, y0, y1, hyz⟩ := xor_turn z v z0 z1 v0 v1 (by omega)
    obtain ⟨X, x0, x1, HX⟩ := sum_name xs
    obtain ⟨S, s0, s1, HS⟩ := sum_name (xs.set j y)
    obtain ⟨ht1, ht2⟩ : (S == X) = false ∧ (S != X) = true := by
      have := Adl.adl_set xs j y (by rw [HA.out.1]; exact hj) y0 y1 (by rw [← hz]; exact z0) (by rw [← hz]; exact z1)
      rw [HX.out, HS.out, ← hz] at this
      have hne : S ≠ X := fun h => hyz (this.1 h)
      exact ⟨beq_eq_false_iff_ne.2 hne, by simp [hne]⟩
    have HZ := Lib.hid hz
    clear hz hyz
    have hne : ((n : Int) == 0) = false := by simp; omega
    have hv : (v == 0) = false := by simp; omega
    go_enter Try.func4, Try.ntmps4
    go_wp2_with fail
    refine (lives_any _).mono ?_
    rintro e w1 ⟨rfl, hb1⟩
    have HA1 := Lib.hid (HA.out.below hb1)
    have hs1 := hb1.size
    have hw0 : (w1.alloc (.cells #[] 5)).ownsRow w1.heap.size 5 1 (.slice (some ⟨w1.heap.size, 0, none⟩) 0 0) 0 (([] : List Int).map (Value.int .u8)) :=
      World.ownsRow_made w1 #[] 0 (Nat.le_refl _) (by unfold maxLen; omega) (by simp)
    have hb2 : Below w.heap.size w (w1.alloc (.cells #[] 5)) := hb1.alloc hs1 _
    go_wp2_with (first
      | (at_builtin; refine wpList_append_bs _ rfl (.tmp 25) (.tmp 26) _ rfl w1.heap.size 5 i0 _ Try.underlying23 hi hz0 hz1 hz2 rfl _ 0 [] rfl hw0 w.heap.size _ n c xs rfl (HA1.out.alloc hs1 _) (by omega) (by simp) ?_; intro A2 c2 w2 own2 h2 h2' g2 l2; simp only [Nat.zero_add, List.nil_append] at own2 h2 g2 l2; have hb3 := Lib.hid (below_append hb2 hw0 hs1 (by simp; omega) g2); obtain ⟨g, hg, hg0, hg1⟩ := own_at own2 hp; subst hg; have hcg := own_cell own2 hj; rw [← HZ.out] at hcg; have hfg := own2.frozenAt j))
    have own3 := own_set own2 j y
    have hb4 : Below w.heap.size w (w2.setCell ⟨g, j, none⟩ (.int .u8 y)) := hb3.out.setCell (by show w.heap.size ≤ g; omega) _
    have HA4 := Lib.hid (HA.out.below hb4)
    have HC := Lib.hid (Bs.of_own own3 (set_bd j HA.out.2.1 y0 y1))
    clear own2 own3 g2 l2 hw0 hcg hfg hj1 hj2 hU hy
    generalize w2.setCell ⟨g, j, none⟩ (.int .u8 y) = w3 at hb4 HA4 HC ⊢
    refine (sum_is HS.out HC.out (by omega)).mono ?_
    rintro e w' ⟨rfl, rfl⟩
    go_wp2_with fail
    refine (sum_is HX.out HA4.out (by omega)).mono ?_
    rintro e w' ⟨rfl, rfl⟩
    go_wp2
    go_ret
    exact ⟨rfl, hb4⟩
