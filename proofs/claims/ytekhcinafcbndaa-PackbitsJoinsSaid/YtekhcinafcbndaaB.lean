/- The program's Encode: what it hands back packs its argument, and is hardly longer. -/
import Derived.Test.YtekhcinafcbndaaA
import Derived.Deep.RegionLaw
namespace Go.Proofs.Ytekhcinafcbndaa
open Go.RowKit

theorem info5 : (Try.prog.info? 5).map (fun i => (i.zero, i.size, i.bytes)) = some (some (.int .u8 0), 1, 1) := by kernel_rfl

theorem take_add (xs : List Int) (k n : Nat) : xs.take (k + n) = xs.take k ++ (xs.drop k).take n := by
  rw [List.take_add]
theorem enc_run {xs x : List Int} {k n : Nat} {v : Int} (hp : Pb.Pk (xs.take k) x) (he : Pb.Ex k x.length (xs.drop k)) (hn : n = Pb.run (xs.drop k)) (h2 : 2 ≤ n) (hv : v = (xs.drop k).getD 0 0) :
    Pb.Pk (xs.take (k + n)) (x ++ [257 - (n : Int), v]) ∧ Pb.Ex (k + n) (x ++ [257 - (n : Int), v]).length (xs.drop (k + n)) := by
  have hle := (Pb.run_le (xs.drop k)).1
  constructor
  · rw [take_add, show (xs.drop k).take n = List.replicate n v from by rw [hn, hv]; exact Pb.run_take _]
    exact hp.snoc (Pb.good_run n v h2 (by omega))
  · simpa using he.run (rest' := xs.drop (k + n)) hn h2
theorem enc_lit {xs x : List Int} {k n : Nat} (hp : Pb.Pk (xs.take k) x) (he : Pb.Ex k x.length (xs.drop k)) (hr : Pb.run (xs.drop k) < 2) (hk : k + n ≤ xs.length) (h1 : 1 ≤ n) (h2 : n ≤ 128)
    (hend : k + n = xs.length ∨ n = 128 ∨ 3 ≤ Pb.run ((xs.drop k).drop n)) :
    Pb.Pk (xs.take (k + n)) (x ++ [(n : Int) - 1] ++ (xs.drop k).take n) ∧ Pb.Ex (k + n) (x ++ [(n : Int) - 1] ++ (xs.drop k).take n).length (xs.drop (k + n)) := by
  have hl : ((xs.drop k).take n).length = n := by simp; omega
  constructor
  · rw [take_add]
    have := hp.snoc (Pb.good_lit ((xs.drop k).take n) (by omega) (by omega))
    rw [hl] at this
    simpa using this
  · rw [List.drop_drop] at hend
    have := he.lit (rest' := xs.drop (k + n)) (n := n) hr (by intro h; have := congrArg List.length h; simp at this; omega) h1
      (by rcases hend with h | h | h
          · exact .inr (.inl (List.drop_of_length_le (by omega)))
          · exact .inl h
          · exact .inr (.inr h))
    have e : (x ++ [(n : Int) - 1] ++ (xs.drop k).take n).length = x.length + (n + 1) := by simp only [List.length_append, hl, List.length_cons, List.length_nil]; omega
    rw [e]; exact this
theorem u8_pred (j : Nat) (h1 : 1 ≤ j) (h2 : j ≤ 128) : IntKind.u8.wrap (IntKind.i64.wrap ((j : Int) - 1)) = (j : Int) - 1 := by
  simp only [IntKind.wrap, IntKind.bits, IntKind.signed]
  simp
  omega
theorem own_drewN {w : World} {base : Nat} {e : TypeId} {v : Value} {n : Nat} {xs : List Value} (h : w.ownsRow base e 1 v n xs) (m : Nat) : (w.drewN m).ownsRow base e 1 v n xs := h

theorem bs_cut_some {w : World} {B n b off k cap : Nat} {xs : List Int} (h : Bs w B (some ⟨b, off, none⟩) n xs) (hk : k ≤ n) (hc : n ≤ cap) :
    Bs w B (if cap = k then some ⟨b, off, none⟩ else some ⟨b, off + k, none⟩) (n - k) (xs.drop k) := by
  have := h.cut hk hc
  have e : (⟨b, off, none⟩ : Addr).add k = ⟨b, off + k, none⟩ := by unfold Addr.add; split <;> simp_all
  simpa [e] using this
def lenN : Value → Nat
  | .slice _ m _ => m
  | _ => 0

/-- what holds at the head of a round of Encode: k bytes are packed into x -/
def Enc (w : World) (B n : Nat) (xs : List Int) (b out : Value) (wr : World) : Prop :=
  ∃ (A : Option Addr) (m c k : Nat) (x : List Int) (A2 : Option Addr) (m2 c2 : Nat), b = .slice A m c ∧ out = .slice A2 m2 c2 ∧ m ≤ c ∧ m ≤ n ∧ m2 ≤ c2 ∧ m2 ≤ 2 * n ∧
    Hid (Bs wr B A m (xs.drop k) ∧ wr.ownsRow w.heap.size 5 1 (.slice A2 m2 c2) m2 (x.map (Value.int .u8)) ∧ m + k = n ∧ Pb.Pk (xs.take k) x ∧ Pb.Ex k x.length (xs.drop k) ∧ (∀ y ∈ x, 0 ≤ y ∧ y ≤ 255) ∧ Below w.heap.size w wr)

theorem enc_next {w wr : World} {B n b off m c k r m' c3 : Nat} {xs y : List Int} {A3 : Option Addr} (hbs : Bs wr B (some ⟨b, off, none⟩) m (xs.drop k)) (hmc : m ≤ c) (hk : m + k = n) (hr : r ≤ m)
    (hpe : Pb.Pk (xs.take (k + r)) y ∧ Pb.Ex (k + r) y.length (xs.drop (k + r))) (hown : wr.ownsRow w.heap.size 5 1 (.slice A3 m' c3) m' (y.map (Value.int .u8))) (hc3 : m' ≤ c3) (hy : ∀ z ∈ y, 0 ≤ z ∧ z ≤ 255) (hbel : Below w.heap.size w wr) :
    Enc w B n xs (.slice (if c = r then some ⟨b, off, none⟩ else some ⟨b, off + r, none⟩) (m - r) (c - r)) (.slice A3 m' c3) wr := by
  have hl : y.length = m' := by have := hown.1; simpa using this
  have hle := hpe.2.all
  rw [hl] at hle
  have hb := bs_cut_some hbs hr hmc
  rw [List.drop_drop] at hb
  exact ⟨_, _, _, k + r, y, _, _, _, rfl, rfl, by omega, by omega, hc3, by omega, Lib.hid ⟨hb, hown, by omega, hpe.1, hpe.2, hy, hbel⟩⟩
theorem enc_end {w wr : World} {n k m2 c2 : Nat} {xs x : List Int} {A2 : Option Addr} (hl : xs.length = n) (hk : 0 + k = n) (hp : Pb.Pk (xs.take k) x) (he : Pb.Ex k x.length (xs.drop k))
    (hown : wr.ownsRow w.heap.size 5 1 (.slice A2 m2 c2) m2 (x.map (Value.int .u8))) : Pb.Pk xs x ∧ m2 ≤ n + (n + 127) / 128 := by
  have hx : x.length = m2 := by have := hown.1; simpa using this
  have hle := he.all
  rw [List.take_of_length_le (by omega)] at hp
  exact ⟨hp, by omega⟩

set_option maxRecDepth 10000 in
set_option maxHeartbeats 1000000 in
theorem encode_any (A : Option Addr) (n c B : Nat) (xs : List Int) (w : World) (hb : Bs w B A n xs) (hc : n ≤ c) (hn : n ≤ 4000) (hB : B ≤ w.heap.size) :
    Calls Try.prog 10 #[.slice A n c] w fun e w' => ∃ A' m c' x, e = .returned (.slice A' m c') ∧ m ≤ c' ∧ w'.ownsRow w.heap.size 5 1 (.slice A' m c') m (x.map (Value.int .u8)) ∧ (∀ y ∈ x, 0 ≤ y ∧ y ≤ 255) ∧
      Pb.Pk xs x ∧ m ≤ n + (n + 127) / 128 ∧ Below w.heap.size w w' := by
  obtain ⟨i0, hi, hz0, hz1, hz2⟩ := info_parts info5
  have hw0 : (w.alloc (.cells #[] 5)).ownsRow w.heap.size 5 1 (.slice (some ⟨w.heap.size, 0, none⟩) 0 0) 0 (([] : List Int).map (Value.int .u8)) :=
    World.ownsRow_made w #[] 0 (Nat.le_refl _) (by unfold maxLen; omega) (by simp)
  have start : Enc w B n xs (.slice A n c) (.slice (some ⟨w.heap.size, 0, none⟩) 0 0) (w.alloc (.cells #[] 5)) :=
    ⟨A, n, c, 0, [], _, 0, 0, rfl, rfl, hc, Nat.le_refl _, Nat.le_refl _, by omega, Lib.hid ⟨hb.alloc hB _, hw0, rfl, Pb.Pk.nil, Pb.Ex.zero _, by simp, (Below.refl _ _).alloc (Nat.le_refl _) _⟩⟩
  have START := Lib.hid start
  have hxl : Hid (xs.length = n) := Lib.hid hb.1
  clear start hw0 hb
  go_enter Try.func10, Try.ntmps10
  go_wp2
  go_loopw [0, 3] (fun b out wr => Enc w B n xs b out wr) (fun b _ _ => lenN b)
  case atStart => exact START.out
  case round =>
    obtain ⟨A, m, c, k, x, A2, m2, c2, rfl, rfl, hmc, hmn, hm2, hm2n, HH⟩ := hrel
    clear START
    obtain ⟨hbs, hown, hk, hp, he, hx, hbel⟩ := HH.out
    clear HH
    have HB := Lib.hid hbs
    have HO := Lib.hid hown
    have HK := Lib.hid hk
    have HP := Lib.hid hp
    have HE := Lib.hid he
    have HX := Lib.hid hx
    have HW := Lib.hid hbel
    clear hbs hown hk hp he hx hbel
    by_cases h0 : m = 0
    · subst h0
      go_wp2_with fail
      go_ret
      obtain ⟨h1, h2⟩ := enc_end hxl.out HK.out HP.out HE.out HO.out
      exact ⟨_, _, _, x, rfl, hm2, HO.out, HX.out, h1, h2, HW.out⟩
    · have hpos : 0 < m := by omega
      go_wp2_with fail
      refine (run_any _ _ _ _ _ _ HB.out (by omega)).mono ?_
      rintro e w2 ⟨rfl, q, hq⟩
      obtain ⟨r, hr⟩ : ∃ r, r = Pb.run (xs.drop k) := ⟨_, rfl⟩
      rw [← hr]
      have HR := Lib.hid hr
      have hr1 : r ≤ 128 ∧ r ≤ m := by rw [hr]; have := Pb.run_le (xs.drop k); rw [HB.out.1] at this; exact this
      clear hr
      have HB2 := Lib.hid (show Bs w2 B A m (xs.drop k) from by rw [hq]; exact HB.out.drewN q)
      have HO2 := Lib.hid (show w2.ownsRow w.heap.size 5 1 (.slice A2 m2 c2) m2 (x.map (Value.int .u8)) from by rw [hq]; exact own_drewN HO.out q)
      have HW2 := Lib.hid (show Below w.heap.size w w2 from by rw [hq]; exact below_drewN HW.out q)
      clear hq HB HO HW wr
      have hs2 := HW2.out.size
      by_cases h2 : 2 ≤ r
      · obtain ⟨z, hz⟩ : ∃ z, z = (xs.drop k).getD 0 0 := ⟨_, rfl⟩
        obtain ⟨z0, z1⟩ := HB2.out.bd 0
        rw [← hz] at z0 z1
        obtain ⟨b, off, hA, _, hcell⟩ := HB2.out.at_ hpos
        rw [← hz, Nat.add_zero] at hcell
        subst hA
        have HZ := Lib.hid hz
        clear hz
        go_wp2_with (first
          | (at_builtin; refine wpList_append_bs _ rfl (.tmp 14) (.tmp 21) _ rfl w.heap.size 5 i0 _ Try.underlying22 hi hz0 hz1 hz2 rfl _ m2 x rfl (HO2.out.alloc _) (w2.heap.size + 1) _ 2 2 [257 - (r : Int), z] rfl (bs_two w2 5 _ _ _ (by omega) (by omega) (by omega) (by omega)) (by omega) (by simp; omega) ?_; intro A3 c3 w3 own3 h3 h3' g3 l3; have hb3 := Lib.hid (below_append (HW2.out.alloc hs2 _) (HO2.out.alloc _) (Nat.le_refl _) (by simp; omega) g3)))
        go_roundw
        case rel => exact enc_next ((HB2.out.alloc (by omega) _).grown g3 (by simp; omega) (fun g hg => Nat.le_trans hB (HO2.out.lt g hg).1)) hmc HK.out hr1.2 (enc_run HP.out HE.out HR.out h2 HZ.out) own3 h3 (by intro y hy; simp at hy; rcases hy with hy | hy | hy; exact HX.out y hy; omega; omega) hb3.out
        case measure => simp [lenN]; omega
      · obtain ⟨b, off, hA, _, _⟩ := HB2.out.at_ hpos
        subst hA
        go_wp2_with fail
        go_loopw [5] (fun i wr => ∃ j q : Nat, i = .int .i64 j ∧ 1 ≤ j ∧ j ≤ m ∧ j ≤ 128 ∧ wr = w2.drewN q) (fun i _ => 128 - (intOf i).toNat)
        case atStart => exact ⟨1, 0, rfl, by omega, by omega, by omega, rfl⟩
        case round =>
          obtain ⟨j, q, rfl, hj1, hjm, hj128, hq⟩ := hrel
          obtain ⟨hb3, ho3, hw3⟩ : Bs wr B (some ⟨b, off, none⟩) m (xs.drop k) ∧ wr.ownsRow w.heap.size 5 1 (.slice A2 m2 c2) m2 (x.map (Value.int .u8)) ∧ Below w.heap.size w wr := by
            rw [hq]; exact ⟨HB2.out.drewN q, own_drewN HO2.out q, below_drewN HW2.out q⟩
          have HB3 := Lib.hid hb3
          have HO3 := Lib.hid ho3
          have HW3 := Lib.hid hw3
          have HQ := Lib.hid hq
          have hs3 := hw3.size
          clear hq hb3 ho3 hw3
          by_cases h1 : j < m
          · have d1 : decide ((j : Int) < (m : Int)) = true := by simp; omega
            by_cases h2 : j < 128
            · have d2 : decide ((j : Int) < 128) = true := by simp; omega
              go_wp2_with fail
              have hcut := bs_cut_some HB3.out hjm hmc
              rw [if_neg (by omega)] at hcut
              refine (run_any _ _ _ _ _ _ hcut (by omega)).mono ?_
              clear hcut
              rintro e w4 ⟨rfl, q4, hq4⟩
              obtain ⟨t, ht⟩ : ∃ t, t = Pb.run ((xs.drop k).drop j) := ⟨_, rfl⟩
              rw [← ht]
              have HT := Lib.hid ht
              have HQ4 := Lib.hid (show w4 = w2.drewN (q + q4) from by rw [hq4, HQ.out, World.drewN_drewN])
              clear ht hq4 HB3 HO3 HW3 hs3 HQ
              by_cases h3 : t < 3
              · go_wp2_with fail
                go_roundw
                case rel => exact ⟨j + 1, q + q4, by go_num, by omega, by omega, by omega, HQ4.out⟩
                case measure => simp [intOf]; omega
              · obtain ⟨hb3, ho3, hw3⟩ : Bs w4 B (some ⟨b, off, none⟩) m (xs.drop k) ∧ w4.ownsRow w.heap.size 5 1 (.slice A2 m2 c2) m2 (x.map (Value.int .u8)) ∧ Below w.heap.size w w4 := by
                  rw [HQ4.out]; exact ⟨HB2.out.drewN _, own_drewN HO2.out _, below_drewN HW2.out _⟩
                have HB3 := Lib.hid hb3
                have HO3 := Lib.hid ho3
                have HW3 := Lib.hid hw3
                have hs3 := hw3.size
                clear hb3 ho3 hw3
                go_wp2_with fail
                have HU : Hid (IntKind.u8.wrap (IntKind.i64.wrap ((j : Int) - 1)) = (j : Int) - 1) := Lib.hid (u8_pred j hj1 hj128)
                have hjc : j ≤ c := by omega
                have hjc' : (j : Int) ≤ (c : Int) := by omega
                go_region_law (first | (refine step_append_bs _ rfl (.tmp 43) (.tmp 47) _ rfl w.heap.size 5 i0 _ Try.underlying22 hi hz0 hz1 hz2 rfl _ m2 x rfl ((HO3.out.alloc _).drew) (w4.heap.size + 1) _ 1 1 [IntKind.u8.wrap (IntKind.i64.wrap ((j : Int) - 1))] rfl (bs_one w4 5 _ _ (by rw [HU.out]; omega) (by rw [HU.out]; omega)).drew (by omega) (by simp; omega) ?_; intro A3 c3 w5 own3 h3 h3' g3 l3; rw [HU.out] at own3; have hb3 := Lib.hid (below_append (HW3.out.alloc hs3 _).drew (HO3.out.alloc _).drew (Nat.le_refl _) (by simp; omega) g3); have hs5 := hb3.out.size; have HB5 := Lib.hid (((HB3.out.alloc (by omega) _).drew).grown g3 (by simp; omega) (fun g hg => Nat.le_trans hB (HO3.out.lt g hg).1))) | (refine step_append_bs _ rfl (.tmp 48) (.tmp 51) _ rfl w.heap.size 5 i0 _ Try.underlying22 hi hz0 hz1 hz2 rfl _ (m2 + 1) _ rfl own3 B _ j c _ rfl (HB5.out.take hjm) (by omega) (by omega) ?_; intro A4 c4 w6 own4 h4 h4' g4 l4; have hb4 := Lib.hid (below_append hb3.out own3 (Nat.le_refl _) hs5 g4)))
                all_goals go_wp2
                all_goals go_roundw
                case rel =>
                  have hnext := enc_next (HB5.out.grown g4 (by omega) (fun g hg => Nat.le_trans hB (own3.lt g hg).1)) hmc HK.out hjm (enc_lit HP.out HE.out (by rw [← HR.out]; omega) (by have := hxl.out; have := HK.out; omega) hj1 hj128 (.inr (.inr (by rw [← HT.out]; omega)))) own4 h4 (by intro y hy; simp only [List.mem_append, List.mem_singleton] at hy; rcases hy with (hy | hy) | hy; exact HX.out y hy; omega; exact HB5.out.2.1 y (List.mem_of_mem_take hy)) hb4.out
                  rw [if_neg (by omega)] at hnext
                  exact hnext
                case measure => simp [lenN]; omega
            · have d2 : decide ((j : Int) < 128) = false := by simp; omega
              go_wp2_with fail
              have HU : Hid (IntKind.u8.wrap (IntKind.i64.wrap ((j : Int) - 1)) = (j : Int) - 1) := Lib.hid (u8_pred j hj1 hj128)
              have hjc : j ≤ c := by omega
              have hjc' : (j : Int) ≤ (c : Int) := by omega
              go_region_law (first | (refine step_append_bs _ rfl (.tmp 43) (.tmp 47) _ rfl w.heap.size 5 i0 _ Try.underlying22 hi hz0 hz1 hz2 rfl _ m2 x rfl ((HO3.out.alloc _).drew) (wr.heap.size + 1) _ 1 1 [IntKind.u8.wrap (IntKind.i64.wrap ((j : Int) - 1))] rfl (bs_one wr 5 _ _ (by rw [HU.out]; omega) (by rw [HU.out]; omega)).drew (by omega) (by simp; omega) ?_; intro A3 c3 w5 own3 h3 h3' g3 l3; rw [HU.out] at own3; have hb3 := Lib.hid (below_append (HW3.out.alloc hs3 _).drew (HO3.out.alloc _).drew (Nat.le_refl _) (by simp; omega) g3); have hs5 := hb3.out.size; have HB5 := Lib.hid (((HB3.out.alloc (by omega) _).drew).grown g3 (by simp; omega) (fun g hg => Nat.le_trans hB (HO3.out.lt g hg).1))) | (refine step_append_bs _ rfl (.tmp 48) (.tmp 51) _ rfl w.heap.size 5 i0 _ Try.underlying22 hi hz0 hz1 hz2 rfl _ (m2 + 1) _ rfl own3 B _ j c _ rfl (HB5.out.take hjm) (by omega) (by omega) ?_; intro A4 c4 w6 own4 h4 h4' g4 l4; have hb4 := Lib.hid (below_append hb3.out own3 (Nat.le_refl _) hs5 g4)))
              all_goals go_wp2
              all_goals go_roundw
              case rel =>
                have hnext := enc_next (HB5.out.grown g4 (by omega) (fun g hg => Nat.le_trans hB (own3.lt g hg).1)) hmc HK.out hjm (enc_lit HP.out HE.out (by rw [← HR.out]; omega) (by have := hxl.out; have := HK.out; omega) hj1 hj128 (.inr (.inl (by omega)))) own4 h4 (by intro y hy; simp only [List.mem_append, List.mem_singleton] at hy; rcases hy with (hy | hy) | hy; exact HX.out y hy; omega; exact HB5.out.2.1 y (List.mem_of_mem_take hy)) hb4.out
                rw [if_neg (by omega)] at hnext
                exact hnext
              case measure => simp [lenN]; omega
          · have d1 : decide ((j : Int) < (m : Int)) = false := by simp; omega
            go_wp2_with fail
            have HU : Hid (IntKind.u8.wrap (IntKind.i64.wrap ((j : Int) - 1)) = (j : Int) - 1) := Lib.hid (u8_pred j hj1 hj128)
            have hjc : j ≤ c := by omega
            have hjc' : (j : Int) ≤ (c : Int) := by omega
            go_region_law (first | (refine step_append_bs _ rfl (.tmp 43) (.tmp 47) _ rfl w.heap.size 5 i0 _ Try.underlying22 hi hz0 hz1 hz2 rfl _ m2 x rfl ((HO3.out.alloc _).drew) (wr.heap.size + 1) _ 1 1 [IntKind.u8.wrap (IntKind.i64.wrap ((j : Int) - 1))] rfl (bs_one wr 5 _ _ (by rw [HU.out]; omega) (by rw [HU.out]; omega)).drew (by omega) (by simp; omega) ?_; intro A3 c3 w5 own3 h3 h3' g3 l3; rw [HU.out] at own3; have hb3 := Lib.hid (below_append (HW3.out.alloc hs3 _).drew (HO3.out.alloc _).drew (Nat.le_refl _) (by simp; omega) g3); have hs5 := hb3.out.size; have HB5 := Lib.hid (((HB3.out.alloc (by omega) _).drew).grown g3 (by simp; omega) (fun g hg => Nat.le_trans hB (HO3.out.lt g hg).1))) | (refine step_append_bs _ rfl (.tmp 48) (.tmp 51) _ rfl w.heap.size 5 i0 _ Try.underlying22 hi hz0 hz1 hz2 rfl _ (m2 + 1) _ rfl own3 B _ j c _ rfl (HB5.out.take hjm) (by omega) (by omega) ?_; intro A4 c4 w6 own4 h4 h4' g4 l4; have hb4 := Lib.hid (below_append hb3.out own3 (Nat.le_refl _) hs5 g4)))
            all_goals go_wp2
            all_goals go_roundw
            case rel => exact enc_next (HB5.out.grown g4 (by omega) (fun g hg => Nat.le_trans hB (own3.lt g hg).1)) hmc HK.out hjm (enc_lit HP.out HE.out (by rw [← HR.out]; omega) (by have := hxl.out; have := HK.out; omega) hj1 hj128 (.inl (by have := hxl.out; have := HK.out; omega))) own4 h4 (by intro y hy; simp only [List.mem_append, List.mem_singleton] at hy; rcases hy with (hy | hy) | hy; exact HX.out y hy; omega; exact HB5.out.2.1 y (List.mem_of_mem_take hy)) hb4.out
            case measure => simp [lenN]; omega
end Go.Proofs.Ytekhcinafcbndaa
