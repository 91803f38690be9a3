/- The walks of the statements that join bytes. -/
import Derived.Test.YteohinhiemibgaaB
import Derived.Test.YteohinhiemibgaaAppend
namespace Go.Proofs.Yteohinhiemibgaa
open Go.RowKit

theorem info5 : (Try.prog.info? 5).map (fun i => (i.zero, i.size, i.bytes)) = some (some (.int .u8 0), 1, 1) := by kernel_rfl

theorem sum_is {S : Int} {A : Option Addr} {n c B : Nat} {xs : List Int} {w : World} (hs : Adl.adl 1 xs = S) (hb : Bs w B A n xs) (hn : n ≤ 8000) :
    Calls Try.prog 9 #[.slice A n c] w fun e w' => e = .returned (.int .u32 S) ∧ w = w' := by
  subst hs; exact sum_any A n c B xs w hb hn
theorem update_is {X S : Int} {A : Option Addr} {n c B : Nat} {xs : List Int} {w : World} (hs : Adl.adl X xs = S) (h0 : 0 ≤ X) (h1 : X < 4294967296) (hb : Bs w B A n xs) (hn : n ≤ 8000) :
    Calls Try.prog 11 #[.int .u32 X, .slice A n c] w fun e w' => e = .returned (.int .u32 S) ∧ w = w' := by
  subst hs; exact update_any X A n c B xs w h0 h1 hb hn
theorem join_is {a b n S : Int} {w : World} (hs : Adl.join a b n = S) (a0 : 0 ≤ a) (a1 : a < 4294967296) (b0 : 0 ≤ b) (b1 : b < 4294967296) (n0 : 0 ≤ n) (n1 : n ≤ 16000) :
    Calls Try.prog 13 #[.int .u32 a, .int .u32 b, .int .u64 n] w fun e w' => e = .returned (.int .u32 S) ∧ w = w' := by
  subst hs; exact join_any a b n w a0 a1 b0 b1 n0 (by omega)
/-- a sum under a name of its own -/
theorem sum_name (xs : List Int) : ∃ S : Int, 0 ≤ S ∧ S < 4294967296 ∧ Hid (Adl.adl 1 xs = S) := ⟨_, (Adl.adl_bd 1 xs).1, (Adl.adl_bd 1 xs).2, Lib.hid rfl⟩

set_option maxHeartbeats 800000 in
theorem joins_walk (A B : Option Addr) (n m c d : Nat) (xs ys : List Int) (w : World) (ha : Bs w w.heap.size A n xs) (hb : Bs w w.heap.size B m ys) (hn : n ≤ 140737488351232) (hm : m ≤ 140737488351232) :
    Calls Try.prog 6 #[.slice A n c, .slice B m d] w fun e w' => e = .returned (.bool true) ∧ Below w.heap.size w w' := by
  have HA := Lib.hid ha
  have HB := Lib.hid hb
  clear ha hb
  obtain ⟨i0, hi, hz0, hz1, hz2⟩ := info_parts info5
  by_cases hl : 8000 < n + m
  · go_enter Try.func6, Try.ntmps6
    go_wp2_with fail
    refine (lives_any _).mono ?_
    rintro e w1 ⟨rfl, hb1⟩
    go_wp2_with fail
    refine (lives_any _).mono ?_
    rintro e w2 ⟨rfl, hb2⟩
    go_wp2
    go_ret
    exact ⟨rfl, hb1.trans (hb2.mono hb1.size)⟩
  · go_enter Try.func6, Try.ntmps6
    go_wp2_with fail
    refine (lives_any _).mono ?_
    rintro e w1 ⟨rfl, hb1⟩
    have HA1 := Lib.hid (HA.out.below hb1)
    have HB1 := Lib.hid (HB.out.below hb1)
    have hs1 := hb1.size
    obtain ⟨X, x0, x1, HX⟩ := sum_name xs
    obtain ⟨Y, y0, y1, HY⟩ := sum_name ys
    obtain ⟨S, s0, s1, HS⟩ := sum_name (xs ++ ys)
    have HU : Hid (Adl.adl X ys = S) := Lib.hid (by rw [← HX.out, ← HS.out]; exact Adl.adl_append 1 xs ys)
    have HJ : Hid (Adl.join X Y m = S) := Lib.hid (by rw [← HX.out, ← HY.out, ← HS.out]; exact Adl.join_adl xs ys m (by rw [HB.out.1]))
    have hw0 : (w1.alloc (.cells #[] 5)).ownsRow w1.heap.size 5 1 (.slice (some ⟨w1.heap.size, 0, none⟩) 0 0) 0 (([] : List Int).map (Value.int .u8)) :=
      World.ownsRow_made w1 #[] 0 (Nat.le_refl _) (by unfold maxLen; omega) (by simp)
    have hb2 : Below w.heap.size w (w1.alloc (.cells #[] 5)) := hb1.alloc hs1 _
    go_wp2_with (first
      | (at_builtin; refine wpList_append_bs _ rfl (.tmp 18) (.tmp 19) _ rfl w1.heap.size 5 i0 _ Try.underlying23 hi hz0 hz1 hz2 rfl _ 0 [] rfl hw0 w.heap.size A n c xs rfl (HA1.out.alloc hs1 _) (by omega) (by simp) ?_; intro A2 c2 w2 own2 h2 h2' g2 l2; simp only [Nat.zero_add, List.nil_append] at own2 h2 g2 l2; have hb3 := Lib.hid (below_append hb2 hw0 hs1 (by simp; omega) g2))
      | (at_builtin; refine wpList_append_bs _ rfl (.tmp 20) (.tmp 21) _ rfl w1.heap.size 5 i0 _ Try.underlying23 hi hz0 hz1 hz2 rfl _ n xs rfl own2 w.heap.size B m d ys rfl (HB.out.below hb3.out) (by omega) (by have := g2.size; simp at this; omega) ?_; intro A3 c3 w3 own3 h3 h3' g3 l3; have hb4 := Lib.hid (below_append hb3.out own2 hs1 hb3.out.size g3)))
    have HA4 := Lib.hid (HA.out.below hb4.out)
    have HB4 := Lib.hid (HB.out.below hb4.out)
    have HC := Lib.hid (Bs.of_own own3 (fun x hx => (List.mem_append.1 hx).elim (HA.out.2.1 x) (HB.out.2.1 x)))
    clear own2 own3 g2 g3 l2 l3 hw0
    refine (sum_is HS.out HC.out (by omega)).mono ?_
    rintro e w' ⟨rfl, rfl⟩
    go_wp2_with fail
    refine (sum_is HX.out HA4.out (by omega)).mono ?_
    rintro e w' ⟨rfl, rfl⟩
    go_wp2_with fail
    refine (update_is HU.out x0 x1 HB4.out (by omega)).mono ?_
    rintro e w' ⟨rfl, rfl⟩
    go_wp2_with fail
    refine (sum_is HX.out HA4.out (by omega)).mono ?_
    rintro e w' ⟨rfl, rfl⟩
    go_wp2_with fail
    refine (sum_is HY.out HB4.out (by omega)).mono ?_
    rintro e w' ⟨rfl, rfl⟩
    go_wp2_with fail
    refine (join_is HJ.out x0 x1 y0 y1 (by omega) (by omega)).mono ?_
    rintro e w' ⟨rfl, rfl⟩
    go_wp2
    go_ret
    exact ⟨rfl, hb4.out⟩
