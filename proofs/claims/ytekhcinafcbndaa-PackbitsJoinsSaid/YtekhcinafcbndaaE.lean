/- The document's Decode is the plain 'dec'. -/
import Derived.Test.YtekhcinafcbndaaD
namespace Go.Proofs.Ytekhcinafcbndaa
open Go.RowKit

theorem piece_bd {s p t : List Int} (hs : ∀ x ∈ s, 0 ≤ x ∧ x ≤ 255) (h : Pb.piece s = some (p, t)) : p.length ≤ 128 ∧ (∀ x ∈ p, 0 ≤ x ∧ x ≤ 255) ∧ (∀ x ∈ t, 0 ≤ x ∧ x ≤ 255) := by
  cases s with
  | nil => cases h
  | cons c r =>
    have hc := hs c (by simp)
    have hr : ∀ x ∈ r, 0 ≤ x ∧ x ≤ 255 := fun x hx => hs x (by simp [hx])
    by_cases h1 : c = 128
    · subst h1
      rw [Pb.piece_skip] at h
      injection h with h
      injection h with h h'
      subst h h'
      exact ⟨by simp, by simp, hr⟩
    · by_cases h2 : c < 128
      · by_cases h3 : r.length ≤ c.toNat
        · rw [Pb.piece_short c r h2 h3] at h; cases h
        · rw [Pb.piece_lit c r h2 (by omega)] at h
          injection h with h
          injection h with h h'
          subst h h'
          exact ⟨by simp; omega, fun x hx => hr x (List.mem_of_mem_take hx), fun x hx => hr x (List.mem_of_mem_drop hx)⟩
      · cases r with
        | nil => rw [Pb.piece_bare c (by omega)] at h; cases h
        | cons v r =>
          rw [Pb.piece_run c v r (by omega)] at h
          injection h with h
          injection h with h h'
          subst h h'
          exact ⟨by simp; omega, fun x hx => by rw [List.eq_of_mem_replicate hx]; exact hr v (by simp), fun x hx => hr x (by simp [hx])⟩
theorem pieceOf_any (t : List Int) (w : World) (ht : ∀ x ∈ t, 0 ≤ x ∧ x ≤ 255) (hl : t.length ≤ 8000) :
    Calls Try.prog 11 #[.string (strOfNums t)] w fun e w' => e = .returned (pieceV (Pb.piece t)) ∧ ∃ m, w' = w.drewN m := by
  have := piece_any (strOfNums t) w (by rw [strOfNums_size]; exact hl)
  rwa [nums_str t ht] at this

section
variable {N : Int} {xs os t p t' : List Int}
theorem rd_done (hN : 0 ≤ N) (hd : Pb.dec N.toNat [] xs = Pb.dec N.toNat os t) (h : ¬ (os.length : Int) < N) : Pb.res N xs = (os, (xs.length : Int) - (t.length : Int), 0) := by
  rw [Pb.res_of hN (hd.trans (Pb.dec_done _ _ _ (by omega))), if_pos rfl]
theorem rd_cut (hN : 0 ≤ N) (hd : Pb.dec N.toNat [] xs = Pb.dec N.toNat os t) (h : (os.length : Int) < N) (hp : Pb.piece t = none) : Pb.res N xs = ([], 0, 2) := by
  rw [Pb.res_of hN (hd.trans (Pb.dec_cut _ _ _ (by omega) hp)), if_neg (by decide)]
theorem rd_long (hN : 0 ≤ N) (hd : Pb.dec N.toNat [] xs = Pb.dec N.toNat os t) (h : (os.length : Int) < N) (hp : Pb.piece t = some (p, t')) (h' : N < (os.length : Int) + (p.length : Int)) : Pb.res N xs = ([], 0, 5) := by
  rw [Pb.res_of hN (hd.trans (Pb.dec_long _ _ _ _ _ (by omega) hp (by rw [List.length_append]; omega))), if_neg (by decide)]
theorem rd_next (hd : Pb.dec N.toNat [] xs = Pb.dec N.toNat os t) (h : (os.length : Int) < N) (hp : Pb.piece t = some (p, t')) (h' : ¬ N < (os.length : Int) + (p.length : Int)) : Pb.dec N.toNat [] xs = Pb.dec N.toNat (os ++ p) t' := by
  rw [hd]; exact Pb.dec_step _ _ _ _ _ (by omega) hp (by rw [List.length_append]; omega)
end

def strN : Value → Nat
  | .string s => s.size
  | _ => 0
/-- what the document's Decode hands back -/
def RefEnd (w : World) (N : Int) (xs : List Int) (e : Ending) (w' : World) : Prop :=
  (∃ ys k er, e = .returned (.tuple #[.string (strOfNums ys), .int .i64 k, .int .i64 er]) ∧ Pb.res N xs = (ys, k, er)) ∧ ∃ m, w' = w.drewN m
theorem refEnd_err {w : World} {N : Int} {xs : List Int} {er : Int} (h : Pb.res N xs = ([], 0, er)) (m : Nat) : RefEnd w N xs (.returned (.tuple #[.string ⟨#[]⟩, .int .i64 0, .int .i64 er])) (w.drewN m) := ⟨⟨_, _, _, rfl, h⟩, m, rfl⟩

set_option maxRecDepth 10000 in
set_option maxHeartbeats 1000000 in
theorem refdec_any (s : ByteArray) (N : Int) (w : World) (hs : s.size ≤ 8000) (hN : N ≤ 100000) :
    Calls Try.prog 9 #[.string s, .int .i64 N] w fun e w' => RefEnd w N (nums s) e w' := by
  by_cases hneg : N < 0
  · go_enter Try.func9, Try.ntmps9
    go_wp2
    go_ret3
    exact refEnd_err (Pb.res_neg hneg) 0
  · have h0N : 0 ≤ N := by omega
    have HL := Lib.hid (nums_length s)
    go_enter Try.func9, Try.ntmps9
    go_wp2
    go_loopw [7, 8] (fun o r wr => ∃ (os t : List Int) (m : Nat), o = .string (strOfNums os) ∧ r = .string (strOfNums t) ∧ t.length ≤ 8000 ∧ (os.length : Int) ≤ N ∧ wr = w.drewN m ∧
      Hid (Pb.dec N.toNat [] (nums s) = Pb.dec N.toNat os t ∧ (∀ x ∈ t, 0 ≤ x ∧ x ≤ 255))) (fun _ r _ => strN r)
    case atStart => exact ⟨[], nums s, 0, rfl, by rw [str_nums], by rw [HL.out]; exact hs, by simpa using h0N, rfl, Lib.hid ⟨rfl, nums_bd s⟩⟩
    case round =>
      obtain ⟨os, t, m, rfl, rfl, ht, ho, rfl, HH⟩ := hrel
      have HD := Lib.hid HH.out.1
      have HT := Lib.hid HH.out.2
      clear HH
      have hs1 : (strOfNums os).size = os.length := strOfNums_size _
      have hs2 : (strOfNums t).size = t.length := strOfNums_size _
      by_cases hlt : (os.length : Int) < N
      · obtain ⟨q, hq⟩ : ∃ q, Pb.piece t = q := ⟨_, rfl⟩
        have HQ := Lib.hid hq
        go_wp2_with fail
        refine (pieceOf_any _ _ HT.out ht).mono ?_
        rintro e w2 ⟨rfl, m2, rfl⟩
        rw [hq]
        clear hq
        rcases q with _ | ⟨p, t'⟩
        · unfold pieceV
          go_wp2_with fail
          go_ret3
          exact refEnd_err (rd_cut h0N HD.out hlt HQ.out) (m + m2)
        · unfold pieceV
          obtain ⟨p1, p2, p3⟩ := piece_bd HT.out HQ.out
          have hlt' := Pb.piece_lt HQ.out
          have hs3 : (strOfNums p).size = p.length := strOfNums_size _
          have P2 := Lib.hid p2
          have P3 := Lib.hid p3
          clear p2 p3
          go_wp2_with fail
          · have hlong : N < (os.length : Int) + (p.length : Int) := by assumption
            go_ret3
            exact refEnd_err (rd_long h0N HD.out hlt HQ.out hlong) (m + m2)
          · have hok : ¬ N < (os.length : Int) + (p.length : Int) := by first | assumption | omega
            go_roundw
            case rel => exact ⟨os ++ p, t', m + m2, by rw [str_append], rfl, by omega, by rw [List.length_append]; omega, rfl, Lib.hid ⟨rd_next HD.out hlt HQ.out hok, P3.out⟩⟩
            case measure => simp [strN, strOfNums_size]; omega
      · go_wp2_with fail
        go_ret3
        exact ⟨⟨_, _, _, rfl, by rw [rd_done h0N HD.out (by omega), HL.out]⟩, m, rfl⟩
end Go.Proofs.Ytekhcinafcbndaa
