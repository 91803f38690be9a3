/- Words for a slice of bytes: it reads as a list of integers, whatever its address; kept over all that a call does to other memory. No function of the program stands here. -/
import Derived.WalkKit
import Derived.Below
import Derived.Laws.OwnMore
import Derived.Deep.AppendLies
import Derived.Deep.Draws
import Derived.Laws.Rows
import Derived.Laws.BytesArg
import Derived.Lib.SlBytesConst
import Derived.Laws.IdiomStrings
import Derived.WalkSpells
namespace Go.Proofs.Ytfdgipbnbalcjaa
open Go.RowKit

theorem ret_int {k : IntKind} {a b : Int} (h : a = b) : Ending.returned (.int k a) = .returned (.int k b) := by rw [h]
theorem ret_bool {a b : Bool} (h : a = b) : Ending.returned (.bool a) = .returned (.bool b) := by rw [h]
theorem bcell {W w1 : World} (hb : Below W.heap.size W w1) :
    (∀ b o, b < W.heap.size → w1.cell? ⟨b, o, none⟩ = W.cell? ⟨b, o, none⟩) ∧ (∀ b o, b < W.heap.size → w1.frozen? ⟨b, o, none⟩ = W.frozen? ⟨b, o, none⟩) :=
  ⟨fun b o h => hb.cell (p := ⟨b, o, none⟩) h, fun b o h => hb.frozen (p := ⟨b, o, none⟩) h⟩

/-- the slice value '.slice A n c' holds the bytes xs, below block B -/
def Bs (w : World) (B : Nat) (A : Option Addr) (n : Nat) (xs : List Int) : Prop :=
  xs.length = n ∧ (∀ x ∈ xs, 0 ≤ x ∧ x ≤ 255) ∧
    (0 < n → ∃ b off, A = some ⟨b, off, none⟩ ∧ b < B ∧ ∀ j, j < n → w.cell? ⟨b, off + j, none⟩ = some (.int .u8 (xs.getD j 0)))

section
variable {w w' : World} {B B' n : Nat} {A : Option Addr} {xs : List Int}
theorem Bs.nil (w : World) (B : Nat) (A : Option Addr) : Bs w B A 0 [] := ⟨rfl, by simp, fun h => absurd h (by omega)⟩
theorem Bs.at_ (h : Bs w B A n xs) {k : Nat} (hk : k < n) : ∃ b off, A = some ⟨b, off, none⟩ ∧ b < B ∧ w.cell? ⟨b, off + k, none⟩ = some (.int .u8 (xs.getD k 0)) := by
  obtain ⟨b, off, e, hb, hc⟩ := h.2.2 (by omega)
  exact ⟨b, off, e, hb, hc k hk⟩
theorem Bs.bd (h : Bs w B A n xs) (k : Nat) : 0 ≤ xs.getD k 0 ∧ xs.getD k 0 ≤ 255 := by
  rw [List.getD_eq_getElem?_getD]
  rcases hx : xs[k]? with _ | x
  · simp
  · simpa using h.2.1 x (List.mem_of_getElem? hx)
theorem Bs.keep (h : Bs w B A n xs) (hk : ∀ b o, b < B → w'.cell? ⟨b, o, none⟩ = w.cell? ⟨b, o, none⟩) : Bs w' B A n xs :=
  ⟨h.1, h.2.1, fun hn => by
    obtain ⟨b, off, e, hb, hc⟩ := h.2.2 hn
    exact ⟨b, off, e, hb, fun j hj => (hk _ _ hb).trans (hc j hj)⟩⟩
theorem Bs.more (h : Bs w B A n xs) (hB : B ≤ B') : Bs w B' A n xs :=
  ⟨h.1, h.2.1, fun hn => by
    obtain ⟨b, off, e, hb, hc⟩ := h.2.2 hn
    exact ⟨b, off, e, by omega, hc⟩⟩
theorem Bs.below (h : Bs w B A n xs) (hb : Below B w w') : Bs w' B A n xs := h.keep fun b o hp => hb.cell (p := ⟨b, o, none⟩) hp
theorem Bs.drew (h : Bs w B A n xs) : Bs w.drew B A n xs := h
theorem Bs.drewN (h : Bs w B A n xs) (k : Nat) : Bs (w.drewN k) B A n xs := h
theorem Bs.alloc (h : Bs w B A n xs) (hB : B ≤ w.heap.size) (o : Obj) : Bs (w.alloc o) B A n xs := h.keep fun b o' hp => World.cell?_alloc_lt w o _ (by show b < _; omega)
theorem Bs.setCell (h : Bs w B A n xs) {p : Addr} (hB : B ≤ p.block) (u : Value) : Bs (w.setCell p u) B A n xs :=
  h.keep fun b o hq => World.cell?_setCell_other w p _ u (fun e => by subst e; simp at hB; omega)
theorem Bs.grown (h : Bs w B A n xs) {row : Option Nat} (hg : w.grownBy w' row) (hB : B ≤ w.heap.size) (hr : ∀ g, row = some g → B ≤ g) : Bs w' B A n xs :=
  h.keep fun b o hp => World.cell?_of_block (hg.block b (by omega) (fun e => by have := hr _ e.symm; omega))
/-- the first m of them -/
theorem Bs.take (h : Bs w B A n xs) {m : Nat} (hm : m ≤ n) : Bs w B A m (xs.take m) := by
  refine ⟨by rw [List.length_take, h.1]; omega, fun x hx => h.2.1 x (List.mem_of_mem_take hx), fun h0 => ?_⟩
  obtain ⟨b, off, e, hb, hc⟩ := h.2.2 (by omega)
  refine ⟨b, off, e, hb, fun j hj => ?_⟩
  rw [hc j (by omega), List.getD_eq_getElem?_getD, List.getD_eq_getElem?_getD, List.getElem?_take, if_pos hj]
/-- what is behind the first k of them -/
theorem Bs.cut (h : Bs w B A n xs) {k cap : Nat} (hk : k ≤ n) (hc : n ≤ cap) :
    Bs w B (if cap = k then A else A.map (·.add k)) (n - k) (xs.drop k) := by
  refine ⟨by rw [List.length_drop, h.1], fun x hx => h.2.1 x (List.mem_of_mem_drop hx), fun hn => ?_⟩
  obtain ⟨b, off, rfl, hb, hcell⟩ := h.2.2 (by omega)
  rw [if_neg (by omega)]
  refine ⟨b, off + k, ?_, hb, fun j hj => ?_⟩
  · by_cases h0 : k = 0 <;> simp [Addr.add, h0]
  · rw [Nat.add_assoc, hcell (k + j) (by omega), List.getD_eq_getElem?_getD, List.getD_eq_getElem?_getD, List.getElem?_drop]
/-- as the laws on appends ask it -/
theorem Bs.cells {ad : Addr} (h : Bs w B (some ad) n xs) : ∀ (j : Nat) (u : Value), (xs.map (Value.int .u8))[j]? = some u → w.cell? (ad.add j) = some u := by
  intro j u hu
  have hj : j < xs.length := by
    rcases Nat.lt_or_ge j xs.length with h | h
    · exact h
    · rw [List.getElem?_eq_none (by simpa using h)] at hu; cases hu
  obtain ⟨b, off, e, _, hc⟩ := h.2.2 (by have := h.1; omega)
  injection e with e
  subst e
  have he : (⟨b, off, none⟩ : Addr).add j = ⟨b, off + j, none⟩ := by unfold Addr.add; split <;> simp_all
  rw [he, hc j (by have := h.1; omega)]
  simp [List.getElem?_eq_getElem hj] at hu ⊢
  exact hu
theorem Bs.of_cells {b : Nat} (hl : xs.length = n) (hx : ∀ x ∈ xs, 0 ≤ x ∧ x ≤ 255) (hb : b < B) {off : Nat} (hc : ∀ j, j < n → w.cell? ⟨b, off + j, none⟩ = some (.int .u8 (xs.getD j 0))) : Bs w B (some ⟨b, off, none⟩) n xs :=
  ⟨hl, hx, fun _ => ⟨b, off, rfl, hb, hc⟩⟩
/-- a slice that the call made, and that owns its bytes -/
theorem Bs.of_own {base : Nat} {e : TypeId} {c : Nat} (h : w.ownsRow base e 1 (.slice A n c) n (xs.map (Value.int .u8))) (hx : ∀ x ∈ xs, 0 ≤ x ∧ x ≤ 255) : Bs w w.heap.size A n xs := by
  have hl : xs.length = n := by have := h.1; simpa using this
  refine ⟨hl, hx, fun hn => ?_⟩
  obtain ⟨g, cap, hv, _, hlt⟩ := h.form hn
  have hA : A = some ⟨g, 0, none⟩ := by injection hv
  subst hA
  refine ⟨g, 0, rfl, hlt, fun j hj => ?_⟩
  have := h.cells (g := g) rfl j (.int .u8 (xs.getD j 0)) (by
    rw [List.getElem?_map, List.getElem?_eq_getElem (by omega), List.getD_eq_getElem?_getD, List.getElem?_eq_getElem (by omega)]; rfl)
  have he : (⟨g, 0, none⟩ : Addr).add j = ⟨g, 0 + j, none⟩ := by unfold Addr.add; split <;> simp_all
  rwa [he] at this

/-- string(b) -/
theorem Bs.run_string (h : Bs w B A n xs) {P : Program} {src e dst : TypeId} (hs : P.underlying src = some (.slice e)) (he : P.underlying e = some (.int .u8)) (hd : P.underlying dst = some .string) (cap : Nat) :
    (convert src dst (.slice A n cap)).run P w = .ok (.string (strOfNums xs)) w := by
  rcases A with _ | ad
  · have hn : xs = [] := by
      rcases Nat.eq_zero_or_pos n with h0 | h0
      · exact List.eq_nil_of_length_eq_zero (by rw [h.1, h0])
      · obtain ⟨b, off, e, _⟩ := h.2.2 h0
        cases e
    subst hn
    exact run_convert_bytes_nil w src e hs he n cap dst hd
  · have hl : (loadCells ad n).run P w = .ok (xs.map (Value.int .u8)).toArray w := by
      have := run_loadCells_list (P := P) (w := w) ad (xs.map (Value.int .u8)) h.cells
      simpa [h.1] using this
    rw [run_convert_bytes_string w src dst e _ n cap hs he hd, run_bytesToString w _ n cap xs hl, foldl_push_bytes]
    simp [strOfNums, ByteArray.empty, ByteArray.emptyWithCapacity]
    rfl
end

/-- the bytes of a string, as integers -/
def nums (s : ByteArray) : List Int := s.data.toList.map fun b => (b.toNat : Int)
theorem nums_bd (s : ByteArray) : ∀ x ∈ nums s, 0 ≤ x ∧ x ≤ 255 := by
  intro x hx
  obtain ⟨b, _, rfl⟩ := List.mem_map.1 hx
  have := b.toNat_lt
  omega
theorem nums_length (s : ByteArray) : (nums s).length = s.size := by unfold nums; rw [List.length_map, Array.length_toList]; rfl
theorem nums_str (xs : List Int) (h : ∀ x ∈ xs, 0 ≤ x ∧ x ≤ 255) : nums (strOfNums xs) = xs := by
  unfold nums
  rw [strOfNums_data, List.map_map]
  conv => rhs; rw [← List.map_id xs]
  apply List.map_congr_left
  intro x hx
  have := h x hx
  show (((UInt8.ofNat x.toNat).toNat : Nat) : Int) = x
  rw [UInt8.toNat_ofNat']
  omega
theorem str_nums (s : ByteArray) : strOfNums (nums s) = s := by
  unfold strOfNums nums
  rw [List.map_map]
  have : (s.data.toList.map ((fun n : Int => UInt8.ofNat n.toNat) ∘ fun b => (b.toNat : Int))) = s.data.toList := by
    conv => rhs; rw [← List.map_id s.data.toList]
    apply List.map_congr_left
    intro b _
    simp
  rw [this]
theorem nums_at (s : ByteArray) (k : Nat) (h : k < s.size) : (nums s).getD k 0 = (s[k].toNat : Int) := by
  have hk : k < s.data.toList.length := by rw [Array.length_toList]; exact h
  unfold nums
  rw [List.getD_eq_getElem?_getD, List.getElem?_map, List.getElem?_eq_getElem hk]
  rfl
end Go.Proofs.Ytfdgipbnbalcjaa
