/- What the reference's six asks: plain facts. -/
import Derived.Test.YtpmmaickjolimaaGreatDoorEe
import Derived.Test.YtpmmaickjolimaaGreatDoorCx
import Derived.Lib.Index
namespace Go.Proofs.YtpmmaickjolimaaGreatDoor.Ci
open Go.RowKit

theorem occ2 (l : List UInt8) (k : Nat) (h : k + 1 < l.length) : Lib.occAt l [58, 58] k = (l[k] == 58 && l[k + 1] == 58) := by
  have e : l.drop k = l[k] :: l[k + 1] :: l.drop (k + 2) := by
    rw [List.drop_eq_getElem_cons (by omega : k < l.length), List.drop_eq_getElem_cons h]
  unfold Lib.occAt
  rw [e]
  show ((58 == l[k]) && ((58 == l[k + 1]) && List.isPrefixOf [] _)) = _
  rw [show List.isPrefixOf ([] : List UInt8) (l.drop (k + 2)) = true by cases l.drop (k + 2) <;> rfl, Bool.and_true, Bool.beq_comm, Bool.beq_comm (a := (58 : UInt8))]
theorem occ_far (l : List UInt8) (k : Nat) (h : ¬ k + 1 < l.length) : Lib.occAt l [58, 58] k = false := by
  rw [Bool.eq_false_iff]
  intro f
  rcases Lib.occAt_room f with g | g
  · have : k + 2 ≤ l.length := g
    omega
  · cases g
theorem cut_found (l : List UInt8) (k : Nat) (h : k + 2 ≤ l.length) (ho : Lib.occAt l [58, 58] k = true) (hn : ∀ j, j < k → Lib.occAt l [58, 58] j = false) : Lib.cut l [58, 58] = (l.take k, l.drop (k + 2), true) := by
  have hi := Lib.index_first (by omega : k ≤ l.length) ho hn
  unfold Lib.cut
  rw [hi, if_pos (by omega)]
  rfl
theorem cut_lost (l : List UInt8) (k : Nat) (h : ¬ k + 1 < l.length) (hn : ∀ j, j < k → Lib.occAt l [58, 58] j = false) : Lib.cut l [58, 58] = (l, [], false) := by
  have hi : Lib.index l [58, 58] = -1 := Lib.index_none fun j _ => by
    by_cases hj : j < k
    · exact hn j hj
    · exact occ_far l j (by omega)
  unfold Lib.cut
  rw [hi, if_neg (by decide)]
/-- An address of IPv6 whose first groups are there. -/
def sixR (xs : List Nat) : Nt := ⟨true, 128, bytesL xs ++ List.replicate (16 - 2 * xs.length) 0⟩
theorem sixR_fits (xs : List Nat) (h : xs.length ≤ 8) (hx : ∀ g ∈ xs, g < 65536) : (sixR xs).Fits := by
  refine ⟨by simp [sixR], by simp [sixR], by simp [sixR, bytesL_len]; omega, fun x hm => ?_⟩
  unfold sixR at hm
  rcases List.mem_append.1 hm with f | f
  · exact bytesL_lt xs hx x f
  · obtain ⟨-, rfl⟩ := List.mem_replicate.1 f
    decide
theorem netC_set2 (n : Nt) (k x y : Nat) : ((netC n).set (2 + k) (u8V x)).set (2 + k + 1) (u8V y) = netC { n with addr := (n.addr.set k x).set (k + 1) y } := by
  rw [netC_set, Nat.add_assoc, netC_set]
theorem sixR_set (xs : List Nat) (g : Nat) (h : xs.length < 8) : ((netC (sixR xs)).set (2 + 2 * xs.length) (u8V (g / 256))).set (2 + 2 * xs.length + 1) (u8V (g % 256)) = netC (sixR (xs ++ [g])) := by
  rw [netC_set2]
  congr 1
  unfold sixR
  congr 1
  have hl := bytesL_len xs
  rw [bytesL_app, List.set_append_right _ _ (by omega), List.set_append_right _ _ (by omega), hl, Nat.sub_self, (by omega : 2 * xs.length + 1 - 2 * xs.length = 1), List.length_append, List.length_singleton, (by omega : 16 - 2 * xs.length = (16 - 2 * (xs.length + 1)) + 1 + 1), List.replicate_succ, List.replicate_succ, List.set_cons_zero, List.set_cons_succ, List.set_cons_zero, List.append_assoc]
  rfl
/-- The eight groups: those ahead, zeros, those behind. -/
def allR (a b : List Nat) : List Nat := a ++ List.replicate (8 - a.length - b.length) 0 ++ b
theorem allR_len (a b : List Nat) (h : a.length + b.length ≤ 8) : (allR a b).length = 8 := by
  simp [allR]; omega
theorem splice_one (a : List Nat) : splice ((allR [] []).map intV) 0 (a.map intV) = (allR a []).map intV := by
  unfold splice
  rw [show allR [] [] = List.replicate 8 0 from rfl, List.map_replicate, List.drop_replicate, List.take_zero, List.nil_append, List.length_map, Nat.zero_add]
  unfold allR
  rw [List.map_append, List.map_append, List.map_replicate, List.map_nil, List.append_nil]
  rfl
theorem splice_two (a b : List Nat) (h : a.length + b.length ≤ 8) : splice ((allR a []).map intV) (8 - b.length) (b.map intV) = (allR a b).map intV := by
  have hl : (allR a []).length = 8 := allR_len a [] (by simp; omega)
  unfold splice
  rw [← List.map_take, List.length_map, (by omega : 8 - b.length + b.length = 8), ← List.map_drop, List.drop_of_length_le (by omega), List.map_nil, List.append_nil, ← List.map_append]
  congr 1
  unfold allR
  rw [List.append_nil, List.take_append, List.take_of_length_le (by omega), List.take_replicate, List.length_nil]
  congr 2
  congr 1
  omega
def sixM (o1 o2 : Option (List Nat)) (sh : Bool) : Option Nt := match o1, o2 with
  | some a, some b => if sh then (if a.length + b.length ≤ 7 then some ⟨true, 128, bytesL (allR a b)⟩ else none) else (if a.length = 8 then some ⟨true, 128, bytesL a⟩ else none)
  | _, _ => none
theorem sixQ_eq (l : List UInt8) : sixQ l = sixM (groupsL (Lib.cut l [58, 58]).1) (groupsL (Lib.cut l [58, 58]).2.1) (Lib.cut l [58, 58]).2.2 := by
  unfold sixQ sixL sixM
  cases groupsL (Lib.cut l [58, 58]).1 with
  | none => rfl
  | some a =>
    cases groupsL (Lib.cut l [58, 58]).2.1 with
    | none => rfl
    | some b =>
      simp only
      split
      · split <;> rfl
      · split <;> rfl
theorem int_size : (Tryz.prog.info? 3).map (·.size) = some 1 := by kernel_rfl
theorem ints_one (l : List Nat) : ∀ v ∈ l.map intV, v.oneCell' = true := by
  intro v hv
  obtain ⟨x, -, rfl⟩ := List.mem_map.1 hv
  rfl
theorem int_elem : Tryz.prog.elem 128 = 3 := by kernel_rfl
theorem slice8 (g n : Nat) (hn : n ≤ 8) : ∃ dp : Addr, (0 < n → dp = ⟨g, 8 - n, none⟩) ∧ ∀ W : World, (Instr.sliceAt 128 (.slice (some ⟨g, 0, none⟩) 8 8) (some (.int .i64 (8 - (n : Int)))) none none).run Tryz.prog W = .ok (.slice (some dp) n n) W := by
  refine ⟨if 8 = 8 - n then ⟨g, 0, none⟩ else ⟨g, 8 - n, none⟩, fun h => if_neg (by omega), fun W => ?_⟩
  rw [run_sliceAt_slice W 128 _ _ _ _ (by kernel_rfl), run_slice_l W 128 _ _ _ (by kernel_rfl) .i64 _ (by omega) (by omega), int_elem, Tryz.sizeOf3]
  simp only [Result.andThen_ok, sliced, (by omega : (8 - (n : Int)).toNat = 8 - n), (by omega : 8 - (8 - n) = n), Nat.mul_one]
  by_cases h : 8 = 8 - n
  · rw [if_pos h, if_pos h]
  · rw [if_neg h, if_neg h]
    show Result.ok (Value.slice (some ((⟨g, 0, none⟩ : Addr).add (8 - n))) n n) W = _
    rw [addr_add, Nat.zero_add]
theorem RGPost.out {o : Option (List Nat)} {w w' : World} {e : Ending} (h : RGPost o w e w') :
    ∃ (x : Option Addr) (n p : Nat), e = .returned (.tuple #[.slice x n p, .bool o.isSome]) ∧ Bel w w' ∧ ∀ gs, o = some gs → n = gs.length ∧ w'.ownsRow w.heap.size 3 1 (.slice x n p) n (gs.map intV) := by
  cases o with
  | none =>
    obtain ⟨rfl, hb⟩ := h
    exact ⟨none, 0, 0, rfl, hb, fun gs f => by cases f⟩
  | some gs =>
    obtain ⟨v, rfl, ho, hb⟩ := h
    obtain ⟨x, p, rfl, h1, h2⟩ := row_shape ho
    exact ⟨x, _, p, rfl, hb, fun gs2 f => by cases f; exact ⟨rfl, ho⟩⟩
end Go.Proofs.YtpmmaickjolimaaGreatDoor.Ci
