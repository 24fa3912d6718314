/- The numbers and pieces of the walks, and those of plain lists. -/
import Derived.Test.YtpmmaickjolimaaGreatDoorCf
import Derived.Test.YtpmmaickjolimaaGreatDoorCq
namespace Go.Proofs.YtpmmaickjolimaaGreatDoor.Ci
open Go.RowKit

theorem dropWhile_all {α : Type} (p : α → Bool) : ∀ l : List α, (∀ x ∈ l, p x = true) → l.dropWhile p = []
  | [], _ => rfl
  | a :: l, h => by
    rw [List.dropWhile_cons, if_pos (h a (List.mem_cons_self ..))]
    exact dropWhile_all p l fun x hx => h x (List.mem_cons_of_mem _ hx)
theorem trim_iff (l cs : List UInt8) : Lib.trimS l cs = [] ↔ ∀ x ∈ l, cs.contains x = true := by
  constructor
  · exact trim_nil
  · intro h
    unfold Lib.trimS Lib.trimLeftS Lib.trimRightS
    rw [dropWhile_all _ l.reverse fun x hx => h x (List.mem_reverse.1 hx)]
    rfl
set_option maxRecDepth 100000 in
theorem digs_has (b : UInt8) : digs.data.toList.contains b = digB b := by
  have key : ∀ n : Fin 256, digs.data.toList.contains (UInt8.ofNat n.val) = digB (UInt8.ofNat n.val) := by decide +kernel
  have := key ⟨b.toNat, b.toNat_lt⟩
  rwa [show UInt8.ofNat b.toNat = b by simp] at this
set_option maxRecDepth 100000 in
theorem hexs_has (b : UInt8) : hexs.data.toList.contains b = hexB b := by
  have key : ∀ n : Fin 256, hexs.data.toList.contains (UInt8.ofNat n.val) = hexB (UInt8.ofNat n.val) := by decide +kernel
  have := key ⟨b.toNat, b.toNat_lt⟩
  rwa [show UInt8.ofNat b.toNat = b by simp] at this
theorem trim_digs (l : List UInt8) : Lib.trimS l digs.data.toList = [] ↔ l.all digB = true := by
  rw [trim_iff, List.all_eq_true]
  simp only [digs_has]
theorem trim_hexs (l : List UInt8) : Lib.trimS l hexs.data.toList = [] ↔ l.all hexB = true := by
  rw [trim_iff, List.all_eq_true]
  simp only [hexs_has]
theorem decFrom_digs : ∀ (l : List UInt8) (a : Nat), l.all digB = true → Lib.decFrom a l = some (l.foldl (fun a b => a * 10 + (b.toNat - 48)) a)
  | [], _, _ => rfl
  | b :: l, a, h => by
    rw [List.all_cons, Bool.and_eq_true_iff] at h
    have hb := h.1
    unfold digB at hb
    simp only [Bool.and_eq_true, decide_eq_true_eq] at hb
    unfold Lib.decFrom Lib.digitVal
    rw [if_pos hb]
    exact decFrom_digs l _ h.2
theorem numQ_eq (s : ByteArray) : numQ s = (numL s.data.toList).map Int.ofNat := by
  unfold numQ numL
  rw [Lib.size_eq]
  generalize s.data.toList = l
  cases l with
  | nil =>
    rw [if_neg (by simp [Lib.trimS, Lib.trimLeftS, Lib.trimRightS]), if_neg (by simp)]
    rfl
  | cons b r =>
    by_cases h : 3 < (b :: r).length ∨ (1 < (b :: r).length ∧ (b :: r)[0]? = some 48) ∨ Lib.trimS (b :: r) digs.data.toList ≠ []
    · rw [if_pos h, if_neg]
      · rfl
      · rintro ⟨-, h2, h3, h4⟩
        rcases h with h | ⟨h5, h6⟩ | h
        · omega
        · exact h3 h5 h6
        · exact h ((trim_digs _).2 h4)
    · have h1 : ¬ 3 < (b :: r).length := fun f => h (.inl f)
      have h2 : ¬ (1 < (b :: r).length ∧ (b :: r)[0]? = some 48) := fun f => h (.inr (.inl f))
      have h3 : Lib.trimS (b :: r) digs.data.toList = [] := Classical.byContradiction fun f => h (.inr (.inr f))
      have hd := (trim_digs _).1 h3
      rw [if_neg h, if_pos ⟨by simp, by omega, fun f g => h2 ⟨f, g⟩, hd⟩]
      have hb := hd
      rw [List.all_cons, Bool.and_eq_true_iff] at hb
      have hb := hb.1
      unfold digB at hb
      simp only [Bool.and_eq_true, decide_eq_true_eq] at hb
      unfold Lib.atoi
      have n1 : (b == 45) = false := by
        rw [beq_eq_false_iff_ne]; rintro rfl; exact absurd hb.1 (by decide)
      have n2 : (b == 43) = false := by
        rw [beq_eq_false_iff_ne]; rintro rfl; exact absurd hb.1 (by decide)
      simp only [n1, n2, Bool.false_eq_true, if_false]
      unfold Lib.decNat
      rw [if_neg (by simp), decFrom_digs _ 0 hd]
      rfl
theorem pieces_data (s : ByteArray) (c : UInt8) : (pieces s ⟨#[c]⟩).map (·.data.toList) = splitL c s.data.toList := by
  unfold pieces
  rw [Lib.splitB_data]
  exact splitK_one c _ _ (Lib.count_one c s.data.toList).symm
theorem byteL_eq (p : ByteArray) : byteL p.data.toList = if okB p = true then some (numOr p) else none := by
  unfold byteL okB numOr
  rw [numQ_eq p]
  cases h : numL p.data.toList with
  | none => rfl
  | some n =>
    by_cases h2 : n ≤ 255
    · simp [h2, (by omega : (n : Int) ≤ 255)]
    · simp [h2]
      omega
theorem allB_eq : ∀ (ps : List ByteArray), allB (ps.map (·.data.toList)) = if ps.all okB = true then some (ps.map numOr) else none
  | [] => rfl
  | p :: ps => by
    rw [List.map_cons, allB, allB_eq ps, List.all_cons, byteL_eq, List.map_cons]
    generalize okB p = a
    generalize ps.all okB = b
    cases a <;> cases b <;> rfl
theorem fourQ_eq (s : ByteArray) : fourQ s = fourT s.data.toList := by
  unfold fourQ fourT fourL
  have hp := pieces_data s 46
  rw [← hp, List.length_map, allB_eq]
  show (if (decide ((pieces s dot).length = 4) && (pieces s dot).all okB) = true then _ else _) = _
  by_cases h : (pieces s ⟨#[46]⟩).length = 4
  · rw [if_pos h]
    have : decide ((pieces s dot).length = 4) = true := decide_eq_true h
    rw [this, Bool.true_and]
    rfl
  · rw [if_neg h]
    have : decide ((pieces s dot).length = 4) = false := decide_eq_false h
    rw [this]
    rfl
/-- One group of a text. -/
def grpOk (x : ByteArray) : Bool := (grpL x.data.toList).isSome
def grpOr (x : ByteArray) : Nat := (grpL x.data.toList).getD 0
theorem grpL_eq (p : ByteArray) : grpL p.data.toList = if grpOk p = true then some (grpOr p) else none := by
  unfold grpOk grpOr
  cases grpL p.data.toList <;> rfl
theorem allL_eq : ∀ (ps : List ByteArray), allL (ps.map (·.data.toList)) = if ps.all grpOk = true then some (ps.map grpOr) else none
  | [] => rfl
  | p :: ps => by
    rw [List.map_cons, allL, allL_eq ps, List.all_cons, grpL_eq, List.map_cons]
    generalize grpOk p = a
    generalize ps.all grpOk = b
    cases a <;> cases b <;> rfl
theorem grpL_some {x : ByteArray} (h : grpOk x = true) : 1 ≤ x.size ∧ x.size ≤ 4 ∧ x.data.toList.all hexB = true ∧ grpOr x = x.data.toList.foldl (fun a b => a * 16 + hexV b) 0 := by
  unfold grpOk at h
  unfold grpOr
  unfold grpL at h ⊢
  split at h
  · rename_i hc
    rw [if_pos hc]
    rw [← Lib.size_eq] at hc
    exact ⟨hc.1, hc.2.1, hc.2.2, rfl⟩
  · cases h
end Go.Proofs.YtpmmaickjolimaaGreatDoor.Ci
