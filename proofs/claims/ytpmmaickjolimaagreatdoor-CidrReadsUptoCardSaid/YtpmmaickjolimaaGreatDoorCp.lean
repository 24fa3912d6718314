/- Texts of addresses, in plain lists of bytes. -/
import Derived.Lib.SplitLaws
import Derived.Lib.Atoi
import Derived.Lib.SlTrimSet
import Derived.Lib.ItoaNum
import Derived.Lib.Join
namespace Go.Proofs.YtpmmaickjolimaaGreatDoor.Ci

/-- The pieces between separators of one byte. -/
def splitL (c : UInt8) : List UInt8 → List (List UInt8)
  | [] => [[]]
  | b :: l => if b = c then [] :: splitL c l else match splitL c l with
    | p :: ps => (b :: p) :: ps
    | [] => [[b]]
theorem splitL_ne (c : UInt8) : ∀ l, splitL c l ≠ []
  | [] => by simp [splitL]
  | b :: l => by
    unfold splitL
    split
    · simp
    · split <;> simp
/-- A text without the separator ahead of one: the first piece. -/
theorem splitL_app (c : UInt8) : ∀ (p l : List UInt8), c ∉ p → splitL c (p ++ c :: l) = p :: splitL c l
  | [], l, _ => by simp [splitL]
  | b :: p, l, h => by
    have hb : b ≠ c := fun e => h (by simp [e])
    have ih := splitL_app c p l (fun e => h (List.mem_cons_of_mem _ e))
    show splitL c (b :: (p ++ c :: l)) = _
    rw [splitL, if_neg hb, ih]
theorem splitL_none (c : UInt8) : ∀ (p : List UInt8), c ∉ p → splitL c p = [p]
  | [], _ => rfl
  | b :: p, h => by
    have hb : b ≠ c := fun e => h (by simp [e])
    have ih := splitL_none c p (fun e => h (List.mem_cons_of_mem _ e))
    unfold splitL
    rw [if_neg hb, ih]
theorem splitL_len (c : UInt8) : ∀ l, (splitL c l).length = l.count c + 1
  | [] => rfl
  | b :: l => by
    have ih := splitL_len c l
    unfold splitL
    by_cases h : b = c
    · rw [if_pos h, h]; simp [ih]
    · rw [if_neg h]
      have h2 : (b :: l).count c = l.count c := List.count_cons_of_ne h
      rw [h2]
      split
      · rename_i e; rw [e] at ih; exact ih
      · rename_i e; exact absurd e (splitL_ne c l)
theorem splitL_mem (c : UInt8) : ∀ l, ∀ p ∈ splitL c l, c ∉ p
  | [], p, h => by
    simp only [splitL, List.mem_singleton] at h
    subst h; simp
  | b :: l, p, h => by
    have ih := splitL_mem c l
    unfold splitL at h
    split at h
    · rcases List.mem_cons.1 h with rfl | h
      · simp
      · exact ih p h
    · rename_i hb
      split at h
      · rename_i q ps e
        rw [e] at ih
        rcases List.mem_cons.1 h with rfl | h
        · have := ih q (List.mem_cons_self ..)
          simp only [List.mem_cons, not_or]
          exact ⟨fun f => hb f.symm, this⟩
        · exact ih p (List.mem_cons_of_mem _ h)
      · rename_i e; exact absurd e (splitL_ne c l)
theorem splitL_join (c : UInt8) : ∀ (ps : List (List UInt8)), ps ≠ [] → (∀ p ∈ ps, c ∉ p) → splitL c (Lib.join ps [c]) = ps
  | [], h, _ => absurd rfl h
  | [p], _, h => by rw [Lib.join_one]; exact splitL_none c p (h p (List.mem_cons_self ..))
  | p :: q :: ps, _, h => by
    have ih := splitL_join c (q :: ps) (by simp) (fun x hx => h x (List.mem_cons_of_mem _ hx))
    have e : Lib.join (p :: q :: ps) [c] = p ++ c :: Lib.join (q :: ps) [c] := by
      rw [Lib.join_cons, Lib.join_cons]
      simp [Lib.joinTail]
    rw [e, splitL_app c p _ (h p (List.mem_cons_self ..)), ih]
theorem index_one_none (c : UInt8) : ∀ (l : List UInt8), c ∉ l → Lib.index l [c] = -1
  | [], _ => rfl
  | b :: l, h => by
    have hb : c ≠ b := fun e => h (by simp [e])
    have ih := index_one_none c l (fun e => h (List.mem_cons_of_mem _ e))
    unfold Lib.index
    rw [ih]
    simp [List.isPrefixOf, hb]
theorem index_one_some (c : UInt8) : ∀ (p l : List UInt8), c ∉ p → Lib.index (p ++ c :: l) [c] = p.length
  | [], l, _ => by
    show Lib.index (c :: l) [c] = _
    unfold Lib.index
    simp [List.isPrefixOf]
  | b :: p, l, h => by
    have hb : c ≠ b := fun e => h (by simp [e])
    have ih := index_one_some c p l (fun e => h (List.mem_cons_of_mem _ e))
    show Lib.index (b :: (p ++ c :: l)) [c] = _
    unfold Lib.index
    rw [ih]
    have e : ((p.length : Int) == -1) = false := by rw [beq_eq_false_iff_ne]; omega
    simp [List.isPrefixOf, hb, e]
theorem split_at (c : UInt8) : ∀ (l : List UInt8), c ∉ l ∨ ∃ p r, l = p ++ c :: r ∧ c ∉ p
  | [] => .inl (by simp)
  | b :: l => by
    by_cases h : b = c
    · exact .inr ⟨[], l, by simp [h], by simp⟩
    · rcases split_at c l with f | ⟨p, r, rfl, f⟩
      · exact .inl (by simp only [List.mem_cons, not_or]; exact ⟨fun g => h g.symm, f⟩)
      · exact .inr ⟨b :: p, r, rfl, by simp only [List.mem_cons, not_or]; exact ⟨fun g => h g.symm, f⟩⟩
theorem splitK_one (c : UInt8) : ∀ (k : Nat) (l : List UInt8), l.count c = k → Lib.splitK [c] 0 k l = splitL c l
  | 0, l, h => by
    rw [splitL_none c l (List.count_eq_zero.1 h)]; rfl
  | k + 1, l, h => by
    rcases split_at c l with f | ⟨p, r, rfl, f⟩
    · rw [List.count_eq_zero.2 f] at h; cases h
    · have hi := index_one_some c p r f
      have hk : r.count c = k := by
        rw [List.count_append, List.count_cons_self, List.count_eq_zero.2 f] at h; omega
      have e : ((p.length : Int) == -1) = false := by rw [beq_eq_false_iff_ne]; omega
      unfold Lib.splitK
      rw [hi, e, splitL_app c p r f, ← splitK_one c k r hk]
      simp

/-! ### Numbers -/
def digB (b : UInt8) : Bool := decide (48 ≤ b.toNat) && decide (b.toNat ≤ 57)
/-- A number of 1 to 3 digits. -/
def numL (l : List UInt8) : Option Nat :=
  if 1 ≤ l.length ∧ l.length ≤ 3 ∧ (1 < l.length → l[0]? ≠ some 48) ∧ l.all digB = true then some (l.foldl (fun a b => a * 10 + (b.toNat - 48)) 0) else none
def hexB (b : UInt8) : Bool := digB b || (decide (97 ≤ b.toNat) && decide (b.toNat ≤ 102)) || (decide (65 ≤ b.toNat) && decide (b.toNat ≤ 70))
def hexV (b : UInt8) : Nat := if b.toNat ≤ 57 then b.toNat - 48 else if b.toNat ≤ 70 then b.toNat - 55 else b.toNat - 87
/-- A group of 1 to 4 signs. -/
def grpL (l : List UInt8) : Option Nat :=
  if 1 ≤ l.length ∧ l.length ≤ 4 ∧ l.all hexB = true then some (l.foldl (fun a b => a * 16 + hexV b) 0) else none
/-- All that the pieces tell. -/
def allL : List (List UInt8) → Option (List Nat)
  | [] => some []
  | p :: ps => match grpL p, allL ps with
    | some v, some vs => some (v :: vs)
    | _, _ => none
def groupsL (l : List UInt8) : Option (List Nat) := if l = [] then some [] else allL (splitL 58 l)
/-- The eight groups of an address of IPv6. -/
def sixL (l : List UInt8) : Option (List Nat) :=
  match groupsL (Lib.cut l [58, 58]).1, groupsL (Lib.cut l [58, 58]).2.1 with
  | some a, some b => if (Lib.cut l [58, 58]).2.2 then (if a.length + b.length ≤ 7 then some (a ++ List.replicate (8 - a.length - b.length) 0 ++ b) else none) else (if a.length = 8 then some a else none)
  | _, _ => none
/-- Groups as bytes. -/
def bytesL : List Nat → List Nat
  | [] => []
  | g :: gs => g / 256 :: g % 256 :: bytesL gs
theorem bytesL_len : ∀ l, (bytesL l).length = 2 * l.length
  | [] => rfl
  | g :: gs => by simp [bytesL, bytesL_len gs]; omega
theorem bytesL_app : ∀ a b, bytesL (a ++ b) = bytesL a ++ bytesL b
  | [], _ => rfl
  | g :: gs, b => by simp [bytesL, bytesL_app gs b]
theorem bytesL_zero : ∀ k, bytesL (List.replicate k 0) = List.replicate (2 * k) 0
  | 0 => rfl
  | k + 1 => by rw [List.replicate_succ, bytesL, bytesL_zero k, (by omega : 2 * (k + 1) = 2 * k + 1 + 1), List.replicate_succ, List.replicate_succ]
/-- Four numbers of at most 255. -/
def byteL (p : List UInt8) : Option Nat := match numL p with
  | some n => if n ≤ 255 then some n else none
  | none => none
def allB : List (List UInt8) → Option (List Nat)
  | [] => some []
  | p :: ps => match byteL p, allB ps with
    | some v, some vs => some (v :: vs)
    | _, _ => none
def fourT (l : List UInt8) : Option (List Nat) := if (splitL 46 l).length = 4 then allB (splitL 46 l) else none
end Go.Proofs.YtpmmaickjolimaaGreatDoor.Ci
