/- Cidr in plain terms. -/
import Derived.Test.YtpmmaickjolimaaGreatDoorProg
import Derived.WalkKit
namespace Go.Proofs.YtpmmaickjolimaaGreatDoor.Ci

structure Nt where
  six : Bool
  bits : Int
  addr : List Nat
def sizeQ (six : Bool) : Nat := if six then 128 else 32
/-- One byte of an address of which so many bits are kept. -/
def cutB (x : Nat) (keep : Int) : Nat := if keep ≤ 0 then 0 else if keep < 8 then x &&& ((255 * 2 ^ (8 - keep).toNat) % 256) else x
def cutL (l : List Nat) (bits : Int) : List Nat := l.mapIdx fun i x => cutB x (bits - 8 * i)
def rightQ (n : Nt) : Bool := decide (0 ≤ n.bits) && decide (n.bits ≤ sizeQ n.six) && decide (cutL n.addr n.bits = n.addr)
def withinQ (n m : Nt) : Bool := rightQ n && rightQ m && (n.six == m.six) && decide (m.bits ≤ n.bits) && decide (cutL n.addr m.bits = m.addr)

theorem cutB_cut (x : Nat) (p q : Int) (h : q ≤ p) : cutB (cutB x p) q = cutB x q := by
  unfold cutB
  by_cases h1 : q ≤ 0
  · simp [h1]
  · rw [if_neg h1, if_neg (by omega : ¬ p ≤ 0), if_neg h1]
    by_cases h2 : p < 8
    · rw [if_pos h2, if_pos (by omega : q < 8), if_pos (by omega : q < 8), Nat.and_assoc]
      congr 1
      have key : ∀ a b : Fin 8, a.val ≤ b.val → (255 * 2 ^ a.val % 256) &&& (255 * 2 ^ b.val % 256) = 255 * 2 ^ b.val % 256 := by decide
      exact key ⟨(8 - p).toNat, by omega⟩ ⟨(8 - q).toNat, by omega⟩ (by simp; omega)
    · rw [if_neg h2]
theorem cutL_cut (l : List Nat) (p q : Int) (h : q ≤ p) : cutL (cutL l p) q = cutL l q := by
  unfold cutL
  rw [List.mapIdx_mapIdx]
  congr 1
  funext i x
  exact cutB_cut x _ _ (by omega)
theorem within_self (n : Nt) : withinQ n n = rightQ n := by
  unfold withinQ
  cases h : rightQ n with
  | false => rfl
  | true =>
    unfold rightQ at h
    simp only [Bool.and_eq_true, decide_eq_true_eq] at h
    simp [h.2]
theorem within_iff (n m : Nt) : withinQ n m = true ↔ rightQ n = true ∧ rightQ m = true ∧ n.six = m.six ∧ m.bits ≤ n.bits ∧ cutL n.addr m.bits = m.addr := by
  unfold withinQ
  simp [and_assoc]
theorem within_anti {n m : Nt} (h1 : withinQ n m = true) (h2 : withinQ m n = true) : n = m := by
  obtain ⟨a1, a2, a3, a4, a5⟩ := (within_iff n m).1 h1
  obtain ⟨b1, b2, b3, b4, b5⟩ := (within_iff m n).1 h2
  have e : n.bits = m.bits := by omega
  have hr : cutL n.addr n.bits = n.addr := by
    unfold rightQ at a1
    simp only [Bool.and_eq_true, decide_eq_true_eq] at a1
    exact a1.2
  rw [e, a5] at hr
  cases n; cases m; simp_all
theorem within_trans {a b c : Nt} (h1 : withinQ a b = true) (h2 : withinQ b c = true) : withinQ a c = true := by
  obtain ⟨a1, a2, a3, a4, a5⟩ := (within_iff a b).1 h1
  obtain ⟨b1, b2, b3, b4, b5⟩ := (within_iff b c).1 h2
  refine (within_iff a c).2 ⟨a1, b2, a3.trans b3, by omega, ?_⟩
  rw [← b5, ← a5, cutL_cut _ _ _ b4]

/-! ### A range as the machine has it -/
def u8V (n : Nat) : Value := .int .u8 n
/-- Its cells. -/
def netC (n : Nt) : List Value := .bool n.six :: .int .i64 n.bits :: n.addr.map u8V
def netV (n : Nt) : Value := .agg (netC n).toArray
def addrV (l : List Nat) : Value := .agg (l.map u8V).toArray
/-- A range that may be handed over. -/
structure Nt.Fits (n : Nt) : Prop where
  b1 : -9223372036854775808 ≤ n.bits
  b2 : n.bits ≤ 9223372036854775807
  len : n.addr.length = 16
  by_ : ∀ x ∈ n.addr, x < 256
end Go.Proofs.YtpmmaickjolimaaGreatDoor.Ci
