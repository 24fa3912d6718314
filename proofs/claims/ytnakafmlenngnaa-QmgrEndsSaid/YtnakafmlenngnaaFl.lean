/- The floats that stand for the whole numbers 0 to 1001: what Go's float operations give at them. -/
import Derived.WalkLawsBesides
import Derived.KernelRfl
namespace Go.Proofs.Ytnakafmlenngnaa.Fl
open Go

/-- The float64 of a small whole number. -/
def fl (n : Nat) : Nat := floatOfInt .f64 (n : Int)

def okAt (n : Nat) : Bool :=
  (match FloatKind.f64.decode (fl n) with
    | .number false m i => decide (i ≤ 0) && m == n * 2 ^ (-i).toNat
    | _ => false) &&
  floatToIntVal .f64 (fl n) .i64 == some (n : Int) &&
  floatBits .add .f64 (fl n) (fl 0) == some (fl n) &&
  floatBits .add .f64 (fl n) (fl 1) == some (fl (n + 1)) &&
  floatBits .sub .f64 (fl (n + 1)) (fl 1) == some (fl n)

def allTo : Nat → Bool
  | 0 => true
  | n + 1 => okAt n && allTo n

theorem allTo_all : allTo 1002 = true := by kernel_rfl

theorem okAt_of (N n : Nat) (h : allTo N = true) (hn : n < N) : okAt n = true := by
  induction N with
  | zero => omega
  | succ N ih =>
    simp only [allTo, Bool.and_eq_true] at h
    by_cases e : n = N
    · subst e; exact h.1
    · exact ih h.2 (by omega)

theorem okAt_all (n : Nat) (hn : n < 1002) : okAt n = true := okAt_of 1002 n allTo_all hn

theorem facts (n : Nat) (hn : n < 1002) : (∃ m i, FloatKind.f64.decode (fl n) = .number false m i ∧ i ≤ 0 ∧ m = n * 2 ^ (-i).toNat) ∧
    floatToIntVal .f64 (fl n) .i64 = some (n : Int) ∧ floatBits .add .f64 (fl n) (fl 0) = some (fl n) ∧ floatBits .add .f64 (fl n) (fl 1) = some (fl (n + 1)) ∧
    floatBits .sub .f64 (fl (n + 1)) (fl 1) = some (fl n) := by
  have h := okAt_all n hn
  simp only [okAt, Bool.and_eq_true, beq_iff_eq] at h
  obtain ⟨⟨⟨⟨h1, h2⟩, h3⟩, h4⟩, h5⟩ := h
  refine ⟨?_, h2, h3, h4, h5⟩
  split at h1
  · rename_i m i he
    simp only [Bool.and_eq_true, decide_eq_true_eq, beq_iff_eq] at h1
    exact ⟨m, i, he, h1.1, h1.2⟩
  · cases h1

/-- The order of two of them is the order of the numbers. -/
theorem order_fl (a b : Nat) (ha : a < 1002) (hb : b < 1002) : FloatKind.f64.format.order (fl a) (fl b) = some (compare a b) := by
  obtain ⟨⟨m, i, h1, h2, h3⟩, -⟩ := facts a ha
  obtain ⟨⟨n, j, k1, k2, k3⟩, -⟩ := facts b hb
  simp only [FloatKind.decode] at h1 k1
  simp only [Ieee.Format.order, h1, k1, Ieee.Datum.order, Ieee.signed, Bool.false_eq_true, if_false, Option.some.injEq]
  subst h3 k3
  have e1 : ∀ (x : Nat) (i j : Int), i ≤ 0 → j ≤ i → (x * 2 ^ (-i).toNat) <<< (i - j).toNat = x * 2 ^ (-j).toNat := by
    intro x i j hi hj
    rw [Nat.shiftLeft_eq, Nat.mul_assoc, ← Nat.pow_add]
    congr 2; omega
  rw [e1 a i (min i j) h2 (Int.min_le_left _ _), e1 b j (min i j) k2 (Int.min_le_right _ _)]
  have hp : 0 < 2 ^ (-(min i j)).toNat := Nat.two_pow_pos _
  generalize 2 ^ (-(min i j)).toNat = p at hp
  have hl : (((a * p : Nat) : Int) < ((b * p : Nat) : Int)) ↔ a < b := by
    rw [Int.ofNat_lt]; exact Nat.mul_lt_mul_right hp
  have he : (((a * p : Nat) : Int) = ((b * p : Nat) : Int)) ↔ a = b := by
    rw [Int.ofNat_inj]; exact Nat.mul_right_cancel_iff hp
  simp only [compare, compareOfLessAndEq, hl, he]
end Go.Proofs.Ytnakafmlenngnaa.Fl
