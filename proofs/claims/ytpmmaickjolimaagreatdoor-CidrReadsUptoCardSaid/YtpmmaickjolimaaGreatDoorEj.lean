/- The words of a list: by bytes and by runes the same. -/
import Derived.Test.YtpmmaickjolimaaGreatDoorEb
import Derived.Lib.FieldsP
import Derived.Lib.DecodeN
namespace Go.Proofs.YtpmmaickjolimaaGreatDoor.Ci
open Go.RowKit

def sepB (b : UInt8) : Bool := b.toNat == 32 || b.toNat == 9 || b.toNat == 10 || b.toNat == 13 || b.toNat == 44
def sepR (r : Nat) : Bool := r == 32 || r == 9 || r == 10 || r == 13 || r == 44
def stepW (sep : Bool) (i : Nat) (x : Option Nat × List (Nat × Nat)) : Option Nat × List (Nat × Nat) := match sep, x with
  | true, (some a, acc) => (none, acc ++ [(a, i)])
  | true, (none, acc) => (none, acc)
  | false, (some a, acc) => (some a, acc)
  | false, (none, acc) => (some i, acc)
def wSt (l : List UInt8) : Nat → Option Nat × List (Nat × Nat)
  | 0 => (none, [])
  | k + 1 => stepW (sepB (l.getD k 0)) k (wSt l k)
theorem wSt_le (l : List UInt8) : ∀ k, (wSt l k).2.length ≤ k ∧ ∀ a, (wSt l k).1 = some a → a < k
  | 0 => ⟨Nat.le_refl _, fun a h => by cases h⟩
  | k + 1 => by
    have ih := wSt_le l k
    show (stepW (sepB (l.getD k 0)) k (wSt l k)).2.length ≤ k + 1 ∧ ∀ a, (stepW (sepB (l.getD k 0)) k (wSt l k)).1 = some a → a < k + 1
    generalize wSt l k = x at ih ⊢
    obtain ⟨st, acc⟩ := x
    cases sepB (l.getD k 0) <;> cases st <;> simp only [stepW] <;> simp at ih ⊢ <;> omega
theorem wSt_skip (l : List UInt8) (k : Nat) : ∀ w, 1 ≤ w → (∀ j, k ≤ j → j < k + w → sepB (l.getD j 0) = false) → wSt l (k + w) = (some ((wSt l k).1.getD k), (wSt l k).2)
  | 0, h, _ => by omega
  | 1, _, h => by
    show stepW (sepB (l.getD k 0)) k (wSt l k) = _
    rw [h k (Nat.le_refl _) (by omega)]
    generalize wSt l k = x
    obtain ⟨st, acc⟩ := x
    cases st <;> rfl
  | w + 2, _, h => by
    have ih := wSt_skip l k (w + 1) (by omega) (fun j h1 h2 => h j h1 (by omega))
    show stepW (sepB (l.getD (k + (w + 1)) 0)) (k + (w + 1)) (wSt l (k + (w + 1))) = _
    rw [ih, h (k + (w + 1)) (by omega) (by omega)]
    rfl
theorem dec_big (n b0 b1 b2 b3 : Nat) (h : ¬ b0 < 128) (hn : 1 ≤ n) :
    128 ≤ (Lib.decodeN n b0 b1 b2 b3).1 ∧ 1 ≤ (Lib.decodeN n b0 b1 b2 b3).2 ∧ (Lib.decodeN n b0 b1 b2 b3).2 ≤ n ∧ (Lib.decodeN n b0 b1 b2 b3).2 ≤ 4 ∧ (1 < (Lib.decodeN n b0 b1 b2 b3).2 → 128 ≤ b1) ∧ (2 < (Lib.decodeN n b0 b1 b2 b3).2 → 128 ≤ b2) ∧ (3 < (Lib.decodeN n b0 b1 b2 b3).2 → 128 ≤ b3) := by
  unfold Lib.decodeN
  repeat' split
  all_goals (simp only; omega)
theorem get_at (s : ByteArray) (i : Nat) : s.get! i = s.data.toList.getD i 0 := by
  cases s with
  | mk d =>
    show d[i]! = d.toList.getD i 0
    simp [List.getD, Array.getElem!_eq_getD, Array.getD_eq_getD_getElem?]
    rfl
theorem sepB_big {b : UInt8} (h : 128 ≤ b.toNat) : sepB b = false := by
  unfold sepB
  simp only [Bool.or_eq_false_iff, beq_eq_false_iff_ne]
  omega
theorem sepR_big {r : Nat} (h : 128 ≤ r) : sepR r = false := by
  unfold sepR
  simp only [Bool.or_eq_false_iff, beq_eq_false_iff_ne]
  omega
theorem spans_eq (s : ByteArray) : ∀ (f pos : Nat), pos ≤ s.size → s.size - pos ≤ f → Lib.spansFromP sepR s f pos (wSt s.data.toList pos).1 (wSt s.data.toList pos).2 = ((wSt s.data.toList s.size).2, (wSt s.data.toList s.size).1)
  | 0, pos, h1, h2 => by
    obtain rfl : pos = s.size := by omega
    rfl
  | f + 1, pos, h1, h2 => by
    by_cases hp : pos < s.size
    · unfold Lib.spansFromP
      rw [if_pos hp]
      have hd := Lib.decode_at s pos
      by_cases hb : (s.get! pos).toNat < 128
      · have e : Utf8.decode s pos = ((s.get! pos).toNat, 1) := by
          rw [hd]; unfold Lib.decodeN; rw [if_pos hb]
        have ih := spans_eq s f (pos + 1) (by omega) (by omega)
        have hs : wSt s.data.toList (pos + 1) = stepW (sepB (s.get! pos)) pos (wSt s.data.toList pos) := by
          rw [get_at]; rfl
        rw [hs] at ih
        rw [e]
        rw [← ih]
        show (if sepB (s.get! pos) = true then _ else _) = _
        generalize wSt s.data.toList pos = x
        obtain ⟨st, acc⟩ := x
        cases sepB (s.get! pos) <;> cases st <;> rfl
      · have hB := dec_big (s.size - pos) (s.get! pos).toNat (s.get! (pos + 1)).toNat (s.get! (pos + 2)).toNat (s.get! (pos + 3)).toNat hb (by omega)
        rw [← hd] at hB
        generalize Utf8.decode s pos = d at hB ⊢
        obtain ⟨r, w⟩ := d
        obtain ⟨g1, g2, g3, g4, g5, g6, g7⟩ := hB
        simp only at g1 g2 g3 g4 g5 g6 g7 ⊢
        rw [sepR_big g1]
        have hsk := wSt_skip s.data.toList pos w g2 (fun j h1 h2 => by
          rw [← get_at]
          refine sepB_big ?_
          obtain ⟨q, rfl⟩ : ∃ q, j = pos + q := ⟨j - pos, by omega⟩
          have hq : q = 0 ∨ q = 1 ∨ q = 2 ∨ q = 3 := by omega
          rcases hq with rfl | rfl | rfl | rfl
          · rw [Nat.add_zero]; omega
          · exact g5 (by omega)
          · exact g6 (by omega)
          · exact g7 (by omega))
        have ih := spans_eq s f (pos + w) (by omega) (by omega)
        rw [hsk] at ih
        rw [← ih]
        generalize wSt s.data.toList pos = x
        obtain ⟨st, acc⟩ := x
        cases st <;> rfl
    · obtain rfl : pos = s.size := by omega
      unfold Lib.spansFromP
      rw [if_neg hp]
/-- The words. -/
def wordsQ (s : ByteArray) : List ByteArray := Lib.goFieldsP sepR s
theorem wordsQ_none (s : ByteArray) (h : (wSt s.data.toList s.size).1 = none) : wordsQ s = (wSt s.data.toList s.size).2.map fun x => s.extract x.1 x.2 := by
  have := spans_eq s s.size 0 (Nat.zero_le _) (by omega)
  unfold wordsQ Lib.goFieldsP Lib.spansOfP
  rw [show Lib.spansFromP sepR s s.size 0 none [] = _ from this]
  unfold Lib.closeSpans
  simp only [h]
theorem wordsQ_some (s : ByteArray) (a : Nat) (h : (wSt s.data.toList s.size).1 = some a) : wordsQ s = ((wSt s.data.toList s.size).2.map fun x => s.extract x.1 x.2) ++ [s.extract a s.size] := by
  have := spans_eq s s.size 0 (Nat.zero_le _) (by omega)
  unfold wordsQ Lib.goFieldsP Lib.spansOfP
  rw [show Lib.spansFromP sepR s s.size 0 none [] = _ from this]
  unfold Lib.closeSpans
  simp only [h, List.map_append, List.map_cons, List.map_nil]
end Go.Proofs.YtpmmaickjolimaaGreatDoor.Ci
