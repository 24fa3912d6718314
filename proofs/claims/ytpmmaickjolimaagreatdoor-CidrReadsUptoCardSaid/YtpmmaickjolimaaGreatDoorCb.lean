/- The reference's ranges, bit by bit. -/
import Derived.Test.YtpmmaickjolimaaGreatDoorCm
namespace Go.Proofs.YtpmmaickjolimaaGreatDoor.Ci

/-- Bit i of an address. -/
def bitQ (l : List Nat) (i : Nat) : Nat := (l.getD (i / 8) 0 >>> (7 - i % 8)) % 2
/-- All bits from a place on are 0. -/
def zeroFrom (l : List Nat) (from_ n : Nat) : Bool := (List.range' from_ n).all fun i => bitQ l i == 0
def rightR (n : Nt) : Bool := decide (0 ≤ n.bits) && decide (n.bits ≤ sizeQ n.six) && (List.range' n.bits.toNat (128 - n.bits.toNat)).all fun i => bitQ n.addr i == 0
def withinR (n m : Nt) : Bool := rightR n && rightR m && (n.six == m.six) && decide (m.bits ≤ n.bits) && (List.range' 0 m.bits.toNat).all fun i => bitQ n.addr i == bitQ m.addr i

def bitB (x b : Nat) : Nat := (x >>> (7 - b)) % 2
set_option maxRecDepth 100000 in
theorem cutB_bit (x : Nat) (keep : Int) (b : Nat) (hx : x < 256) (hb : b < 8) : bitB (cutB x keep) b = if (b : Int) < keep then bitB x b else 0 := by
  unfold cutB
  by_cases h1 : keep ≤ 0
  · rw [if_pos h1, if_neg (by omega)]
    simp [bitB]
  · rw [if_neg h1]
    by_cases h2 : keep < 8
    · rw [if_pos h2]
      have key : ∀ k : Fin 8, 0 < k.val → ∀ b : Fin 8, ∀ x : Fin 256, bitB (x.val &&& ((255 * 2 ^ (8 - k.val)) % 256)) b.val = if b.val < k.val then bitB x.val b.val else 0 := by decide +kernel
      have := key ⟨keep.toNat, by omega⟩ (by simp; omega) ⟨b, hb⟩ ⟨x, hx⟩
      simp only at this
      rw [(by omega : (8 - keep).toNat = 8 - keep.toNat), this]
      by_cases h3 : b < keep.toNat
      · rw [if_pos h3, if_pos (by omega)]
      · rw [if_neg h3, if_neg (by omega)]
    · rw [if_neg h2, if_pos (by omega)]
set_option maxRecDepth 100000 in
theorem byte_bits (x : Nat) (hx : x < 256) : x = bitB x 0 * 128 + bitB x 1 * 64 + bitB x 2 * 32 + bitB x 3 * 16 + bitB x 4 * 8 + bitB x 5 * 4 + bitB x 6 * 2 + bitB x 7 := by
  have key : ∀ x : Fin 256, x.val = bitB x.val 0 * 128 + bitB x.val 1 * 64 + bitB x.val 2 * 32 + bitB x.val 3 * 16 + bitB x.val 4 * 8 + bitB x.val 5 * 4 + bitB x.val 6 * 2 + bitB x.val 7 := by decide +kernel
  exact key ⟨x, hx⟩
theorem byte_ext {x y : Nat} (hx : x < 256) (hy : y < 256) (h : ∀ b, b < 8 → bitB x b = bitB y b) : x = y := by
  rw [byte_bits x hx, byte_bits y hy, h 0 (by decide), h 1 (by decide), h 2 (by decide), h 3 (by decide), h 4 (by decide), h 5 (by decide), h 6 (by decide), h 7 (by decide)]
theorem cutB_lt' (x : Nat) (keep : Int) (h : x < 256) : cutB x keep < 256 := by
  unfold cutB
  split
  · omega
  · split
    · exact Nat.lt_of_le_of_lt Nat.and_le_left h
    · exact h
/-- A cut address is another one just where its first bits are the other's, and the other has no more. -/
theorem cutL_iff (l m : List Nat) (k : Nat) (hl : l.length = 16) (hm : m.length = 16) (hx : ∀ x ∈ l, x < 256) (hy : ∀ x ∈ m, x < 256) :
    cutL l k = m ↔ (∀ i, i < k → i < 128 → bitQ l i = bitQ m i) ∧ ∀ i, k ≤ i → i < 128 → bitQ m i = 0 := by
  have hget : ∀ (q : List Nat), q.length = 16 → ∀ j (hj : j < 16) b, b < 8 → bitQ q (8 * j + b) = bitB (q[j]?.getD 0) b := by
    intro q hq j hj b hb
    unfold bitQ bitB
    rw [(by omega : (8 * j + b) / 8 = j), (by omega : (8 * j + b) % 8 = b), List.getD_eq_getElem?_getD]
  constructor
  · rintro rfl
    have hc : ∀ j : Nat, j < 16 → (cutL l k)[j]?.getD 0 = cutB (l[j]?.getD 0) (k - 8 * j) := by
      intro j hj
      unfold cutL
      simp [hl, hj]
    have hlt : ∀ j : Nat, j < 16 → l[j]?.getD 0 < 256 := by
      intro j hj
      simp only [hl, hj, getElem?_pos, Option.getD_some]
      exact hx _ (List.getElem_mem _)
    constructor
    · intro i hi h128
      have e : i = 8 * (i / 8) + i % 8 := by omega
      rw [e, hget l hl _ (by omega) _ (by omega), hget (cutL l k) hm _ (by omega) _ (by omega), hc _ (by omega), cutB_bit _ _ _ (hlt _ (by omega)) (by omega), if_pos (by omega)]
    · intro i hi h128
      have e : i = 8 * (i / 8) + i % 8 := by omega
      rw [e, hget (cutL l k) hm _ (by omega) _ (by omega), hc _ (by omega), cutB_bit _ _ _ (hlt _ (by omega)) (by omega), if_neg (by omega)]
  · rintro ⟨h1, h2⟩
    refine List.ext_getElem (by simp [cutL, hl, hm]) fun j hj hj2 => ?_
    have hj16 : j < 16 := by omega
    have hxl := hx _ (List.getElem_mem (by omega : j < l.length))
    have hym := hy _ (List.getElem_mem (by omega : j < m.length))
    have e : (cutL l k)[j] = cutB l[j] (k - 8 * j) := by simp [cutL]
    rw [e]
    refine byte_ext (cutB_lt' _ _ hxl) hym fun b hb => ?_
    rw [cutB_bit _ _ _ hxl hb]
    have hgm := hget m hm j hj16 b hb
    have hgl := hget l hl j hj16 b hb
    simp only [hm, hj16, hl, getElem?_pos, Option.getD_some] at hgm hgl
    by_cases hk : (b : Int) < k - 8 * j
    · rw [if_pos hk, ← hgl, ← hgm]
      exact h1 _ (by omega) (by omega)
    · rw [if_neg hk, ← hgm]
      exact (h2 _ (by omega) (by omega)).symm
theorem rightR_eq (n : Nt) (h : n.Fits) : rightR n = rightQ n := by
  unfold rightR rightQ
  cases h0 : decide (0 ≤ n.bits) with
  | false => rfl
  | true =>
    cases h1 : decide (n.bits ≤ sizeQ n.six) with
    | false => rfl
    | true =>
      have h0 := of_decide_eq_true h0
      have h1 := of_decide_eq_true h1
      have hs : (sizeQ n.six : Int) ≤ 128 := by unfold sizeQ; split <;> decide
      obtain ⟨k, hk⟩ : ∃ k : Nat, n.bits = k := ⟨n.bits.toNat, by omega⟩
      simp only [Bool.true_and]
      rw [Bool.eq_iff_iff, List.all_eq_true, decide_eq_true_iff, hk, cutL_iff _ _ k h.len h.len h.by_ h.by_]
      constructor
      · intro f
        refine ⟨fun _ _ _ => rfl, fun i hi h128 => ?_⟩
        have := f i (List.mem_range'_1.2 ⟨by omega, by omega⟩)
        exact beq_iff_eq.1 this
      · rintro ⟨-, f⟩ i hi
        have := List.mem_range'_1.1 hi
        exact beq_iff_eq.2 (f i (by omega) (by omega))
theorem withinR_eq (n m : Nt) (hn : n.Fits) (hm : m.Fits) : withinR n m = withinQ n m := by
  unfold withinR withinQ
  rw [rightR_eq n hn, rightR_eq m hm]
  cases h1 : rightQ n with
  | false => rfl
  | true =>
    cases h2 : rightQ m with
    | false => rfl
    | true =>
      simp only [Bool.true_and]
      congr 1
      have h2' := h2
      unfold rightQ at h2
      simp only [Bool.and_eq_true, decide_eq_true_eq] at h2
      have hs : (sizeQ m.six : Int) ≤ 128 := by unfold sizeQ; split <;> decide
      obtain ⟨k, hk⟩ : ∃ k : Nat, m.bits = k := ⟨m.bits.toNat, by omega⟩
      have h3 := h2.2
      rw [hk, cutL_iff _ _ k hm.len hm.len hm.by_ hm.by_] at h3
      rw [Bool.eq_iff_iff, List.all_eq_true, decide_eq_true_iff, hk, cutL_iff _ _ k hn.len hm.len hn.by_ hm.by_]
      constructor
      · intro f
        refine ⟨fun i hi h128 => beq_iff_eq.1 (f i (List.mem_range'_1.2 ⟨by omega, by omega⟩)), h3.2⟩
      · rintro ⟨f, -⟩ i hi
        have := List.mem_range'_1.1 hi
        exact beq_iff_eq.2 (f i (by omega) (by omega))
end Go.Proofs.YtpmmaickjolimaaGreatDoor.Ci
