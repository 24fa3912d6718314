/- The window's calls, each in one contract for every state. -/
import Derived.Test.YtnakafmlenngnaaRef
namespace Go.Proofs.Ytnakafmlenngnaa.Wi
open Go.RowKit

theorem Only.cell {b : Nat} {w w' : World} (h : Only b w w') {p : Addr} (hp : p.block ≠ b) : w'.cell? p = w.cell? p := World.cell?_of_block (w := w) (h.block p.block hp)

theorem cells_of_row {w : World} {a : Option Addr} {len cap : Nat} {zs : List Int}
    (h : (a = none ∧ len = 0 ∧ cap = 0 ∧ zs = []) ∨
      ∃ x, a = some x ∧ len ≤ cap ∧ cap ≤ maxLen ∧ zs.length = cap ∧ (∀ i, i < zs.length → w.cell? (x.add i) = some (.int .i64 (zs.getD i 0))) ∧ ∀ n ∈ zs, (Lit.int .i64 n).wf = true) :
    len ≤ 9223372036854775807 ∧ ∀ k, k < len → ∃ b o, a = some ⟨b, o, none⟩ ∧ w.cell? ⟨b, o + k, none⟩ = some (.int .i64 (zs.getD k 0)) ∧ b < w.heap.size := by
  rcases h with ⟨rfl, rfl, rfl, rfl⟩ | ⟨⟨b, o, sp⟩, rfl, hl, hm, hz, hc, -⟩
  · exact ⟨by omega, fun k hk => by omega⟩
  · unfold maxLen at hm
    refine ⟨by omega, fun k hk => ?_⟩
    have h1 := hc k (by omega)
    have hs : sp = none := by simpa [Addr.add] using World.cell?_spot (hc 0 (by omega))
    subst hs
    have h2 : w.cell? ⟨b, o + k, none⟩ = some (.int .i64 (zs.getD k 0)) := by
      have e : (⟨b, o, none⟩ : Addr).add k = ⟨b, o + k, none⟩ := by
        unfold Addr.add
        by_cases hk0 : k = 0
        · subst hk0; rfl
        · simp [hk0]
      rw [← e]; exact h1
    refine ⟨b, o, rfl, h2, ?_⟩
    rcases Nat.lt_or_ge b w.heap.size with h' | h'
    · exact h'
    · simp [World.cell?, Array.getElem?_eq_none h'] at h2

/-- How a window stands: size, credit and flight under a limit. -/
def Stands (l s c f : Nat) : Prop := s ≤ l ∧ (c < s ∨ (s = 0 ∧ c = 0)) ∧ f ≤ l ∧ l ≤ 1000

def takeF (s f : Nat) : Nat := if f < s then f + 1 else f
def takeB (s f : Nat) : Bool := decide (f < s)
def doneE (f : Nat) : Int := if f = 0 then 1 else 0
def doneS (g : Bool) (l s c f : Nat) : Nat := if f = 0 then s else if s = 0 then 0 else if g then upS l s c else s - 1
def doneC (g : Bool) (s c f : Nat) : Nat := if f = 0 then c else if s = 0 then c else if g then upC s c else 0
def revS (i s : Nat) : Nat := if s = 0 then i else s
def revC (s c : Nat) : Nat := if s = 0 then 0 else c
def revB (s : Nat) : Bool := decide (s = 0)

theorem Stands.take {l s c f : Nat} (h : Stands l s c f) : Stands l s c (takeF s f) := by
  unfold Stands takeF at *
  split <;> omega
theorem Stands.done {l s c f : Nat} (g : Bool) (h : Stands l s c f) : Stands l (doneS g l s c f) (doneC g s c f) (f - 1) := by
  unfold Stands doneS doneC upS upC at *
  (repeat' split) <;> omega
theorem Stands.rev {i l s c f : Nat} (hi : 1 ≤ i) (hil : i ≤ l) (h : Stands l s c f) : Stands l (revS i s) (revC s c) f := by
  unfold Stands revS revC at *
  split <;> omega

theorem take_any (b i l s c f : Nat) (w : World) (hi : Stands l s c f) (h : Win w b i l s c f) :
    Calls Try.prog 15 #[.pointer (some ⟨b, 0, none⟩)] w fun e w' => e = .returned (.bool (takeB s f)) ∧ Win w' b i l s c (takeF s f) ∧ Only b w w' := by
  obtain ⟨h1, h2, h3, h4⟩ := hi
  unfold takeB takeF
  by_cases hf : f < s
  · rw [if_pos hf, decide_eq_true hf]
    exact take_yes b i l s c f w (by omega) hf h
  · rw [if_neg hf, decide_eq_false hf]
    exact take_no b i l s c f w (by omega) (by omega) h
theorem rtake_any (b i l s c f : Nat) (w : World) (hi : Stands l s c f) (h : Ref w b i l s c f) :
    Calls Try.prog 20 #[.pointer (some ⟨b, 0, none⟩)] w fun e w' => e = .returned (.bool (takeB s f)) ∧ Ref w' b i l s c (takeF s f) ∧ Only b w w' := by
  obtain ⟨h1, h2, h3, h4⟩ := hi
  unfold takeB takeF
  by_cases hf : f < s
  · rw [if_pos hf, decide_eq_true hf]
    exact rtake_yes b i l s c f w (by omega) hf h
  · rw [if_neg hf, decide_eq_false hf]
    exact rtake_no b i l s c f w (by omega) h

theorem done_any (b i l s c f : Nat) (g : Bool) (w : World) (hi : Stands l s c f) (h : Win w b i l s c f) :
    Calls Try.prog 16 #[.pointer (some ⟨b, 0, none⟩), .bool g] w fun e w' => e = .returned (.int .i64 (doneE f)) ∧ Win w' b i l (doneS g l s c f) (doneC g s c f) (f - 1) ∧ Only b w w' := by
  obtain ⟨h1, h2, h3, h4⟩ := hi
  unfold doneE doneS doneC
  by_cases hf : f = 0
  · subst hf
    simp only [if_true]
    exact done_none b i l s c g w h
  · obtain ⟨f, rfl⟩ : ∃ k, f = k + 1 := ⟨f - 1, by omega⟩
    simp only [hf, if_false, Nat.add_sub_cancel]
    by_cases hs : s = 0
    · subst hs
      simp only [if_true]
      exact done_dead b i l c f g w (by omega) h
    · simp only [hs, if_false]
      cases g
      · simp only [Bool.false_eq_true, if_false]
        obtain ⟨s, rfl⟩ : ∃ k, s = k + 1 := ⟨s - 1, by omega⟩
        exact done_ill b i l s c f w (by omega) (by omega) h
      · simp only [if_true]
        exact done_well b i l s c f w (by omega) (by omega) h1 (by omega) h
theorem rdone_any (b i l s c f : Nat) (g : Bool) (w : World) (hi : Stands l s c f) (h : Ref w b i l s c f) :
    Calls Try.prog 21 #[.pointer (some ⟨b, 0, none⟩), .bool g] w fun e w' => e = .returned (.int .i64 (doneE f)) ∧ Ref w' b i l (doneS g l s c f) (doneC g s c f) (f - 1) ∧ Only b w w' := by
  obtain ⟨h1, h2, h3, h4⟩ := hi
  unfold doneE doneS doneC
  by_cases hf : f = 0
  · subst hf
    simp only [if_true]
    exact rdone_none b i l s c g w h
  · obtain ⟨f, rfl⟩ : ∃ k, f = k + 1 := ⟨f - 1, by omega⟩
    simp only [hf, if_false, Nat.add_sub_cancel]
    by_cases hs : s = 0
    · subst hs
      simp only [if_true]
      exact rdone_dead b i l c f g w (by omega) h
    · simp only [hs, if_false]
      cases g
      · simp only [Bool.false_eq_true, if_false]
        obtain ⟨s, rfl⟩ : ∃ k, s = k + 1 := ⟨s - 1, by omega⟩
        exact rdone_ill b i l s c f w (by omega) (by omega) h
      · simp only [if_true]
        exact rdone_well b i l s c f w (by omega) (by omega) h1 (by omega) h

theorem revive_any (b i l s c f : Nat) (w : World) (hi : Stands l s c f) (h : Win w b i l s c f) :
    Calls Try.prog 18 #[.pointer (some ⟨b, 0, none⟩)] w fun e w' => e = .returned (.bool (revB s)) ∧ Win w' b i l (revS i s) (revC s c) f ∧ Only b w w' := by
  obtain ⟨h1, h2, h3, h4⟩ := hi
  unfold revB revS revC
  by_cases hs : s = 0
  · subst hs
    simp only [if_true, decide_true]
    exact revive_yes b i l c f w h
  · simp only [hs, if_false, decide_false]
    exact revive_no b i l s c f w (by omega) (by omega) h
theorem rrevive_any (b i l s c f : Nat) (w : World) (h : Ref w b i l s c f) :
    Calls Try.prog 22 #[.pointer (some ⟨b, 0, none⟩)] w fun e w' => e = .returned (.bool (revB s)) ∧ Ref w' b i l (revS i s) (revC s c) f ∧ Only b w w' := by
  unfold revB revS revC
  by_cases hs : s = 0
  · subst hs
    simp only [if_true, decide_true]
    exact rrevive_yes b i l c f w h
  · simp only [hs, if_false, decide_false]
    exact rrevive_no b i l s c f w (by omega) h
end Go.Proofs.Ytnakafmlenngnaa.Wi
