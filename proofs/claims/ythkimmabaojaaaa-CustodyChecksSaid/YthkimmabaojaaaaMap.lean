/- The machine in memory: a map of cares; its contracts. -/
import Derived.Test.YthkimmabaojaaaaRep
import Derived.Deep.RegionHeld3
namespace Go.Proofs.Ythkimmabaojaaaa.Cm
open Go.RowKit Go.Proofs.Ythkimmabaojaaaa.Cu

/-- Block b of w is a map from texts whose entries are l, in the order in which they came. -/
def SMap (w : World) (b : Nat) (l : List (ByteArray × Value)) : Prop :=
  ∃ es clock, w.heap[b]? = some (.map es clock) ∧ es.toList.map (fun e => (e.key, e.val)) = l.map fun x => (Value.string x.1, x.2)

theorem ba_beq (a b : ByteArray) : (a == b) = decide (a = b) := by
  cases a with | mk a => cases b with | mk b =>
  show (a == b) = _
  rw [Bool.eq_iff_iff]; simp

def lookS (l : List (ByteArray × Value)) (s : ByteArray) : Option Value := (l.find? fun x => decide (x.1 = s)).map (·.2)

theorem findNow_s (s : ByteArray) : ∀ (es : List MapEntry) (l : List (ByteArray × Value)) (i : Nat), es.map (fun e => (e.key, e.val)) = l.map (fun x => (Value.string x.1, x.2)) →
    ∃ r, Instr.findNow .string (.string s) es i = some r ∧ r.map (·.2) = lookS l s
  | [], l, i, h => by
    have : l = [] := by cases l <;> simp_all
    subst this
    exact ⟨none, rfl, rfl⟩
  | e :: es, l, i, h => by
    obtain ⟨x, l, rfl⟩ : ∃ x l', l = x :: l' := by cases l <;> simp_all
    simp only [List.map_cons, List.cons.injEq, Prod.mk.injEq] at h
    obtain ⟨⟨h1, h2⟩, h3⟩ := h
    by_cases hx : s = x.1
    · refine ⟨some (i, e.val), ?_, ?_⟩
      · simp [Instr.findNow, h1, Instr.sameNow, ba_beq, hx]
      · simp [lookS, List.find?, hx, h2]
    · obtain ⟨r, hr, hr2⟩ := findNow_s s es l (i + 1) h3
      refine ⟨r, ?_, ?_⟩
      · simp [Instr.findNow, h1, Instr.sameNow, ba_beq, hx, hr]
      · have hx' : ¬ x.1 = s := fun e => hx e.symm
        rw [hr2]
        simp [lookS, List.find?, hx']

section
variable {P : Program} {t k e : TypeId}
theorem run_lookup_s (w : World) (b : Nat) (l : List (ByteArray × Value)) (s : ByteArray) (z : Value) (ht : P.underlying t = some (.map k e)) (hk : P.underlying k = some .string)
    (hz : ∀ w, (zeroValue e).run P w = .ok z w) (h : SMap w b l) : (Instr.lookup t (.map (some b)) (.string s) false).run P w = .ok ((lookS l s).getD z) w := by
  obtain ⟨es, clock, hb, hl⟩ := h
  obtain ⟨r, hr, hr2⟩ := findNow_s s es.toList l 0 hl
  have hck : ∀ em, (Instr.checkKey em 10000 k (.string s)).run P w = .ok () w := by
    intro em
    have : ∀ n, (Instr.checkKey em (n + 1) k (.string s)).run P w = .ok () w := fun n => by simp [Instr.checkKey, run_underlying hk]
    exact this 9999
  have hgo : (getObj b).run P w = .ok (.map es clock) w := by simp [getObj, Sem.run, hb]
  have hf : (Instr.findKey k (.string s) es.toList).run P w = .ok r w := by
    simp [Instr.findKey, run_underlying hk, hr]
  rw [← hr2]
  cases r with
  | none => simp [Instr.lookup, run_underlying ht, hgo, hck, hf, hz]
  | some p => simp [Instr.lookup, run_underlying ht, hgo, hck, hf]

theorem run_insert_s (w : World) (b : Nat) (l : List (ByteArray × Value)) (s : ByteArray) (v : Value) (ht : P.underlying t = some (.map k e)) (hk : P.underlying k = some .string)
    (h : SMap w b l) (hno : lookS l s = none) : ∃ w', (Instr.mapUpdate t (.map (some b)) (.string s) v).run P w = .ok () w' ∧ SMap w' b (l ++ [(s, v)]) ∧ Ext (· = b) w w' := by
  obtain ⟨es, clock, hb, hl⟩ := h
  obtain ⟨r, hr, hr2⟩ := findNow_s s es.toList l 0 hl
  have hrn : r = none := by
    rw [hno] at hr2
    cases r with
    | none => rfl
    | some _ => simp at hr2
  subst hrn
  have hck : ∀ em, (Instr.checkKey em 10000 k (.string s)).run P w = .ok () w := by
    intro em
    have : ∀ n, (Instr.checkKey em (n + 1) k (.string s)).run P w = .ok () w := fun n => by simp [Instr.checkKey, run_underlying hk]
    exact this 9999
  have hgo : (getObj b).run P w = .ok (.map es clock) w := by simp [getObj, Sem.run, hb]
  have hf : (Instr.findKey k (.string s) es.toList).run P w = .ok none w := by
    simp [Instr.findKey, run_underlying hk, hr]
  have hlt : b < w.heap.size := (Array.getElem?_eq_some_iff.1 hb).1
  refine ⟨{ w with heap := w.heap.setIfInBounds b (.map (es.push { key := .string s, val := v, born := clock }) (clock + 1)) }, ?_, ?_, ?_⟩
  · have hset : ∀ o, (setObj b o).run P w = .ok () { w with heap := w.heap.setIfInBounds b o } := by intro o; simp [setObj, Sem.run, hb]
    simp [Instr.mapUpdate, run_underlying ht, hgo, hck, hf, hset]
  · refine ⟨_, _, by simp [hlt]; exact ⟨rfl, rfl⟩, ?_⟩
    simp [hl]
  · refine ⟨rfl, rfl, rfl, by simp, fun k _ hk => ?_⟩
    simp only [Array.getElem?_setIfInBounds]
    rw [if_neg (fun e => hk e.symm)]
end
end Go.Proofs.Ythkimmabaojaaaa.Cm
