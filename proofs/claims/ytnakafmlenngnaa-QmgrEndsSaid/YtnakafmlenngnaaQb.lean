/- What the manager's proofs share: frames, maps of texts, rows of one's own. -/
import Derived.Test.YtnakafmlenngnaaAny
import Derived.WalkKit
import Derived.WalkSpells
import Derived.WalkLawsBesides
import Derived.OwnWalk
import Derived.Maps.AppendAt
import Derived.Deep.QuietTactic
import Derived.BigQuiet
import Derived.Below
import Derived.Deep.LoopGhost
import Derived.Deep.DeepCutAuto
import Derived.Deep.CutBlock
import Derived.Deep.RegionHeld3
namespace Go.Proofs.Ytnakafmlenngnaa.Qm
open Go.RowKit Go.Proofs.Ytnakafmlenngnaa.Wi

/-- What was there is as it was, but for the blocks F; blocks may have been made. -/
structure Ext (F : Nat → Prop) (w w' : World) : Prop where
  os : w'.os = w.os
  tape : w'.tape = w.tape
  output : w'.output = w.output
  size : w.heap.size ≤ w'.heap.size
  block : ∀ k, k < w.heap.size → ¬ F k → w'.heap[k]? = w.heap[k]?

theorem Ext.refl (F : Nat → Prop) (w : World) : Ext F w w := ⟨rfl, rfl, rfl, Nat.le_refl _, fun _ _ _ => rfl⟩
theorem Ext.trans {F : Nat → Prop} {a b c : World} (h : Ext F a b) (k : Ext F b c) : Ext F a c :=
  ⟨k.os.trans h.os, k.tape.trans h.tape, k.output.trans h.output, Nat.le_trans h.size k.size, fun i hi hf => (k.block i (Nat.lt_of_lt_of_le hi h.size) hf).trans (h.block i hi hf)⟩
theorem Ext.mono {F G : Nat → Prop} {w w' : World} (h : Ext F w w') (hFG : ∀ k, F k → G k) : Ext G w w' :=
  ⟨h.os, h.tape, h.output, h.size, fun k hk hg => h.block k hk fun hf => hg (hFG k hf)⟩
theorem Ext.drewN {F : Nat → Prop} {w w1 : World} (h : Ext F w w1) (n : Nat) : Ext F w (w1.drewN n) := ⟨h.os, h.tape, h.output, h.size, h.block⟩
theorem Ext.alloc {F : Nat → Prop} {w w1 : World} (h : Ext F w w1) (o : Obj) : Ext F w (w1.alloc o) :=
  h.trans ⟨rfl, rfl, rfl, by simp, fun k hk _ => Below.heap_alloc _ _ _ hk⟩
theorem Ext.setCell {F : Nat → Prop} {w w1 : World} (h : Ext F w w1) (b o : Nat) (v : Value) (hb : F b) : Ext F w (w1.setCell ⟨b, o, none⟩ v) :=
  h.trans ⟨rfl, rfl, rfl, by simp [World.setCell], fun k _ hf => Below.heap_setCell _ _ _ _ fun e => hf (by rw [e]; exact hb)⟩
theorem Ext.setCell_new {F : Nat → Prop} {w w1 : World} (h : Ext F w w1) (b o : Nat) (v : Value) (hb : w.heap.size ≤ b) : Ext F w (w1.setCell ⟨b, o, none⟩ v) :=
  ⟨h.os, h.tape, h.output, by simpa [World.setCell] using h.size, fun k hk hf => (Below.heap_setCell _ _ _ _ (by show k ≠ b; omega)).trans (h.block k hk hf)⟩
theorem Ext.below {F : Nat → Prop} {w w' : World} (h : Ext F w w') {B : Nat} (hB : B ≤ w.heap.size) (hF : ∀ k, F k → B ≤ k) : Below B w w' :=
  ⟨h.os, h.tape, h.output, h.size, fun k hk => h.block k (by omega) fun hf => by have := hF k hf; omega⟩

/-- Block b of w is a map from texts whose entries are l, in the order in which they came. -/
def SMap (w : World) (b : Nat) (l : List (ByteArray × Value)) : Prop :=
  ∃ es clock, w.heap[b]? = some (.map es clock) ∧ es.toList.map (fun e => (e.key, e.val)) = l.map fun x => (Value.string x.1, x.2)

theorem ba_beq (a b : ByteArray) : (a == b) = decide (a = b) := by
  cases a with | mk a => cases b with | mk b =>
  show (a == b) = _
  rw [Bool.eq_iff_iff]; simp

def lookS (l : List (ByteArray × Value)) (s : ByteArray) : Option Value := (l.find? fun x => decide (x.1 = s)).map (·.2)

theorem findNow_s (s : ByteArray) : ∀ (es : List MapEntry) (l : List (ByteArray × Value)) (i : Nat), es.map (fun e => (e.key, e.val)) = l.map (fun x => (Value.string x.1, x.2)) →
    ∃ r, Instr.findNow .string (.string s) es i = some r ∧ r.map (·.2) = lookS l s
  | [], l, i, h => by
    have : l = [] := by cases l <;> simp_all
    subst this
    exact ⟨none, rfl, rfl⟩
  | e :: es, l, i, h => by
    obtain ⟨x, l, rfl⟩ : ∃ x l', l = x :: l' := by cases l <;> simp_all
    simp only [List.map_cons, List.cons.injEq, Prod.mk.injEq] at h
    obtain ⟨⟨h1, h2⟩, h3⟩ := h
    by_cases hx : s = x.1
    · refine ⟨some (i, e.val), ?_, ?_⟩
      · simp [Instr.findNow, h1, Instr.sameNow, ba_beq, hx]
      · simp [lookS, List.find?, hx, h2]
    · obtain ⟨r, hr, hr2⟩ := findNow_s s es l (i + 1) h3
      refine ⟨r, ?_, ?_⟩
      · simp [Instr.findNow, h1, Instr.sameNow, ba_beq, hx, hr]
      · have hx' : ¬ x.1 = s := fun e => hx e.symm
        rw [hr2]
        simp [lookS, List.find?, hx']

section
variable {P : Program} {t k e : TypeId}
theorem run_lookup_s (w : World) (b : Nat) (l : List (ByteArray × Value)) (s : ByteArray) (z : Value) (ht : P.underlying t = some (.map k e)) (hk : P.underlying k = some .string)
    (hz : ∀ w, (zeroValue e).run P w = .ok z w) (h : SMap w b l) : (Instr.lookup t (.map (some b)) (.string s) false).run P w = .ok ((lookS l s).getD z) w := by
  obtain ⟨es, clock, hb, hl⟩ := h
  obtain ⟨r, hr, hr2⟩ := findNow_s s es.toList l 0 hl
  have hck : ∀ em, (Instr.checkKey em 10000 k (.string s)).run P w = .ok () w := by
    intro em
    have : ∀ n, (Instr.checkKey em (n + 1) k (.string s)).run P w = .ok () w := fun n => by simp [Instr.checkKey, run_underlying hk]
    exact this 9999
  have hgo : (getObj b).run P w = .ok (.map es clock) w := by simp [getObj, Sem.run, hb]
  have hf : (Instr.findKey k (.string s) es.toList).run P w = .ok r w := by
    simp [Instr.findKey, run_underlying hk, hr]
  rw [← hr2]
  cases r with
  | none => simp [Instr.lookup, run_underlying ht, hgo, hck, hf, hz]
  | some p => simp [Instr.lookup, run_underlying ht, hgo, hck, hf]

theorem run_insert_s (w : World) (b : Nat) (l : List (ByteArray × Value)) (s : ByteArray) (v : Value) (ht : P.underlying t = some (.map k e)) (hk : P.underlying k = some .string)
    (h : SMap w b l) (hno : lookS l s = none) : ∃ w', (Instr.mapUpdate t (.map (some b)) (.string s) v).run P w = .ok () w' ∧ SMap w' b (l ++ [(s, v)]) ∧ Ext (· = b) w w' := by
  obtain ⟨es, clock, hb, hl⟩ := h
  obtain ⟨r, hr, hr2⟩ := findNow_s s es.toList l 0 hl
  have hrn : r = none := by
    rw [hno] at hr2
    cases r with
    | none => rfl
    | some _ => simp at hr2
  subst hrn
  have hck : ∀ em, (Instr.checkKey em 10000 k (.string s)).run P w = .ok () w := by
    intro em
    have : ∀ n, (Instr.checkKey em (n + 1) k (.string s)).run P w = .ok () w := fun n => by simp [Instr.checkKey, run_underlying hk]
    exact this 9999
  have hgo : (getObj b).run P w = .ok (.map es clock) w := by simp [getObj, Sem.run, hb]
  have hf : (Instr.findKey k (.string s) es.toList).run P w = .ok none w := by
    simp [Instr.findKey, run_underlying hk, hr]
  have hlt : b < w.heap.size := (Array.getElem?_eq_some_iff.1 hb).1
  refine ⟨{ w with heap := w.heap.setIfInBounds b (.map (es.push { key := .string s, val := v, born := clock }) (clock + 1)) }, ?_, ?_, ?_⟩
  · have hset : ∀ o, (setObj b o).run P w = .ok () { w with heap := w.heap.setIfInBounds b o } := by intro o; simp [setObj, Sem.run, hb]
    simp [Instr.mapUpdate, run_underlying ht, hgo, hck, hf, hset]
  · refine ⟨_, _, by simp [hlt]; exact ⟨rfl, rfl⟩, ?_⟩
    simp [hl]
  · refine ⟨rfl, rfl, rfl, by simp, fun k _ hk => ?_⟩
    simp only [Array.getElem?_setIfInBounds]
    rw [if_neg (fun e => hk e.symm)]
end

section
variable {w w' : World} {base e size n : Nat} {v : Value} {xs : List Value}
theorem row_keep (h : w.ownsRow base e size v n xs) (hk : ∀ g, v.ownBlock = some g → w'.heap[g]? = w.heap[g]?) : w'.ownsRow base e size v n xs := by
  obtain ⟨h1, h2⟩ := h
  refine ⟨h1, ?_⟩
  rcases h2 with h2 | ⟨g, cap, cur, rfl, hg, hh, r⟩
  · exact .inl h2
  · exact .inr ⟨g, cap, cur, rfl, hg, (hk g rfl).trans hh, r⟩
theorem row_type (h : w.ownsRow base e size v n xs) (g : Nat) (hg : v.ownBlock = some g) : ∃ cur, w.heap[g]? = some (.cells cur e (0, 0)) := by
  rcases h.2 with ⟨rfl, -⟩ | ⟨g', cap, cur, rfl, -, hh, r⟩
  · cases hg
  · cases hg; exact ⟨cur, hh⟩
theorem row_lt (h : w.ownsRow base e size v n xs) (g : Nat) (hg : v.ownBlock = some g) : g < w.heap.size := by
  obtain ⟨cur, hh⟩ := row_type h g hg
  exact (Array.getElem?_eq_some_iff.1 hh).1
theorem row_shape (h : w.ownsRow base e size v n xs) : ∃ x cap, v = .slice x n cap ∧ n ≤ cap ∧ cap ≤ 9223372036854775807 := by
  rcases h.2 with ⟨rfl, rfl⟩ | ⟨g, cap, cur, rfl, -, -, h1, h2, -⟩
  · exact ⟨none, 0, rfl, Nat.le_refl _, by omega⟩
  · unfold maxLen at h2
    exact ⟨_, _, rfl, h1, by omega⟩
/-- What lies in a row. -/
theorem row_at (h : w.ownsRow base e size v n xs) (k : Nat) (hk : k < xs.length) : ∃ g cap, v = .slice (some ⟨g, 0, none⟩) n cap ∧ n ≤ cap ∧ cap ≤ 9223372036854775807 ∧ g < w.heap.size ∧ w.cell? ⟨g, k, none⟩ = some xs[k] ∧ w.frozen? ⟨g, k, none⟩ = false := by
  obtain ⟨h0, ⟨rfl, rfl⟩ | ⟨g, cap, cur, rfl, -, hh, h1, h2, h3, h4⟩⟩ := h
  · omega
  · unfold maxLen at h2
    refine ⟨g, cap, rfl, h1, by omega, (Array.getElem?_eq_some_iff.1 hh).1, ?_, by simp [World.frozen?, hh]⟩
    have : (cur.toList.take (n * size))[k]? = xs[k]? := by rw [h4]
    rw [List.getElem?_take_of_lt (by omega), List.getElem?_eq_getElem hk] at this
    unfold World.cell?
    simp only [hh]
    simpa using this
theorem row_set (h : w.ownsRow base e size v n xs) (g : Nat) (hg : v.ownBlock = some g) (k : Nat) (u : Value) : (w.setCell ⟨g, k, none⟩ u).ownsRow base e size v n (xs.set k u) := by
  obtain ⟨h0, ⟨rfl, -⟩ | ⟨g', cap, cur, rfl, hb, hh, h1, h2, h3, h4⟩⟩ := h
  · cases hg
  · cases hg
    refine ⟨by simpa using h0, .inr ⟨_, cap, cur.setIfInBounds k u, rfl, hb, by simp [World.setCell, Array.getElem?_modify, hh], h1, h2, by simpa using h3, ?_⟩⟩
    rw [← h4]
    simp only [Array.toList_setIfInBounds]
    rw [List.take_set]
end

theorem new1 {W : World} {g : Nat} (u : Value) (ty : TypeId) (hg : g = W.heap.size) (j : Nat) (u' : Value) (hj : [u][j]? = some u') : (W.alloc (.cells #[u] ty)).cell? ((⟨g, 0, none⟩ : Addr).add j) = some u' := by
  subst hg
  match j, hj with
  | 0, hj =>
    simp at hj
    subst hj
    have e : (W.alloc (.cells #[u] ty)).heap[W.heap.size]? = some (.cells #[u] ty (0, 0)) := (MapKept.heap_alloc W _).1
    unfold World.cell?
    rw [show ((⟨W.heap.size, 0, none⟩ : Addr).add 0).block = W.heap.size from rfl, e]
    rfl
end Go.Proofs.Ytnakafmlenngnaa.Qm
