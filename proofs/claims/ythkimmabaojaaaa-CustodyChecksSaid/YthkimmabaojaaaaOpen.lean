/- A slice of deeds that came in: its cells. -/
import Derived.Test.YthkimmabaojaaaaLaw
import Derived.Test.YthkimmabaojaaaaDeeds
import Derived.Deep.Slices
import Derived.Deep.Fields
import Derived.ChangeSame
import Derived.ProofKit
import Derived.Carry
namespace Go.Proofs.Ythkimmabaojaaaa.Co
open Go.ChangeShapes Go.WideShapes Go.Deep
section
variable {H : Type} {enc : TypeId × Value → H} {P : Program} {w : World} {base : Nat} {spare : Nat → Bool} {held : Bool}
theorem open_slice_fields {t e : TypeId} {fs : Array Field} {fuel : Nat} {cs : List Value} {x : DataW H × List MemPlace} (ht : P.underlying t = some (.slice e)) (he : P.underlying e = some (.struct fs))
    (hone : oneCellFields P fs = true) (hC : P.cellsOf e = fs.size) (h : DataW.trod enc P w base spare held fuel t cs = some x) :
    (cs = [.slice none 0 0] ∧ x = (.nil, [])) ∨
    ∃ (a : Addr) (len cap m : Nat) (D : Nat → DataW H) (Pl : Nat → List MemPlace), cs = [.slice (some a) len cap] ∧ base ≤ a.block ∧ len ≤ cap ∧ cap ≤ maxLen ∧ m = (if spare a.block then cap else len) ∧
      x = (.slice ((List.range len).map D) ((List.range (m - len)).map fun j => D (len + j)), MemPlace.row a (m * fs.size) ++ (List.range m).flatMap Pl) ∧
      ∀ i, i < m → ∃ (ys : List (DataW H × List MemPlace)) (n : Nat), D i = .agg (ys.map (·.1)) ∧ Pl i = ys.flatMap (·.2) ∧ ys.length = fs.size ∧
        ∀ (j : Nat) (f : Field), fs[j]? = some f → ∃ (v : Value) (y : DataW H × List MemPlace), w.cell? (a.add (i * fs.size + j)) = some v ∧ ys[j]? = some y ∧ DataW.trod enc P w base spare held n f.type [v] = some y := by
  rcases open_slice ht h with h0 | ⟨a, len, cap, m, n, D, Pl, hcs, hb, hl, hm, hmm, hx, hi⟩
  · exact .inl h0
  · refine .inr ⟨a, len, cap, m, D, Pl, hcs, hb, hl, hm, hmm, by rw [hC] at hx; exact hx, fun i him => ?_⟩
    obtain ⟨cs', hc, ht'⟩ := hi i him
    rw [hC] at hc
    obtain ⟨ys, n', hn', hy, hlen, hyl, hf⟩ := DataW.trod_struct he ht'
    obtain ⟨_, hcl, hat⟩ := World.cells?_some hc
    simp only [Prod.mk.injEq] at hy
    refine ⟨ys, n', hy.1, hy.2, hyl, fun j f hj => ?_⟩
    obtain ⟨ho, hk⟩ := hone_of hone j f hj
    have hjl : j < fs.size := (Array.getElem?_eq_some_iff.1 hj).1
    have hcell := hat j hjl
    have hv : cs'[j]? = some (cs'[j]'(by omega)) := List.getElem?_eq_getElem (by omega)
    have h1 := hf j f hj
    rw [ho, hk] at h1
    have hone' : (cs'.drop j).take 1 = [cs'[j]'(by omega)] := by
      rw [List.drop_eq_getElem_cons (by omega)]
      rfl
    rw [hone'] at h1
    have hys : ys[j]? = some (ys[j]'(by omega)) := List.getElem?_eq_getElem (by omega)
    refine ⟨_, _, ?_, hys, h1.trans hys⟩
    rw [← Go.Deep.add_add, hcell, hv]
end

open Go.Proofs.Ythkimmabaojaaaa.Cu Go.Proofs.Ythkimmabaojaaaa.Ck

section
variable {H : Type} {enc : TypeId × Value → H} {W : World}
theorem trod_int_cell {n : Nat} {v : Value} {y : DataW H × List MemPlace} (h : DataW.trod enc Try.prog W 0 (fun _ => true) true n 3 [v] = some y) : ∃ i : Int, v = .int .i64 i := by
  cases n with
  | zero => simp [DataW.trod] at h
  | succ n =>
    cases v <;> simp [DataW.trod, Try.underlying3] at h
    rename_i k i
    exact ⟨i, by rw [h.1.1]⟩
theorem trod_string_cell {n : Nat} {v : Value} {y : DataW H × List MemPlace} (h : DataW.trod enc Try.prog W 0 (fun _ => true) true n 9 [v] = some y) : ∃ s : ByteArray, v = .string s := by
  cases n with
  | zero => simp [DataW.trod] at h
  | succ n =>
    cases v <;> simp [DataW.trod, Try.underlying9] at h
    exact ⟨_, rfl⟩

theorem deeds_of {x : Option Addr} {len cap : Nat} {d : DataW H} {ps : List MemPlace} (h : DataW.Trod enc Try.prog W 0 (fun _ => true) true 22 (.slice x len cap) d ps) : ∃ D, Deeds W x len D := by
  obtain ⟨fuel, hf⟩ := h
  rcases open_slice_fields Try.underlying22 Try.underlying30 (by kernel_rfl) (by kernel_rfl) hf with ⟨hcs, _⟩ | ⟨a, l, c, m, D, Pl, hcs, _, hl, hm, hmm, _, hi⟩
  · simp [Value.cells] at hcs
    obtain ⟨rfl, rfl, rfl⟩ := hcs
    exact ⟨fun _ => ⟨0, ByteArray.empty, 0, 0⟩, by omega, fun k hk => by omega⟩
  · simp [Value.cells] at hcs
    obtain ⟨rfl, rfl, rfl⟩ := hcs
    simp only [if_true] at hmm
    subst hmm
    have key : ∀ k, k < len → ∃ d : Dd, W.cell? (a.add (k * 4)) = some (.int .i64 d.kind) ∧ W.cell? (a.add (k * 4 + 1)) = some (.string d.id) ∧ W.cell? (a.add (k * 4 + 2)) = some (.int .i64 d.who) ∧ W.cell? (a.add (k * 4 + 3)) = some (.int .i64 d.count) := by
      intro k hk
      obtain ⟨ys, n, -, -, -, hfld⟩ := hi k (by omega)
      obtain ⟨v0, y0, c0, -, t0⟩ := hfld 0 _ rfl
      obtain ⟨v1, y1, c1, -, t1⟩ := hfld 1 _ rfl
      obtain ⟨v2, y2, c2, -, t2⟩ := hfld 2 _ rfl
      obtain ⟨v3, y3, c3, -, t3⟩ := hfld 3 _ rfl
      obtain ⟨i0, rfl⟩ := trod_int_cell t0
      obtain ⟨i1, rfl⟩ := trod_string_cell t1
      obtain ⟨i2, rfl⟩ := trod_int_cell t2
      obtain ⟨i3, rfl⟩ := trod_int_cell t3
      exact ⟨⟨i0, i1, i2, i3⟩, c0, c1, c2, c3⟩
    obtain ⟨b, o, sp⟩ := a
    unfold maxLen at hm
    refine ⟨fun k => if h : k < len then Classical.choose (key k h) else ⟨0, ByteArray.empty, 0, 0⟩, by omega, fun k hk => ?_⟩
    simp only [dif_pos hk]
    obtain ⟨c0, c1, c2, c3⟩ := Classical.choose_spec (key k hk)
    generalize Classical.choose (key k hk) = d at c0 c1 c2 c3
    have hs : sp = none := by
      obtain ⟨d0, e0, -⟩ := key 0 (by omega)
      simpa [Addr.add] using World.cell?_spot e0
    subst hs
    have e : ∀ j, (⟨b, o, none⟩ : Addr).add j = ⟨b, o + j, none⟩ := by
      intro j
      unfold Addr.add
      by_cases h : j = 0
      · subst h; rfl
      · simp [h]
    simp only [e, ← Nat.add_assoc] at c0 c1 c2 c3
    refine ⟨b, o, rfl, ?_, c0, c1, c2, c3⟩
    rcases Nat.lt_or_ge b W.heap.size with h' | h'
    · exact h'
    · simp [World.cell?, Array.getElem?_eq_none h'] at c0
end
end Go.Proofs.Ythkimmabaojaaaa.Co
