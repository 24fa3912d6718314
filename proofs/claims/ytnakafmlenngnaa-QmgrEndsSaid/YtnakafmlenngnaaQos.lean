/- Arguments that are slices of integers, opened. -/
import Derived.Test.YtnakafmlenngnaaQop
import Derived.Test.YtnakafmlenngnaaQdo
import Derived.ChangeSlices
import Derived.Carry
namespace Go.Proofs.Ytnakafmlenngnaa.Qm
open Go.RowKit Go.ChangeShapes Go.WideShapes Go.ChangeAt Go.Proofs.Ytnakafmlenngnaa.Wi

set_option maxRecDepth 100000 in
theorem open_ress {H : Type} {enc : TypeId × Value → H} {W : World} {r : Reach} {b0 : Nat} {v : Value} {d : DataW H} {p : List MemPlace} (hv : Value.okWide Try.prog W r b0 30 v) (h : DataW.Trod enc Try.prog W 0 (fun _ => true) true 30 v d p) :
    ∃ x l c, v = .slice x l.length c ∧ ResL W x l := by
  obtain ⟨a, len, cap, rfl⟩ := okWide_slice Try.underlying30 hv
  have key : ∃ zs : List Int, (a = none ∧ len = 0 ∧ cap = 0 ∧ zs = []) ∨
      ∃ x, a = some x ∧ len ≤ cap ∧ cap ≤ maxLen ∧ zs.length = cap ∧ (∀ i, i < zs.length → W.cell? (x.add i) = some (.int .i64 (zs.getD i 0))) ∧ ∀ n ∈ zs, (Lit.int .i64 n).wf = true := by
    obtain ⟨fuel, hf⟩ := h
    rcases open_ints Try.underlying30 Try.underlying3 (by kernel_rfl) hf with ⟨hcs, _⟩ | ⟨x, l, c, zs, hcs, _, hl, hm, hz, _, hcell, hwz⟩
    · simp [Value.cells] at hcs
      obtain ⟨rfl, rfl, rfl⟩ := hcs
      exact ⟨[], .inl ⟨rfl, rfl, rfl, rfl⟩⟩
    · simp [Value.cells] at hcs
      obtain ⟨rfl, rfl, rfl⟩ := hcs
      exact ⟨zs, .inr ⟨_, rfl, hl, hm, by simpa using hz, hcell, hwz⟩⟩
  obtain ⟨zs, hz⟩ := key
  obtain ⟨h1, h2⟩ := cells_of_row hz
  have hlen : (zs.take len).length = len := by
    rcases hz with ⟨-, rfl, -, rfl⟩ | ⟨x, -, hl, -, hzl, -⟩
    · rfl
    · rw [List.length_take]; omega
  refine ⟨a, zs.take len, cap, by rw [hlen], ?_⟩
  unfold ResL
  rw [hlen]
  refine ⟨h1, fun k hk => ?_⟩
  obtain ⟨b, o, e, hc, hb⟩ := h2 k hk
  refine ⟨b, o, e, hb, ?_⟩
  rw [hc]
  dsimp only
  rw [List.getD_eq_getElem?_getD, List.getD_eq_getElem?_getD, List.getElem?_take_of_lt hk]
end Go.Proofs.Ytnakafmlenngnaa.Qm
