/- Arguments that are structs and arrays by value, opened. -/
import Derived.Test.YtnakafmlenngnaaQwm
import Derived.WalkKit
import Derived.ProofKit
import Derived.OpenShut
namespace Go.Proofs.Ytnakafmlenngnaa.Qm
set_option maxRecDepth 100000
open Go.RowKit Go.ChangeShapes Go.WideShapes Go.ChangeAt

theorem c43 : Try.prog.cellsOf 43 = 6 := by kernel_rfl
theorem c53 : Try.prog.cellsOf 53 = 2 := by kernel_rfl
theorem cc3 : Try.prog.cellsOf 3 = 1 := by kernel_rfl

section
variable {H : Type} {enc : TypeId × Value → H} {w : World} {base : Nat} {spare : Nat → Bool} {held : Bool}

theorem cell_int {fuel : Nat} {v : Value} {y : DataW H × List MemPlace} (h : DataW.trod enc Try.prog w base spare held fuel 3 [v] = some y) : ∃ n : Int, v = .int .i64 n := by
  obtain ⟨a, ha, -⟩ := DataW.trod_int Try.underlying3 h
  injection ha with ha
  exact ⟨a, ha⟩

theorem array6 {α : Type} {cs : Array α} (h : cs.size = 6) : ∃ c0 c1 c2 c3 c4 c5, cs = #[c0, c1, c2, c3, c4, c5] := by
  obtain ⟨l⟩ := cs
  match l, h with
  | [c0, c1, c2, c3, c4, c5], _ => exact ⟨c0, c1, c2, c3, c4, c5, rfl⟩
theorem array2 {α : Type} {cs : Array α} (h : cs.size = 2) : ∃ c0 c1, cs = #[c0, c1] := by
  obtain ⟨l⟩ := cs
  match l, h with
  | [c0, c1], _ => exact ⟨c0, c1, rfl⟩

theorem trod_some {α : Type} {o : Option α} {xs : List α} {i : Nat} (h : o = xs[i]?) (hi : i < xs.length) : ∃ y, o = some y := ⟨xs[i], by rw [h, List.getElem?_eq_getElem hi]⟩

theorem open_lim {r : Reach} {b0 : Nat} {v : Value} {d : DataW H} {p : List MemPlace} (hv : Value.okWide Try.prog w r b0 43 v) (h : DataW.Trod enc Try.prog w base spare held 43 v d p) : ∃ a i m mi ma li, v = limV a i m mi ma li := by
  obtain ⟨cs, rfl, hsz⟩ := okWide_struct Try.underlying43 hv
  obtain ⟨c0, c1, c2, c3, c4, c5, rfl⟩ := array6 (hsz.trans c43)
  obtain ⟨fuel, hf⟩ := h
  obtain ⟨ys, m, _, -, -, hl, hg⟩ := DataW.trod_struct Try.underlying43 hf
  have hl : ys.length = 6 := hl
  have hg0 := hg 0 _ rfl
  have hg1 := hg 1 _ rfl
  have hg2 := hg 2 _ rfl
  have hg3 := hg 3 _ rfl
  have hg4 := hg 4 _ rfl
  have hg5 := hg 5 _ rfl
  simp only [Value.cells] at hg0 hg1 hg2 hg3 hg4 hg5
  obtain ⟨_, e0⟩ := trod_some hg0 (by omega)
  obtain ⟨_, e1⟩ := trod_some hg1 (by omega)
  obtain ⟨_, e2⟩ := trod_some hg2 (by omega)
  obtain ⟨_, e3⟩ := trod_some hg3 (by omega)
  obtain ⟨_, e4⟩ := trod_some hg4 (by omega)
  obtain ⟨_, e5⟩ := trod_some hg5 (by omega)
  obtain ⟨a0, rfl⟩ := cell_int e0
  obtain ⟨a1, rfl⟩ := cell_int e1
  obtain ⟨a2, rfl⟩ := cell_int e2
  obtain ⟨a3, rfl⟩ := cell_int e3
  obtain ⟨a4, rfl⟩ := cell_int e4
  obtain ⟨a5, rfl⟩ := cell_int e5
  exact ⟨a0, a1, a2, a3, a4, a5, rfl⟩

theorem okWide_array' {t e : TypeId} {n : Nat} {r : Reach} {b0 : Nat} {v : Value} (ht : Try.prog.underlying t = some (.array n e)) (h : Value.okWide Try.prog w r b0 t v) : ∃ cs, v = .agg cs ∧ cs.size = Try.prog.cellsOf t := by
  simp only [Value.okWide, ht] at h
  obtain ⟨cs, h1, h2, _⟩ := h
  exact ⟨cs, h1, h2⟩

theorem open_pair {r : Reach} {b0 : Nat} {v : Value} {d : DataW H} {p : List MemPlace} (hv : Value.okWide Try.prog w r b0 53 v) (h : DataW.Trod enc Try.prog w base spare held 53 v d p) : ∃ a b, v = .agg #[.int .i64 a, .int .i64 b] := by
  obtain ⟨cs, rfl, hsz⟩ := okWide_array' Try.underlying53 hv
  obtain ⟨c0, c1, rfl⟩ := array2 (hsz.trans c53)
  obtain ⟨fuel, hf⟩ := h
  obtain ⟨ys, m, _, -, -, hl, hg⟩ := DataW.trod_array Try.underlying53 hf
  have hg0 := hg 0 (by omega)
  have hg1 := hg 1 (by omega)
  simp only [cc3, Value.cells] at hg0 hg1
  obtain ⟨_, e0⟩ := trod_some hg0 (by omega)
  obtain ⟨_, e1⟩ := trod_some hg1 (by omega)
  obtain ⟨a0, rfl⟩ := cell_int e0
  obtain ⟨a1, rfl⟩ := cell_int e1
  exact ⟨a0, a1, rfl⟩
end
end Go.Proofs.Ytnakafmlenngnaa.Qm
