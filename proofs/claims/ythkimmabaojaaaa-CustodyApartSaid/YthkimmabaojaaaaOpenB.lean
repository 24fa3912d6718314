/- A deed that came in by value. -/
import Derived.Test.YthkimmabaojaaaaOpen
import Derived.Lib.SmallJoins
namespace Go.Proofs.Ythkimmabaojaaaa.Co
open Go.ChangeShapes Go.WideShapes Go.Deep Go.Joins Go.Proofs.Ythkimmabaojaaaa.Cu Go.Proofs.Ythkimmabaojaaaa.Cm

theorem deed_of {H : Type} {enc : TypeId × Value → H} {W : World} {r : Reach} {b0 : Nat} {v : Value} {d : DataW H} {ps : List MemPlace} (hv : Value.okWide Try.prog W r b0 30 v)
    (h : DataW.Trod enc Try.prog W 0 (fun _ => true) true 30 v d ps) : ∃ x : Dd, v = ddV x := by
  obtain ⟨v0, v1, v2, v3, y0, y1, y2, y3, n, rfl, -, -, t0, t1, t2, t3⟩ := open_agg4 Try.underlying30 (by kernel_rfl) (by kernel_rfl) hv h
  obtain ⟨i0, rfl⟩ := trod_int_cell t0
  obtain ⟨i1, rfl⟩ := trod_string_cell t1
  obtain ⟨i2, rfl⟩ := trod_int_cell t2
  obtain ⟨i3, rfl⟩ := trod_int_cell t3
  exact ⟨⟨i0, i1, i2, i3⟩, rfl⟩
end Go.Proofs.Ythkimmabaojaaaa.Co
