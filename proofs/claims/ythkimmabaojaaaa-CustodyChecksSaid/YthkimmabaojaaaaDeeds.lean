/- The deeds that came in, as cells. -/
import Derived.Test.YthkimmabaojaaaaLaw
namespace Go.Proofs.Ythkimmabaojaaaa.Ck
open Go.RowKit Go.Proofs.Ythkimmabaojaaaa.Cu Go.Proofs.Ythkimmabaojaaaa.Cm Go.Proofs.Ythkimmabaojaaaa.Cl

/-- The deeds that came in. -/
def Deeds (w : World) (x : Option Addr) (len : Nat) (D : Nat → Dd) : Prop :=
  len ≤ 9223372036854775807 ∧ ∀ k, k < len → ∃ b o, x = some ⟨b, o, none⟩ ∧ b < w.heap.size ∧ w.cell? ⟨b, o + k * 4, none⟩ = some (.int .i64 (D k).kind) ∧ w.cell? ⟨b, o + k * 4 + 1, none⟩ = some (.string (D k).id) ∧
    w.cell? ⟨b, o + k * 4 + 2, none⟩ = some (.int .i64 (D k).who) ∧ w.cell? ⟨b, o + k * 4 + 3, none⟩ = some (.int .i64 (D k).count)

theorem times_le {w : World} {mb T : Nat} {st : St} {F : Nat → Prop} (h : MachS w mb st T F) (id : ByteArray) (a : Int) : (rcOf st id a).2 ≤ T := by
  obtain ⟨pb, es, hM, rfl, -⟩ := h
  rw [rcOf_eq, findM_abs]
  cases hf : findE es id with
  | none => exact Nat.zero_le _
  | some e =>
    simp only [Option.map_some, rc]
    split
    · rename_i ha
      have hk : a.toNat < e.c.l.length := by omega
      rw [getD_lt _ _ _ hk]
      exact (hM.cares e (findE_mem hf).1).times _ (List.getElem_mem hk)
    · exact Nat.zero_le _

end Go.Proofs.Ythkimmabaojaaaa.Ck
