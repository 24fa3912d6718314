/- A slice of paths that came in. -/
import Derived.Test.YtpmmaickjolimaaGreatDoorK25
import Derived.Test.YtpmmaickjolimaaGreatDoorRows
import Derived.ProofKit
import Derived.OpenShut
import Derived.ChangeArms
import Derived.DataShut
import Derived.Deep.Slices
import Derived.Deep.Fields
import Derived.ChangeSame
import Derived.Carry
namespace Go.Proofs.YtpmmaickjolimaaGreatDoor.Ma
open Go.ChangeShapes Go.WideShapes Go.Deep

theorem cellsPt : Tryz.prog.cellsOf 39 = 4 := by kernel_rfl
theorem cellsB : Tryz.prog.cellsOf 4 = 1 := by kernel_rfl
theorem cellsS : Tryz.prog.cellsOf 9 = 1 := by kernel_rfl
theorem bulk_mem {H : Type} : ∀ (l : List (DataW H)) (d : DataW H), d ∈ l → Rows.uptoBulk d ≤ Rows.uptoBulkAll l
  | [], d, h => by cases h
  | e :: l, d, h => by
    rw [Rows.uptoBulkAll]
    rcases List.mem_cons.1 h with rfl | h
    · omega
    · have := bulk_mem l d h; omega
set_option maxRecDepth 100000 in
/-- A path's cells, out of its reading. -/
theorem pt_trod {H : Type} {enc : TypeId × Value → H} {W : World} {spare : Nat → Bool} {held : Bool} {b0 fuel : Nat} {cs : List Value} {x : DataW H × List MemPlace}
    (h : DataW.trod enc Tryz.prog W b0 spare held fuel 39 cs = some x) : ∃ p : Pt, cs = ptC p ∧ p.loc.length ≤ Rows.uptoBulk x.1 ∧ p.dom.length ≤ Rows.uptoBulk x.1 := by
  obtain ⟨ys, n', hn', hy, hlen, hyl, hf⟩ := DataW.trod_struct Tryz.underlying39 h
  rw [cellsPt] at hlen
  have h0 : DataW.trod enc Tryz.prog W b0 spare held n' 4 ((cs.drop 0).take (Tryz.prog.cellsOf 4)) = ys[0]? := hf 0 _ rfl
  have h1 : DataW.trod enc Tryz.prog W b0 spare held n' 9 ((cs.drop 1).take (Tryz.prog.cellsOf 9)) = ys[1]? := hf 1 _ rfl
  have h2 : DataW.trod enc Tryz.prog W b0 spare held n' 9 ((cs.drop 2).take (Tryz.prog.cellsOf 9)) = ys[2]? := hf 2 _ rfl
  have h3 : DataW.trod enc Tryz.prog W b0 spare held n' 4 ((cs.drop 3).take (Tryz.prog.cellsOf 4)) = ys[3]? := hf 3 _ rfl
  rw [cellsB] at h0 h3
  rw [cellsS] at h1 h2
  have hyl4 : ys.length = 4 := hyl
  match ys, hyl4 with
  | [y0, y1, y2, y3], _ =>
    match cs, hlen with
    | [a0, a1, a2, a3], _ =>
      obtain ⟨b, e0, -⟩ := DataW.trod_bool Tryz.underlying4 (x := y0) h0
      obtain ⟨s1, e1, d1, -⟩ := DataW.trod_string Tryz.underlying9 (x := y1) h1
      obtain ⟨s2, e2, d2, -⟩ := DataW.trod_string Tryz.underlying9 (x := y2) h2
      obtain ⟨b3, e3, -⟩ := DataW.trod_bool Tryz.underlying4 (x := y3) h3
      have f0 : a0 = .bool b := by simpa using e0
      have f1 : a1 = .string s1 := by simpa using e1
      have f2 : a2 = .string s2 := by simpa using e2
      have f3 : a3 = .bool b3 := by simpa using e3
      rw [f0, f1, f2, f3]
      have hb : Rows.uptoBulk x.1 = Rows.uptoBulk y0.1 + (Rows.uptoBulk y1.1 + (Rows.uptoBulk y2.1 + (Rows.uptoBulk y3.1 + 0))) + 1 := by
        rw [hy]; rfl
      have k1 : Rows.uptoBulk y1.1 = s1.data.toList.length + 1 := by rw [d1]; rfl
      have k2 : Rows.uptoBulk y2.1 = s2.data.toList.length + 1 := by rw [d2]; rfl
      exact ⟨⟨b, s1.data.toList, s2.data.toList, b3⟩, rfl, by show s1.data.toList.length ≤ _; omega, by show s2.data.toList.length ≤ _; omega⟩
theorem pts_of {H : Type} {enc : TypeId × Value → H} {W : World} {x : Option Addr} {len cap : Nat} {d : DataW H} {ps : List MemPlace}
    (h : DataW.Trod enc Tryz.prog W 0 (fun _ => true) true 37 (.slice x len cap) d ps) :
    ∃ Ls : List Pt, len = Ls.length ∧ Pts W x Ls ∧ (∀ p ∈ Ls, p.loc.length ≤ Rows.uptoBulk d ∧ p.dom.length ≤ Rows.uptoBulk d) ∧ Ls.length ≤ Rows.uptoBulk d := by
  obtain ⟨fuel, hf⟩ := h
  rcases open_slice Tryz.underlying37 hf with ⟨hcs, -⟩ | ⟨a, l, c, m, n, D, Pl, hcs, _, hl, hm, hmm, hx, hi⟩
  · simp [Value.cells] at hcs
    obtain ⟨rfl, rfl, rfl⟩ := hcs
    exact ⟨[], rfl, ⟨.inl rfl⟩, by simp, by simp⟩
  · simp [Value.cells] at hcs
    obtain ⟨rfl, rfl, rfl⟩ := hcs
    simp only [if_true] at hmm
    subst hmm
    simp only [Prod.mk.injEq] at hx
    have hbd : ∀ k, k < len → Rows.uptoBulk (D k) ≤ Rows.uptoBulk d := by
      intro k hk
      rw [hx.1]
      have := bulk_mem ((List.range len).map D) (D k) (List.mem_map.2 ⟨k, List.mem_range.2 hk, rfl⟩)
      rw [Rows.uptoBulk]; omega
    have hlen : len ≤ Rows.uptoBulk d := by
      rw [hx.1, Rows.uptoBulk]
      have key : ∀ l : List (DataW H), l.length ≤ Rows.uptoBulkAll l := by
        intro l
        induction l with
        | nil => exact Nat.zero_le _
        | cons e l ih =>
          have : 1 ≤ Rows.uptoBulk e := by
            cases e with
            | lit q => cases q <;> simp [Rows.uptoBulk]
            | _ => simp [Rows.uptoBulk]
          rw [Rows.uptoBulkAll, List.length_cons]; omega
      have := key ((List.range len).map D)
      rw [List.length_map, List.length_range] at this
      omega
    have key : ∀ k, k < len → ∃ y : Pt, (y.loc.length ≤ Rows.uptoBulk d ∧ y.dom.length ≤ Rows.uptoBulk d) ∧ ∀ j v, (ptC y)[j]? = some v → W.cell? ((a.add (k * 4)).add j) = some v := by
      intro k hk
      obtain ⟨cs', hc, ht'⟩ := hi k (by omega)
      rw [cellsPt] at hc
      obtain ⟨y, e, y1, y2⟩ := pt_trod ht'
      have := hbd k hk
      obtain ⟨_, hcl, hat⟩ := World.cells?_some hc
      refine ⟨y, ⟨Nat.le_trans y1 this, Nat.le_trans y2 this⟩, fun j v hv => ?_⟩
      rw [← e] at hv
      have hj : j < 4 := by
        have := (List.getElem?_eq_some_iff.1 hv).1
        omega
      rw [hat j hj, hv]
    obtain ⟨Ls, hLs, hf, hat⟩ : ∃ Ls : List Pt, Ls.length = len ∧ (∀ y ∈ Ls, y.loc.length ≤ Rows.uptoBulk d ∧ y.dom.length ≤ Rows.uptoBulk d) ∧ ∀ k (hk : k < Ls.length), ∀ j v, (ptC Ls[k])[j]? = some v → W.cell? ((a.add (k * 4)).add j) = some v := by
      refine ⟨(List.range len).map fun k => if hk : k < len then (key k hk).choose else ⟨false, [], [], false⟩, by simp, ?_, ?_⟩
      · intro n hn
        obtain ⟨k, hk, rfl⟩ := List.mem_map.1 hn
        have hk' : k < len := List.mem_range.1 hk
        simp only [dif_pos hk']
        exact (key k hk').choose_spec.1
      · intro k hk j v hv
        have hk' : k < len := by simpa using hk
        rw [List.getElem_map, List.getElem_range] at hv
        simp only [dif_pos hk'] at hv
        exact (key k hk').choose_spec.2 j v hv
    refine ⟨Ls, hLs.symm, ⟨?_⟩, hf, by omega⟩
    cases Ls with
    | nil => exact .inl rfl
    | cons y ys =>
      right
      have h00 := hat 0 (by simp) 0 (.bool y.null) rfl
      obtain ⟨b, o, sp⟩ := a
      have hsp : sp = none := by simpa [Addr.add] using World.cell?_spot h00
      subst hsp
      refine ⟨b, o, rfl, ?_, ?_⟩
      · refine Nat.lt_of_not_le fun hge => ?_
        simp [Addr.add, World.cell?, Array.getElem?_eq_none hge] at h00
      · intro k hk j v hv
        have h := hat k hk j v hv
        rw [Addr.add_mid, Addr.add_mid] at h
        exact h
end Go.Proofs.YtpmmaickjolimaaGreatDoor.Ma
