/- A slice of ranges that came in. -/
import Derived.Test.YtpmmaickjolimaaDoorDh
import Derived.Test.YtpmmaickjolimaaDoorCk
import Derived.Deep.Slices
import Derived.Deep.Fields
import Derived.ChangeSame
import Derived.Carry
import Derived.SizedLaws
namespace Go.Proofs.YtpmmaickjolimaaDoor.Ci
open Go.ChangeShapes Go.WideShapes Go.Deep

theorem nets_of {H : Type} {enc : TypeId × Value → H} {W : World} {x : Option Addr} {len cap : Nat} {d : DataW H} {ps : List MemPlace}
    (h : DataW.Trod enc Tryd.prog W 0 (fun _ => true) true 35 (.slice x len cap) d ps) :
    ∃ Ls : List Nt, len = Ls.length ∧ Nets W x Ls ∧ (x = none ∧ len = 0 ∧ cap = 0 ∨ ∃ a elems spare, x = some a ∧ d = .slice elems spare ∧ elems.length = len ∧ len ≤ cap ∧ cap ≤ maxLen) := by
  obtain ⟨fuel, hf⟩ := h
  rcases open_slice Tryd.underlying35 hf with ⟨hcs, -⟩ | ⟨a, l, c, m, n, D, Pl, hcs, _, hl, hm, hmm, hx, hi⟩
  · simp [Value.cells] at hcs
    obtain ⟨rfl, rfl, rfl⟩ := hcs
    exact ⟨[], rfl, ⟨by simp, .inl rfl⟩, .inl ⟨rfl, rfl, rfl⟩⟩
  · simp [Value.cells] at hcs
    obtain ⟨rfl, rfl, rfl⟩ := hcs
    simp only [if_true] at hmm
    subst hmm
    simp only [Prod.mk.injEq] at hx
    have key : ∀ k, k < len → ∃ y : Nt, y.Fits ∧ ∀ j v, (netC y)[j]? = some v → W.cell? ((a.add (k * 18)).add j) = some v := by
      intro k hk
      obtain ⟨cs', hc, ht'⟩ := hi k (by omega)
      rw [cellsNet] at hc
      obtain ⟨y, hy, e⟩ := net_trod ht'
      obtain ⟨_, hcl, hat⟩ := World.cells?_some hc
      refine ⟨y, hy, fun j v hv => ?_⟩
      rw [← e] at hv
      have hj : j < 18 := by
        have := (List.getElem?_eq_some_iff.1 hv).1
        omega
      rw [hat j hj, hv]
    obtain ⟨Ls, hLs, hf, hat⟩ : ∃ Ls : List Nt, Ls.length = len ∧ (∀ y ∈ Ls, y.Fits) ∧ ∀ k (hk : k < Ls.length), ∀ j v, (netC Ls[k])[j]? = some v → W.cell? ((a.add (k * 18)).add j) = some v := by
      refine ⟨(List.range len).map fun k => if hk : k < len then (key k hk).choose else zeroN, by simp, ?_, ?_⟩
      · intro n hn
        obtain ⟨k, hk, rfl⟩ := List.mem_map.1 hn
        have hk' : k < len := List.mem_range.1 hk
        simp only [dif_pos hk']
        exact (key k hk').choose_spec.1
      · intro k hk j v hv
        have hk' : k < len := by simpa using hk
        rw [List.getElem_map, List.getElem_range] at hv
        simp only [dif_pos hk'] at hv
        exact (key k hk').choose_spec.2 j v hv
    refine ⟨Ls, hLs.symm, ⟨hf, ?_⟩, .inr ⟨a, _, _, rfl, hx.1, by simp, hl, hm⟩⟩
    cases Ls with
    | nil => exact .inl rfl
    | cons y ys =>
      right
      have h00 := hat 0 (by simp) 0 (.bool y.six) rfl
      obtain ⟨b, o, sp⟩ := a
      have hsp : sp = none := by simpa [Addr.add] using World.cell?_spot h00
      subst hsp
      refine ⟨b, o, rfl, ?_, ?_⟩
      · refine Nat.lt_of_not_le fun hge => ?_
        simp [Addr.add, World.cell?, Array.getElem?_eq_none hge] at h00
      · intro k hk j v hv
        have h := hat k hk j v hv
        rw [Addr.add_mid, Addr.add_mid] at h
        exact h
end Go.Proofs.YtpmmaickjolimaaDoor.Ci
