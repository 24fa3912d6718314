/- A copy of a slice of ranges: append([]api.Net{}, l...). -/
import Derived.Test.YtpmmaickjolimaaDoorDj
import Derived.Test.YtpmmaickjolimaaDoorCg
import Derived.Laws.AppendOwn
import Derived.Laws.AppendOwnNone
namespace Go.Proofs.YtpmmaickjolimaaDoor.Ci
open Go.RowKit

theorem flat_len : ∀ (Ls : List Nt), (∀ n ∈ Ls, n.Fits) → (Ls.flatMap netC).length = Ls.length * 18
  | [], _ => rfl
  | n :: Ls, h => by
    rw [List.flatMap_cons, List.length_append, netC_len n (h n (by simp)).len, flat_len Ls fun m hm => h m (by simp [hm]), List.length_cons]
    omega
theorem flat_at : ∀ (Ls : List Nt), (∀ n ∈ Ls, n.Fits) → ∀ k (hk : k < Ls.length) j v, (netC Ls[k])[j]? = some v → (Ls.flatMap netC)[k * 18 + j]? = some v
  | [], _, k, hk, _, _, _ => by cases hk
  | n :: Ls, h, 0, _, j, v, hv => by
    have hn : (netC n)[j]? = some v := hv
    have hj : j < (netC n).length := (List.getElem?_eq_some_iff.1 hn).1
    rw [List.flatMap_cons, Nat.zero_mul, Nat.zero_add, List.getElem?_append_left hj, hn]
  | n :: Ls, h, k + 1, hk, j, v, hv => by
    have hl := netC_len n (h n (by simp)).len
    rw [List.flatMap_cons, List.getElem?_append_right (by omega), hl, show (k + 1) * 18 + j - 18 = k * 18 + j by omega]
    exact flat_at Ls (fun m hm => h m (by simp [hm])) k (by simpa using hk) j v (by simpa using hv)
theorem flat_get : ∀ (Ls : List Nt), (∀ n ∈ Ls, n.Fits) → ∀ j v, (Ls.flatMap netC)[j]? = some v → ∃ k, ∃ hk : k < Ls.length, ∃ r, j = k * 18 + r ∧ (netC Ls[k])[r]? = some v
  | [], _, j, v, hv => by simp at hv
  | n :: Ls, h, j, v, hv => by
    have hl := netC_len n (h n (by simp)).len
    rw [List.flatMap_cons] at hv
    by_cases hj : j < 18
    · rw [List.getElem?_append_left (by omega)] at hv
      exact ⟨0, by simp, j, by omega, hv⟩
    · rw [List.getElem?_append_right (by omega), hl] at hv
      obtain ⟨k, hk, r, e, hr⟩ := flat_get Ls (fun m hm => h m (by simp [hm])) _ _ hv
      exact ⟨k + 1, by simpa using hk, r, by omega, by simpa using hr⟩
theorem nets_own {W : World} {base : Nat} {v : Value} {Ls : List Nt} (hf : ∀ n ∈ Ls, n.Fits) (h : W.ownsRow base 24 18 v Ls.length (Ls.flatMap netC)) : ∃ x c, v = .slice x Ls.length c ∧ Nets W x Ls := by
  rcases h.2 with ⟨rfl, h0⟩ | ⟨g, cap, cur, rfl, -, hg, -, -, -, ht⟩
  · exact ⟨none, 0, by rw [h0], hf, .inl (List.length_eq_zero_iff.1 h0)⟩
  · refine ⟨_, cap, rfl, hf, .inr ⟨g, 0, rfl, (Array.getElem?_eq_some_iff.1 hg).1, fun k hk j u hu => ?_⟩⟩
    have := flat_at Ls hf k hk j u hu
    rw [← ht, List.getElem?_take] at this
    split at this
    · rw [cell_of_row W g _ cur 24 (0, 0) hg, Nat.zero_add, ← Array.getElem?_toList]
      exact this
    · cases this
theorem net_sizes : (Tryd.prog.info? 24).map (fun i => (i.size, i.bytes)) = some (18, 32) := by kernel_rfl
theorem net_zero : (Tryd.prog.info? 24).bind (·.zero) = some (.agg (netC zeroN).toArray) := by kernel_rfl
theorem wpList_append_nets {v : World} {ops : Array Oper} {rest : List Oper} {o : Oper} {a : Act} {Q : Exit → Act → World → Prop} (hgd : o.guard = none) (s x : Operand)
    (ho : o.op = .call { callee := .builtin .append, args := #[s, x], argTypes := #[35, 35] })
    (Ls : List Nt) (y : Option Addr) (c : Nat) (hN : Nets v y Ls) (hy : y = none ∧ Ls.length = 0 ∧ c = 0 ∨ ∃ ad, y = some ad) (hm : Ls.length * 32 ≤ 140737488355328)
    (hs : a.eval s = .slice (some ⟨v.heap.size, 0, none⟩) 0 0) (hx : a.eval x = .slice y Ls.length c)
    (h : ∀ y' c' w', Nets w' y' Ls → Bel v w' → wpList Tryd.prog ops Q rest (a.put o.dst (.slice y' Ls.length c')) w') : wpList Tryd.prog ops Q (o :: rest) a (v.alloc (.cells #[] 24)) := by
  have hown := World.ownsRow_made (e := 24) (size := 18) v #[] 0 (Nat.le_refl _) (by decide) rfl
  have hI := net_sizes
  have hZ := net_zero
  obtain ⟨i, hi⟩ : ∃ i, Tryd.prog.info? 24 = some i := by
    cases hi : Tryd.prog.info? 24 with
    | none => rw [hi] at hI; cases hI
    | some i => exact ⟨i, rfl⟩
  rw [hi] at hI hZ
  simp only [Option.map_some, Option.some.injEq, Prod.mk.injEq] at hI
  simp only [Option.bind_some] at hZ
  rcases hy with ⟨rfl, h0, rfl⟩ | ⟨ad, rfl⟩
  · rw [h0] at hx
    refine wpList_append_own_none hgd s x 35 ho v.heap.size 24 i 18 Tryd.underlying35 hi _ 0 [] hs hown hx ?_
    have := h (some ⟨v.heap.size, 0, none⟩) 0 (v.alloc (.cells #[] 24)) ⟨hN.fits, .inl (List.length_eq_zero_iff.1 h0)⟩ ((Bel.refl v).alloc _)
    rw [h0] at this
    exact this
  · refine wpList_append_own _ hgd s x 35 ho v.heap.size 24 i _ 18 32 Tryd.underlying35 hi hZ hI.1 hI.2 (by kernel_rfl) (by decide) _ 0 [] hs hown ad Ls.length c (Ls.flatMap netC) hx (flat_len Ls hN.fits) ?_ ?_ (by unfold maxLen; omega) (by omega) (by rw [World.size_alloc]; omega) ?_
    · intro j u hu
      obtain ⟨k, hk, r, rfl, hr⟩ := flat_get Ls hN.fits j u hu
      obtain ⟨b, off, hb, hat⟩ := hN.place hk
      cases hb
      rw [Addr.add_mid, ← Nat.add_assoc, (((Bel.refl v).alloc _).cell ?_)]
      · exact hat r u hr
      · have := hat r u hr
        exact World.block_lt_of_cell? v _ this
    · intro u hu
      obtain ⟨n, -, hn⟩ := List.mem_flatMap.1 hu
      have h1 := netC_one n; rw [List.all_toArray, List.all_eq_true] at h1; exact h1 u hn
    · intro v' w' h2 hg _
      rw [Nat.zero_add, List.nil_append] at h2
      obtain ⟨y', c', rfl, hN'⟩ := nets_own hN.fits h2
      exact h y' c' w' hN' (((Bel.refl v).alloc _).grown hg hown)
end Go.Proofs.YtpmmaickjolimaaDoor.Ci
