/- What deeds do to one recipient: plain laws of the machine. -/
import Derived.Test.YthkimmabaojaaaaRead
namespace Go.Proofs.Ythkimmabaojaaaa.Cl
open Go.Proofs.Ythkimmabaojaaaa.Cu Go.Proofs.Ythkimmabaojaaaa.Cm

theorem findM_set (st : St) (id id' : ByteArray) (c : Care) : findM (setM st id c) id' = if id' = id then (findM st id).map fun _ => c else findM st id' := by
  unfold findM setM
  induction st with
  | nil => simp
  | cons x st ih =>
    simp only [List.map_cons, List.find?_cons]
    by_cases h : x.1 = id
    · simp only [h, if_true, decide_true]
      by_cases h' : id' = id
      · simp [h']
      · have h'' : ¬ id = id' := fun e => h' e.symm
        simp only [h', h'', if_false, decide_false] at ih ⊢
        exact ih
    · simp only [h, if_false, decide_false]
      by_cases h' : x.1 = id'
      · have : ¬ id' = id := fun e => h (h'.trans e)
        simp [h', this]
      · simp only [h', decide_false]
        exact ih

theorem findM_add (st : St) (id id' : ByteArray) (c : Care) (hno : findM st id = none) : findM (st ++ [(id, c)]) id' = if id' = id then some c else findM st id' := by
  unfold findM at *
  rw [List.find?_append]
  by_cases h : id' = id
  · subst h
    have : st.find? (fun x => decide (x.1 = id')) = none := by simpa using hno
    rw [this]; simp
  · have h' : ¬ id = id' := fun e => h e.symm
    simp [h, h']

/-- A care as it may come about. -/
def GoodC (c : Care) : Prop := ∀ x ∈ c.l, 1 ≤ x.1 ∧ x.1 ≤ 5 ∧ (x.1 = 2 → 0 < x.2)
def Good (st : St) : Prop := ∀ id c, findM st id = some c → GoodC c

theorem good_nil : Good [] := fun _ _ h => by cases h

theorem goodC_set {c : Care} {k : Nat} {y : Nat × Nat} (h : GoodC c) (hy : 1 ≤ y.1 ∧ y.1 ≤ 5 ∧ (y.1 = 2 → 0 < y.2)) : GoodC { c with l := c.l.set k y } := by
  intro x hx
  rcases List.mem_or_eq_of_mem_set hx with hx | rfl
  · exact h x hx
  · exact hy

theorem goodC_act (c : Care) (d : Dd) (h : GoodC c) (hm : may c d = true) : GoodC (act c d) := by
  unfold may at hm
  simp only [Bool.and_eq_true] at hm
  have hm := hm.1
  unfold mayK at hm
  unfold act
  by_cases k2 : d.kind = 2
  · rw [if_pos k2] at hm ⊢
    simp only [Bool.and_eq_true] at hm
    obtain ⟨-, -, p3⟩ := pend_yes hm.2
    exact goodC_set h (by simp only [p3]; omega)
  rw [if_neg k2] at hm ⊢
  by_cases k4 : d.kind = 4
  · rw [if_pos k4] at hm
    rw [if_neg (by omega), if_pos k4]
    exact goodC_set h (by simp only; omega)
  rw [if_neg k4] at hm
  by_cases k5 : d.kind = 5
  · rw [if_pos k5] at hm
    rw [if_neg (by omega), if_neg k4, if_pos k5]
    exact goodC_set h (by simp only; omega)
  rw [if_neg k5] at hm
  by_cases k3 : d.kind = 3
  · rw [if_pos k3] at hm
    simp only [Bool.and_eq_true, decide_eq_true_eq] at hm
    rw [if_pos k3]
    exact goodC_set h (by simp only; omega)
  rw [if_neg k3, if_neg k4, if_neg k5]
  by_cases k6 : d.kind = 6
  · rw [if_pos k6]; exact h
  rw [if_neg k6]
  by_cases k7 : d.kind = 7
  · rw [if_pos k7]; exact h
  rw [if_neg k7]
  by_cases k8 : d.kind = 8
  · rw [if_pos k8]
    intro x hx
    simp only [List.mem_map] at hx
    obtain ⟨y, hy, rfl⟩ := hx
    have := h y hy
    unfold gone
    split
    · simp only; omega
    · exact this
  rw [if_neg k8]
  split <;> exact h

theorem good_step (st : St) (d : Dd) (h : Good st) : Good (stepS st d) := by
  unfold stepS
  split
  · exact h
  split
  · split
    · exact h
    · rename_i hb
      have hno : findM st d.id = none := by
        cases hf : findM st d.id with
        | none => rfl
        | some c => exact (hb (.inl (by rw [hf]; rfl))).elim
      intro id c hc
      rw [findM_add _ _ _ _ hno] at hc
      split at hc
      · cases hc
        intro x hx
        simp only [List.mem_replicate] at hx
        rw [hx.2]; simp
      · exact h id c hc
  · cases hf : findM st d.id with
    | none => exact h
    | some c =>
      simp only
      cases hm : may c d with
      | false => exact h
      | true =>
        intro id c' hc
        simp only [if_true] at hc
        rw [findM_set] at hc
        split at hc
        · rw [hf] at hc
          cases hc
          exact goodC_act c d (h _ _ hf) hm
        · exact h id c' hc

/-- What is told of a recipient of a care. -/
def rc (c : Care) (a : Int) : Nat × Nat := if 0 ≤ a ∧ a < c.l.length then c.l.getD a.toNat (0, 0) else (0, 0)

theorem rcOf_eq (st : St) (id : ByteArray) (a : Int) : rcOf st id a = match findM st id with | none => (0, 0) | some c => rc c a := rfl

theorem rc_good {c : Care} (h : GoodC c) (a : Int) : (rc c a).1 ≤ 5 ∧ ((rc c a).1 = 2 → 0 < (rc c a).2) := by
  unfold rc
  split
  · rename_i ha
    have hk : a.toNat < c.l.length := by omega
    rw [getD_lt _ _ _ hk]
    have := h _ (List.getElem_mem hk)
    exact ⟨this.2.1, this.2.2⟩
  · simp

theorem rcOf_good {st : St} (h : Good st) (id : ByteArray) (a : Int) : (rcOf st id a).1 ≤ 5 ∧ ((rcOf st id a).1 = 2 → 0 < (rcOf st id a).2) := by
  rw [rcOf_eq]
  cases hf : findM st id with
  | none => simp
  | some c => exact rc_good (h _ _ hf) a

/-- One recipient, one deed: what may become of it. -/
def Turn (s t s' t' : Nat) (e : Int) (same : Prop) (kind who a : Int) : Prop :=
  (s' = s ∧ t' = t ∧ ¬ (e = 0 ∧ same ∧ kind = 9 ∧ s = 1)) ∨
  (s = 0 ∧ s' = 1 ∧ t' = t ∧ e = 0 ∧ same ∧ kind = 1) ∨
  (s = 1 ∧ s' = 1 ∧ t' = t + 1 ∧ e = 0 ∧ same ∧ kind = 2 ∧ who = a) ∨
  (s = 1 ∧ s' = 2 ∧ t' = t ∧ 0 < t ∧ e = 0 ∧ same ∧ kind = 3 ∧ who = a) ∨
  (s = 1 ∧ s' = 3 ∧ t' = t ∧ e = 0 ∧ same ∧ kind = 4 ∧ who = a) ∨
  (s = 1 ∧ s' = 4 ∧ t' = t ∧ e = 0 ∧ same ∧ kind = 5 ∧ who = a) ∨
  (s = 1 ∧ s' = 5 ∧ t' = t ∧ e = 0 ∧ same ∧ kind = 8)

theorem rc_set (c : Care) (k : Nat) (y : Nat × Nat) (a : Int) (hk : k < c.l.length) : rc { c with l := c.l.set k y } a = if a = k then y else rc c a := by
  unfold rc
  simp only [List.length_set]
  by_cases h : 0 ≤ a ∧ a < c.l.length
  · rw [if_pos h, if_pos h]
    by_cases e : a = k
    · rw [if_pos e, e]
      simp [List.getD_eq_getElem?_getD, hk]
    · rw [if_neg e]
      have : ¬ k = a.toNat := by omega
      simp [List.getD_eq_getElem?_getD, this]
  · rw [if_neg h, if_neg h, if_neg (by omega)]

theorem rc_over (c : Care) (a : Int) (h : over c = true) : (rc c a).1 ≠ 1 := by
  unfold rc
  split
  · rename_i ha
    have hk : a.toNat < c.l.length := by omega
    rw [getD_lt _ _ _ hk]
    unfold over at h
    rw [List.all_eq_true] at h
    have := h _ (List.getElem_mem hk)
    simpa using this
  · simp

theorem rc_gone (c : Care) (a : Int) : rc { c with l := c.l.map gone } a = gone (rc c a) := by
  unfold rc
  simp only [List.length_map]
  by_cases h : 0 ≤ a ∧ a < c.l.length
  · rw [if_pos h, if_pos h]
    have hk : a.toNat < c.l.length := by omega
    simp [List.getD_eq_getElem?_getD, hk]
  · rw [if_neg h, if_neg h]; rfl

theorem act_turn (c : Care) (d : Dd) (a : Int) (hm : may c d = true) (hk1 : 2 ≤ d.kind) (hk2 : d.kind ≤ 9) :
    Turn (rc c a).1 (rc c a).2 (rc (act c d) a).1 (rc (act c d) a).2 0 True d.kind d.who a := by
  unfold may at hm
  simp only [Bool.and_eq_true] at hm
  have hm := hm.1
  unfold mayK at hm
  have pk : pend c d.who = true → ∃ k : Nat, d.who = k ∧ k < c.l.length ∧ (c.l.getD k (0, 0)).1 = 1 ∧ d.who.toNat = k ∧ rc c d.who = c.l.getD k (0, 0) := by
    intro h
    obtain ⟨p1, p2, p3⟩ := pend_yes h
    exact ⟨d.who.toNat, by omega, p2, p3, rfl, by unfold rc; rw [if_pos ⟨p1, by omega⟩]⟩
  have none : rc (act c d) a = rc c a → d.kind ≠ 9 → Turn (rc c a).1 (rc c a).2 (rc (act c d) a).1 (rc (act c d) a).2 0 True d.kind d.who a := by
    intro h h9
    rw [h]; exact .inl ⟨rfl, rfl, by omega⟩
  rcases (by omega : d.kind = 2 ∨ d.kind = 3 ∨ d.kind = 4 ∨ d.kind = 5 ∨ d.kind = 6 ∨ d.kind = 7 ∨ d.kind = 8 ∨ d.kind = 9) with k | k | k | k | k | k | k | k
  · simp only [k, if_true, Bool.and_eq_true] at hm
    obtain ⟨j, h1, h2, h3, h4, h5⟩ := pk hm.2
    have ha : act c d = { c with l := c.l.set j ((c.l.getD j (0, 0)).1, (c.l.getD j (0, 0)).2 + 1) } := by simp [act, k, h4]
    by_cases e : a = d.who
    · rw [ha, rc_set _ _ _ _ h2, if_pos (by omega), e, h5]
      exact .inr (.inr (.inl ⟨h3, h3, rfl, rfl, trivial, k, rfl⟩))
    · exact none (by rw [ha, rc_set _ _ _ _ h2, if_neg (by omega)]) (by omega)
  · simp [k] at hm
    obtain ⟨j, h1, h2, h3, h4, h5⟩ := pk hm.1
    have ha : act c d = { c with l := c.l.set j (2, (c.l.getD j (0, 0)).2) } := by simp [act, k, h4, setSt]
    by_cases e : a = d.who
    · rw [ha, rc_set _ _ _ _ h2, if_pos (by omega), e, h5]
      exact .inr (.inr (.inr (.inl ⟨h3, rfl, rfl, by have := hm.2; rw [h4] at this; simpa using this, rfl, trivial, k, rfl⟩)))
    · exact none (by rw [ha, rc_set _ _ _ _ h2, if_neg (by omega)]) (by omega)
  · simp [k] at hm
    obtain ⟨j, h1, h2, h3, h4, h5⟩ := pk hm
    have ha : act c d = { c with l := c.l.set j (3, (c.l.getD j (0, 0)).2) } := by simp [act, k, h4, setSt]
    by_cases e : a = d.who
    · rw [ha, rc_set _ _ _ _ h2, if_pos (by omega), e, h5]
      exact .inr (.inr (.inr (.inr (.inl ⟨h3, rfl, rfl, rfl, trivial, k, rfl⟩))))
    · exact none (by rw [ha, rc_set _ _ _ _ h2, if_neg (by omega)]) (by omega)
  · simp [k] at hm
    obtain ⟨j, h1, h2, h3, h4, h5⟩ := pk hm
    have ha : act c d = { c with l := c.l.set j (4, (c.l.getD j (0, 0)).2) } := by simp [act, k, h4, setSt]
    by_cases e : a = d.who
    · rw [ha, rc_set _ _ _ _ h2, if_pos (by omega), e, h5]
      exact .inr (.inr (.inr (.inr (.inr (.inl ⟨h3, rfl, rfl, rfl, trivial, k, rfl⟩)))))
    · exact none (by rw [ha, rc_set _ _ _ _ h2, if_neg (by omega)]) (by omega)
  · exact none (by simp [act, k, rc]) (by omega)
  · exact none (by simp [act, k, rc]) (by omega)
  · have ha : act c d = { c with l := c.l.map gone } := by simp [act, k]
    by_cases h1 : (rc c a).1 = 1
    · rw [ha, rc_gone, gone, if_pos h1]
      exact .inr (.inr (.inr (.inr (.inr (.inr ⟨h1, rfl, rfl, rfl, trivial, k⟩)))))
    · exact none (by rw [ha, rc_gone, gone, if_neg h1]) (by omega)
  · simp [k] at hm
    have ha : rc (act c d) a = rc c a := by simp [act, k, rc]
    rw [ha]
    exact .inl ⟨rfl, rfl, fun h => rc_over c a hm h.2.2.2⟩

theorem turn (st : St) (d : Dd) (id : ByteArray) (a : Int) :
    Turn (rcOf st id a).1 (rcOf st id a).2 (rcOf (stepS st d) id a).1 (rcOf (stepS st d) id a).2 (stepE st d) (d.id = id) d.kind d.who a := by
  unfold stepS stepE
  by_cases hb : d.kind < 1 ∨ 9 < d.kind ∨ d.id.size < 1 ∨ 32 < d.id.size
  · rw [if_pos hb, if_pos hb]
    exact .inl ⟨rfl, rfl, by omega⟩
  rw [if_neg hb, if_neg hb]
  by_cases hk : d.kind = 1
  · rw [if_pos hk, if_pos hk]
    by_cases hbad : (findM st d.id).isSome ∨ d.count < 1 ∨ 200 < d.count
    · rw [if_pos hbad, if_pos hbad]
      exact .inl ⟨rfl, rfl, by omega⟩
    · rw [if_neg hbad, if_neg hbad]
      have hno : findM st d.id = none := by
        cases hf : findM st d.id with
        | none => rfl
        | some c => exact (hbad (.inl (by rw [hf]; rfl))).elim
      rw [rcOf_eq, rcOf_eq, findM_add _ _ _ _ hno]
      by_cases hid : id = d.id
      · rw [if_pos hid, hid, hno]
        simp only [rc, List.length_replicate]
        by_cases h : 0 ≤ a ∧ a < (d.count.toNat : Int)
        · rw [if_pos h]
          have : a.toNat < d.count.toNat := by omega
          exact .inr (.inl ⟨by simp, by simp [List.getD_eq_getElem?_getD, this], by simp [List.getD_eq_getElem?_getD, this], by simp, by simp, hk⟩)
        · rw [if_neg h]
          exact .inl ⟨rfl, rfl, by omega⟩
      · rw [if_neg hid]
        exact .inl ⟨rfl, rfl, by omega⟩
  · rw [if_neg hk, if_neg hk]
    cases hf : findM st d.id with
    | none => exact .inl ⟨rfl, rfl, fun h => by have h1 := h.1; simp at h1⟩
    | some c =>
      simp only
      cases hm : may c d with
      | false => simp only [Bool.false_eq_true, if_false]; exact .inl ⟨rfl, rfl, by omega⟩
      | true =>
        simp only [if_true]
        rw [rcOf_eq, rcOf_eq, findM_set]
        by_cases hid : id = d.id
        · rw [if_pos hid, hid, hf]
          simp only [Option.map_some]
          have := act_turn c d a hm (by omega) (by omega)
          unfold Turn at this ⊢
          simpa using this
        · rw [if_neg hid]
          exact .inl ⟨rfl, rfl, fun h => hid h.2.1.symm⟩

end Go.Proofs.Ythkimmabaojaaaa.Cl
