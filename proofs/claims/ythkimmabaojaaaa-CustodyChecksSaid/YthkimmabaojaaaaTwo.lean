/- Two machines side by side; deeds of two messages, exchanged. -/
import Derived.Test.YthkimmabaojaaaaDeeds
namespace Go.Proofs.Ythkimmabaojaaaa.Ca
open Go.RowKit Go.Proofs.Ythkimmabaojaaaa.Cu Go.Proofs.Ythkimmabaojaaaa.Cm Go.Proofs.Ythkimmabaojaaaa.Cl

/-- What a deed makes of its message. -/
def newOf (o : Option Care) (d : Dd) : Option Care :=
  if d.kind < 1 ∨ 9 < d.kind ∨ d.id.size < 1 ∨ 32 < d.id.size then o
  else if d.kind = 1 then (if o.isSome ∨ d.count < 1 ∨ 200 < d.count then o else some ⟨List.replicate d.count.toNat (1, 0), false, false⟩)
  else match o with
    | none => none
    | some c => if may c d then some (act c d) else some c
def errOf (o : Option Care) (d : Dd) : Int :=
  if d.kind < 1 ∨ 9 < d.kind ∨ d.id.size < 1 ∨ 32 < d.id.size then 1
  else if d.kind = 1 then (if o.isSome ∨ d.count < 1 ∨ 200 < d.count then 250 else 0)
  else match o with
    | none => 250
    | some c => if may c d then 0 else 250

theorem stepE_eq (st : St) (d : Dd) : stepE st d = errOf (findM st d.id) d := rfl

theorem find_step (st : St) (d : Dd) (id : ByteArray) : findM (stepS st d) id = if id = d.id then newOf (findM st d.id) d else findM st id := by
  unfold stepS newOf
  by_cases hb : d.kind < 1 ∨ 9 < d.kind ∨ d.id.size < 1 ∨ 32 < d.id.size
  · rw [if_pos hb, if_pos hb]
    split
    · rename_i h; rw [h]
    · rfl
  rw [if_neg hb, if_neg hb]
  by_cases hk : d.kind = 1
  · rw [if_pos hk, if_pos hk]
    by_cases hbad : (findM st d.id).isSome ∨ d.count < 1 ∨ 200 < d.count
    · rw [if_pos hbad, if_pos hbad]
      split
      · rename_i h; rw [h]
      · rfl
    · rw [if_neg hbad, if_neg hbad]
      have hno : findM st d.id = none := by
        cases hf : findM st d.id with
        | none => rfl
        | some c => exact (hbad (.inl (by rw [hf]; rfl))).elim
      rw [findM_add _ _ _ _ hno]
  · rw [if_neg hk, if_neg hk]
    cases hf : findM st d.id with
    | none =>
      simp only
      split
      · rename_i h; rw [h]; exact hf
      · rfl
    | some c =>
      simp only
      cases hm : may c d with
      | false =>
        simp only [Bool.false_eq_true, if_false]
        split
        · rename_i h; rw [h]; exact hf
        · rfl
      | true =>
        simp only [if_true]
        rw [findM_set, hf]
        rfl

theorem apart_find (st : St) (a b : Dd) (hab : a.id ≠ b.id) (id : ByteArray) : findM (stepS (stepS st a) b) id = findM (stepS (stepS st b) a) id := by
  simp only [find_step]
  by_cases h1 : id = b.id
  · have h2 : ¬ id = a.id := fun e => hab (e.symm.trans h1)
    have h3 : ¬ b.id = a.id := fun e => hab e.symm
    simp [h1, h3]
  · simp only [h1, if_false]
    by_cases h2 : id = a.id
    · simp [h2, hab]
    · simp [h2]

theorem apart_e (st : St) (a b : Dd) (hab : a.id ≠ b.id) : stepE (stepS st b) a = stepE st a := by
  rw [stepE_eq, stepE_eq, find_step, if_neg hab]

theorem apart_rc (st : St) (a b : Dd) (hab : a.id ≠ b.id) (id : ByteArray) (i : Int) : rcOf (stepS (stepS st b) a) id i = rcOf (stepS (stepS st a) b) id i := by
  rw [rcOf_eq, rcOf_eq, apart_find st a b hab]
theorem apart_held (st : St) (a b : Dd) (hab : a.id ≠ b.id) (id : ByteArray) : heldOf (stepS (stepS st b) a) id = heldOf (stepS (stepS st a) b) id := by
  unfold heldOf
  rw [apart_find st a b hab]

/-- Two machines whose memory is apart, from B on. -/
def Two (w : World) (mb nb : Nat) (st st' : St) (T B : Nat) : Prop :=
  ∃ F G : Nat → Prop, MachS w mb st T F ∧ MachS w nb st' T G ∧ (∀ k, F k → ¬ G k) ∧ (∀ k, F k ∨ G k → B ≤ k ∧ k < w.heap.size)

theorem Two.symm {w : World} {mb nb T B : Nat} {st st' : St} (h : Two w mb nb st st' T B) : Two w nb mb st' st T B := by
  obtain ⟨F, G, h1, h2, h3, h4⟩ := h
  exact ⟨G, F, h2, h1, fun k hg hf => h3 k hf hg, fun k hk => h4 k hk.symm⟩

theorem machLt {w : World} {mb T : Nat} {st : St} {F : Nat → Prop} (h : MachS w mb st T F) : MachS w mb st T (fun k => F k ∧ k < w.heap.size) := by
  obtain ⟨pb, es, hM, ha, hF⟩ := h
  have lt : ∀ {b : Nat} {o : Obj}, w.heap[b]? = some o → b < w.heap.size := fun h => (Array.getElem?_eq_some_iff.1 h).1
  refine ⟨pb, es, hM, ha, fun k hk => ⟨hF k hk, ?_⟩⟩
  rcases hk with rfl | rfl | ⟨e, he, rfl | rfl⟩
  · exact lt hM.mach
  · exact hM.map.lt
  · exact lt (hM.cares e he).care
  · exact lt (hM.cares e he).list

theorem Two.grow {w w' : World} {mb nb T B : Nat} {st st' : St} (h : Two w mb nb st st' T B) (hx : Ext (fun _ => False) w w') : Two w' mb nb st st' T B := by
  obtain ⟨F, G, h1, h2, h3, h4⟩ := h
  exact ⟨F, G, h1.grow hx, h2.grow hx, h3, fun k hk => ⟨(h4 k hk).1, Nat.lt_of_lt_of_le (h4 k hk).2 hx.size⟩⟩

theorem deed_left (w : World) (mb nb T B : Nat) (st st' : St) (d : Dd) (hT : T + 1 ≤ 100000) (hB : B ≤ w.heap.size) (h : Two w mb nb st st' T B) :
    Calls Try.prog 11 #[.pointer (some ⟨mb, 0, none⟩), ddV d] w fun e w' => e = .returned (.int .i64 (stepE st d)) ∧ Two w' mb nb (stepS st d) st' (T + 1) B ∧ Below B w w' := by
  obtain ⟨F, G, h1, h2, h3, h4⟩ := h
  refine (deed_run mb T st F d w hT h1).mono ?_
  rintro e w' ⟨rfl, hM, hx⟩
  refine ⟨rfl, ⟨_, G, machLt hM, (h2.far hx fun k hk => h3 k hk).later (Nat.le_succ _) hT, ?_, ?_⟩, hx.below hB fun k hk => (h4 k (.inl hk)).1⟩
  · rintro k ⟨hk | hk, -⟩ hg
    · exact h3 k hk hg
    · have := (h4 k (.inr hg)).2; omega
  · rintro k (⟨hk | hk, hl⟩ | hk)
    · exact ⟨(h4 k (.inl hk)).1, hl⟩
    · exact ⟨Nat.le_trans hB hk, hl⟩
    · exact ⟨(h4 k (.inr hk)).1, Nat.lt_of_lt_of_le (h4 k (.inr hk)).2 hx.size⟩

theorem deed_right (w : World) (mb nb T B : Nat) (st st' : St) (d : Dd) (hT : T + 1 ≤ 100000) (hB : B ≤ w.heap.size) (h : Two w mb nb st st' T B) :
    Calls Try.prog 11 #[.pointer (some ⟨nb, 0, none⟩), ddV d] w fun e w' => e = .returned (.int .i64 (stepE st' d)) ∧ Two w' mb nb st (stepS st' d) (T + 1) B ∧ Below B w w' :=
  (deed_left w nb mb T B st' st d hT hB h.symm).mono fun _ _ ⟨he, ht, hb⟩ => ⟨he, ht.symm, hb⟩
end Go.Proofs.Ythkimmabaojaaaa.Ca
