/- The machine as a whole: what a deed does to it; the readers. -/
import Derived.Test.YthkimmabaojaaaaAcc
namespace Go.Proofs.Ythkimmabaojaaaa.Cm
open Go.RowKit Go.Proofs.Ythkimmabaojaaaa.Cu

/-- The messages, in the order in which they came. -/
abbrev St := List (ByteArray × Care)
def findM (st : St) (id : ByteArray) : Option Care := (st.find? fun x => decide (x.1 = id)).map (·.2)
def setM (st : St) (id : ByteArray) (c : Care) : St := st.map fun x => if x.1 = id then (x.1, c) else x
def stepE (st : St) (d : Dd) : Int :=
  if d.kind < 1 ∨ 9 < d.kind ∨ d.id.size < 1 ∨ 32 < d.id.size then 1
  else if d.kind = 1 then (if (findM st d.id).isSome ∨ d.count < 1 ∨ 200 < d.count then 250 else 0)
  else match findM st d.id with
    | none => 250
    | some c => if may c d then 0 else 250
def stepS (st : St) (d : Dd) : St :=
  if d.kind < 1 ∨ 9 < d.kind ∨ d.id.size < 1 ∨ 32 < d.id.size then st
  else if d.kind = 1 then (if (findM st d.id).isSome ∨ d.count < 1 ∨ 200 < d.count then st else st ++ [(d.id, ⟨List.replicate d.count.toNat (1, 0), false, false⟩)])
  else match findM st d.id with
    | none => st
    | some c => if may c d then setM st d.id (act c d) else st

def abs (es : List Ent) : St := es.map fun e => (e.id, e.c)

theorem findM_abs (es : List Ent) (id : ByteArray) : findM (abs es) id = (findE es id).map (·.c) := by
  unfold findM findE abs
  induction es with
  | nil => rfl
  | cons e es ih =>
    simp only [List.map_cons, List.find?_cons]
    by_cases h : e.id = id
    · simp [h]
    · simp only [h, decide_false]; exact ih

/-- Some machine at mb stands as st; its blocks are within F. -/
def MachS (w : World) (mb : Nat) (st : St) (T : Nat) (F : Nat → Prop) : Prop := ∃ pb es, Mach w mb pb es T ∧ abs es = st ∧ ∀ k, foot mb pb es k → F k

theorem Pairwise.two {α : Type} {R : α → α → Prop} (l : List α) (hR : ∀ a b, R a b → R b a) (h : l.Pairwise R) (a b : α) (ha : a ∈ l) (hb : b ∈ l) (hne : a ≠ b) : R a b := by
  induction l with
  | nil => cases ha
  | cons x l ih =>
    rw [List.pairwise_cons] at h
    rcases List.mem_cons.1 ha with e1 | h1 <;> rcases List.mem_cons.1 hb with e2 | h2
    · exact (hne (e1.trans e2.symm)).elim
    · subst e1; exact h.1 b h2
    · subst e2; exact hR _ _ (h.1 a h1)
    · exact ih h.2 h1 h2

def updE (es : List Ent) (id : ByteArray) (c : Care) : List Ent := es.map fun x => if x.id = id then { x with c := c } else x

theorem abs_upd (es : List Ent) (id : ByteArray) (c : Care) : abs (updE es id c) = setM (abs es) id c := by
  unfold abs updE setM
  simp only [List.map_map]
  apply List.map_congr_left
  intro x _
  simp only [Function.comp]
  split <;> rfl

theorem foot_upd (mb pb : Nat) (es : List Ent) (id : ByteArray) (c : Care) (k : Nat) (h : foot mb pb (updE es id c) k) : foot mb pb es k := by
  rcases h with h | h | ⟨e, he, h⟩
  · exact .inl h
  · exact .inr (.inl h)
  · simp only [updE, List.mem_map] at he
    obtain ⟨x, hx, rfl⟩ := he
    refine .inr (.inr ⟨x, hx, ?_⟩)
    split at h <;> exact h

theorem Mach.upd {w w' : World} {mb pb T T' : Nat} {es : List Ent} {e : Ent} {c : Care} (h : Mach w mb pb es T) (he : e ∈ es) (hT : T ≤ T') (hT' : T' ≤ 100000)
    (hc : CareAt w' e.cb e.lb c T') (hx : Ext (fun k => k = e.cb ∨ k = e.lb) w w') : Mach w' mb pb (updE es e.id c) T' := by
  have ha := h.apart e he
  have lt : ∀ {b : Nat} {o : Obj}, w.heap[b]? = some o → b < w.heap.size := fun h => (Array.getElem?_eq_some_iff.1 h).1
  have hsym : ∀ a b : Ent, (a.id ≠ b.id ∧ a.cb ≠ b.cb ∧ a.cb ≠ b.lb ∧ a.lb ≠ b.cb ∧ a.lb ≠ b.lb) → (b.id ≠ a.id ∧ b.cb ≠ a.cb ∧ b.cb ≠ a.lb ∧ b.lb ≠ a.cb ∧ b.lb ≠ a.lb) :=
    fun a b ⟨h1, h2, h3, h4, h5⟩ => ⟨h1.symm, h2.symm, h4.symm, h3.symm, h5.symm⟩
  refine ⟨?_, ?_, ?_, h.ne, ?_, ?_⟩
  · exact (hx.block mb (lt h.mach) (by rintro (f | f) <;> omega)).trans h.mach
  · have e1 : (updE es e.id c).map ptrOf = es.map ptrOf := by
      simp only [updE, List.map_map]
      apply List.map_congr_left
      intro x _
      simp only [Function.comp, ptrOf]
      split <;> rfl
    rw [e1]
    exact h.map.ext hx (by rintro (f | f) <;> omega)
  · intro x hxm
    simp only [updE, List.mem_map] at hxm
    obtain ⟨y, hy, rfl⟩ := hxm
    by_cases hid : y.id = e.id
    · have hye : y = e := Classical.byContradiction fun hne => (Pairwise.two es hsym h.sep y e hy he hne).1 hid
      subst hye
      rw [if_pos rfl]
      exact hc
    · rw [if_neg hid]
      have hne : y ≠ e := fun f => hid (by rw [f])
      have hs := Pairwise.two es hsym h.sep y e hy he hne
      refine ((h.cares y hy).ext hx ?_ ?_).mono hT hT'
      · rintro (f | f)
        · exact hs.2.1 f
        · exact hs.2.2.1 f
      · rintro (f | f)
        · exact hs.2.2.2.1 f
        · exact hs.2.2.2.2 f
  · intro x hxm
    simp only [updE, List.mem_map] at hxm
    obtain ⟨y, hy, rfl⟩ := hxm
    have := h.apart y hy
    split <;> exact this
  · rw [updE, List.pairwise_map]
    refine h.sep.imp fun {a b} hab => ?_
    split <;> split <;> exact hab

/-- What a deed does. -/
theorem deed_run (mb T : Nat) (st : St) (F : Nat → Prop) (d : Dd) (w : World) (hT : T + 1 ≤ 100000) (h : MachS w mb st T F) :
    Calls Try.prog 11 #[.pointer (some ⟨mb, 0, none⟩), ddV d] w fun e w' => e = .returned (.int .i64 (stepE st d)) ∧ MachS w' mb (stepS st d) (T + 1) (fun k => F k ∨ w.heap.size ≤ k) ∧ Ext F w w' := by
  obtain ⟨pb, es, hM, rfl, hF⟩ := h
  have hkeep : ∀ w', Ext (fun _ => False) w w' → MachS w' mb (abs es) (T + 1) (fun k => F k ∨ w.heap.size ≤ k) ∧ Ext F w w' := fun w' hx => by
    have := hM.grow hx
    exact ⟨⟨pb, es, ⟨this.mach, this.map, fun e he => (this.cares e he).mono (Nat.le_succ _) hT, this.ne, this.apart, this.sep⟩, rfl, fun k hk => .inl (hF k hk)⟩, hx.mono fun _ f => f.elim⟩
  by_cases hb : d.kind < 1 ∨ 9 < d.kind ∨ d.id.size < 1 ∨ 32 < d.id.size
  · rw [stepE, stepS, if_pos hb, if_pos hb]
    refine (do_bad mb d w hb).mono ?_
    rintro e w' ⟨rfl, hx⟩
    exact ⟨rfl, hkeep w' hx⟩
  rw [stepE, stepS, if_neg hb, if_neg hb]
  by_cases hk : d.kind = 1
  · rw [if_pos hk, if_pos hk]
    by_cases hbad : (findM (abs es) d.id).isSome ∨ d.count < 1 ∨ 200 < d.count
    · rw [if_pos hbad, if_pos hbad]
      refine (do_acc_bad mb pb T es d w hM hk (by omega) (by omega) ?_).mono ?_
      · rcases hbad with f | f | f
        · left
          rw [findM_abs] at f
          intro e
          rw [e] at f; cases f
        · exact .inr (.inl f)
        · exact .inr (.inr f)
      · rintro e w' ⟨rfl, hx⟩
        exact ⟨rfl, hkeep w' hx⟩
    · rw [if_neg hbad, if_neg hbad]
      have hno : findE es d.id = none := by
        cases hf : findE es d.id with
        | none => rfl
        | some e => exact (hbad (.inl (by rw [findM_abs, hf]; rfl))).elim
      have hc : d.count = (d.count.toNat : Nat) := by omega
      refine (do_acc mb pb T d.count.toNat es d w (by omega) hM hk (by omega) (by omega) hno hc (by omega) (by omega)).mono ?_
      rintro e w' ⟨cb, lb, rfl, hM', h1, h2, hx⟩
      refine ⟨rfl, ⟨pb, _, ⟨hM'.mach, hM'.map, fun e he => (hM'.cares e he).mono (Nat.le_succ _) hT, hM'.ne, hM'.apart, hM'.sep⟩, by simp [abs], ?_⟩, hx.mono hF⟩
      intro k hk
      rcases hk with hk | hk | ⟨e, he, hk⟩
      · exact .inl (hF k (.inl hk))
      · exact .inl (hF k (.inr (.inl hk)))
      · rcases List.mem_append.1 he with he | he
        · exact .inl (hF k (.inr (.inr ⟨e, he, hk⟩)))
        · simp only [List.mem_singleton] at he
          subst he
          rcases hk with rfl | rfl
          · exact .inr h1
          · exact .inr h2
  · rw [if_neg hk, if_neg hk, findM_abs]
    cases hf : findE es d.id with
    | none =>
      refine (do_none mb pb T es d w hM (by omega) (by omega) (by omega) (by omega) hf).mono ?_
      rintro e w' ⟨rfl, hx⟩
      exact ⟨rfl, hkeep w' hx⟩
    | some e =>
      have hfe := findE_mem hf
      cases hm : may e.c d with
      | false =>
        refine (do_no mb pb T es d w hM (by omega) (by omega) (by omega) (by omega) e hf hm).mono ?_
        rintro e' w' ⟨rfl, hx⟩
        simp only [Option.map_some, hm, Bool.false_eq_true, if_false]
        exact ⟨trivial, hkeep w' hx⟩
      | true =>
        refine (do_yes mb pb T es d w hM hT (by omega) (by omega) (by omega) (by omega) e hf hm).mono ?_
        rintro e' w' ⟨rfl, hc, hx⟩
        simp only [Option.map_some, hm, if_true]
        refine ⟨trivial, ⟨pb, updE es d.id (act e.c d), ?_, abs_upd es _ _, fun k hk => .inl (hF k (foot_upd mb pb es _ _ k hk))⟩, hx.mono fun k hk => hF k (.inr (.inr ⟨e, hfe.1, hk⟩))⟩
        rw [← hfe.2]
        exact hM.upd hfe.1 (Nat.le_succ _) hT hc hx
end Go.Proofs.Ythkimmabaojaaaa.Cm
