/- What stands of every manager, in plain terms: ids and names differ, what is in a job flies, no two jobs share. -/
import Derived.Test.YtnakafmlenngnaaQfw
import Derived.Test.YtnakafmlenngnaaQds
namespace Go.Proofs.Ytnakafmlenngnaa.Qm
open Go.Proofs.Ytnakafmlenngnaa.Wi

/-- How a recipient stands. -/
def stAt (rs : List Rc) (r : Nat) : Option Nat := (rs[r]?).map (·.st)

theorem hasIn_of {l : List Nat} {rs : List Rc} {r s : Nat} (h : stAt rs r = some s) (hs : s ∈ l) : hasIn l rs = true := by
  unfold stAt at h
  rw [Option.map_eq_some_iff] at h
  obtain ⟨c, h1, rfl⟩ := h
  exact List.any_eq_true.2 ⟨c, List.mem_of_getElem? h1, decide_eq_true hs⟩
theorem hasIn_not {l : List Nat} {rs : List Rc} {r s : Nat} (h : hasIn l rs = false) (h1 : stAt rs r = some s) : s ∉ l := fun hs => by
  rw [hasIn_of h1 hs] at h; cases h

theorem mem_ends {lm : Lm} {now : Int} {ms : List Ml} {m : Ml} (h : m ∈ ms) (h2 : hasIn [1, 2] m.rs = true) : m ∈ endsM lm now ms := by
  unfold endsM
  rw [List.mem_map]
  refine ⟨m, List.mem_filter.2 ⟨h, by simp [gone, h2]⟩, by simp [wait, h2]⟩
theorem has12 {rs : List Rc} {r : Nat} (h : stAt rs r = some 2) : hasIn [1, 2] rs = true := hasIn_of h (by simp)

theorem wait_id (lm : Lm) (now : Int) (m : Ml) : (wait lm now m).id = m.id := by
  unfold wait
  split
  · rfl
  · split <;> rfl
theorem wait_rs (lm : Lm) (now : Int) (m : Ml) : (wait lm now m).rs = m.rs := by
  unfold wait
  split
  · rfl
  · split <;> rfl
theorem wait_waits {lm : Lm} {now : Int} {m : Ml} (h : (wait lm now m).waits = false) : m.waits = false := by
  unfold wait at h
  split at h
  · exact h
  · rename_i h1
    cases hw : m.waits with
    | false => rfl
    | true => rw [hw] at h1; exact absurd rfl h1
theorem ids_ends (lm : Lm) (now : Int) (ms : List Ml) : ((endsM lm now ms).map (·.id)).Sublist (ms.map (·.id)) := by
  unfold endsM
  rw [List.map_map]
  have : ((fun m => m.id) ∘ wait lm now) = (fun m : Ml => m.id) := by
    funext m; exact wait_id lm now m
  rw [this]
  exact List.filter_sublist.map _
theorem hand_sub {l : List Ml} {f : Ml → Ml} (hf : ∀ m, (f m).waits = false → m.waits = false) : inHand (l.map f) ≤ inHand l := by
  unfold inHand
  induction l with
  | nil => exact Nat.le_refl _
  | cons m l ih =>
    rw [List.map_cons, List.filter_cons, List.filter_cons]
    cases h1 : (f m).waits with
    | true =>
      cases h2 : m.waits with
      | true => simpa [h2] using ih
      | false => simp at ih ⊢; omega
    | false =>
      rw [hf m h1]
      simp at ih ⊢; omega
theorem hand_ends (lm : Lm) (now : Int) (ms : List Ml) : inHand (endsM lm now ms) ≤ inHand ms := by
  refine Nat.le_trans (hand_sub fun m h => wait_waits h) ?_
  unfold inHand
  exact ((List.filter_sublist (l := ms)).filter _).length_le
theorem hand_append (a b : List Ml) : inHand (a ++ b) = inHand a + inHand b := by simp [inHand]
theorem hand_same {a b : List Ml} (h : a.map (·.waits) = b.map (·.waits)) : inHand a = inHand b := by
  have e : ∀ l : List Ml, inHand l = ((l.map (·.waits)).filter fun b => !b).length := by
    intro l
    unfold inHand
    rw [List.filter_map, List.length_map]
    rfl
  rw [e, e, h]

theorem map_set_self {α β : Type} (f : α → β) (l : List α) (i : Nat) (x : α) (h : ∀ y, l[i]? = some y → f x = f y) : (l.set i x).map f = l.map f := by
  refine List.ext_getElem? fun k => ?_
  rw [List.map_set, List.getElem?_set]
  split
  · rename_i e
    subst e
    split
    · rename_i hl
      simp only [List.length_map] at hl
      rw [List.getElem?_map, List.getElem?_eq_getElem hl, h _ (List.getElem?_eq_getElem hl)]
      rfl
    · rename_i hl
      rw [List.getElem?_eq_none (by omega)]
  · rfl

/-- A job's recipients fly. -/
def flies (ms : List Ml) (j : Jb) : Prop := ∃ m ∈ ms, m.id = j.id ∧ ∀ r ∈ j.rs, stAt m.rs r = some 2

theorem flies.ends {ms : List Ml} {j : Jb} (h : flies ms j) (hj : j.rs ≠ []) (lm : Lm) (now : Int) : flies (endsM lm now ms) j := by
  obtain ⟨m, h1, h2, h3⟩ := h
  obtain ⟨r, l, e⟩ := List.exists_cons_of_ne_nil hj
  exact ⟨m, mem_ends h1 (has12 (h3 r (by rw [e]; simp))), h2, h3⟩
theorem flies.app {ms : List Ml} {j : Jb} (h : flies ms j) (l : List Ml) : flies (ms ++ l) j := by
  obtain ⟨m, h1, h2, h3⟩ := h
  exact ⟨m, List.mem_append_left _ h1, h2, h3⟩
theorem flies.map {ms : List Ml} {j : Jb} (h : flies ms j) {f : Ml → Ml} (hi : ∀ m, (f m).id = m.id) (hf : ∀ m r, stAt m.rs r = some 2 → stAt (f m).rs r = some 2) : flies (ms.map f) j := by
  obtain ⟨m, h1, h2, h3⟩ := h
  exact ⟨f m, List.mem_map_of_mem h1, (hi m).trans h2, fun r hr => hf m r (h3 r hr)⟩
theorem flies.set {ms : List Ml} {j : Jb} (h : flies ms j) (i : Nat) (hi : i < ms.length) (m' : Ml) (he : m'.id = ms[i].id) (hf : ms[i].id = j.id → ∀ r ∈ j.rs, stAt ms[i].rs r = some 2 → stAt m'.rs r = some 2) : flies (ms.set i m') j := by
  obtain ⟨m, h1, h2, h3⟩ := h
  obtain ⟨k, hk, e⟩ := List.getElem_of_mem h1
  by_cases hki : i = k
  · subst hki
    subst e
    refine ⟨m', List.mem_iff_getElem.2 ⟨i, by simpa using hi, by simp⟩, he.trans h2, fun r hr => hf h2 r hr (h3 r hr)⟩
  · exact ⟨m, List.mem_iff_getElem.2 ⟨k, by simpa using hk, by rw [List.getElem_set_ne hki]; exact e⟩, h2, h3⟩

theorem rl_ends {lm : Lm} {now : Int} {ms : List Ml} (h : ∀ m ∈ ms, m.rs.length ≤ 200) : ∀ m ∈ endsM lm now ms, m.rs.length ≤ 200 := by
  intro m hm
  unfold endsM at hm
  obtain ⟨m', h1, rfl⟩ := List.mem_map.1 hm
  rw [wait_rs]
  exact h m' (List.mem_filter.1 h1).1
theorem rl_set {ms : List Ml} (h : ∀ m ∈ ms, m.rs.length ≤ 200) (i : Nat) (m' : Ml) (hm : m'.rs.length ≤ 200) : ∀ m ∈ ms.set i m', m.rs.length ≤ 200 := by
  intro m hx
  rcases List.mem_or_eq_of_mem_set hx with f | f
  · exact h m f
  · rw [f]; exact hm
theorem addFold_rs (lm : Lm) (now : Int) (D : List ByteArray) (x : List Ds × List Rc) : (D.foldl (addTo lm now) x).2.length = x.2.length + D.length := by
  induction D generalizing x with
  | nil => rfl
  | cons d D ih =>
    rw [List.foldl_cons, ih]
    unfold addTo
    split <;> simp <;> omega

structure Inv (q : Qs) : Prop where
  ids : (q.ms.map (·.id)).Nodup
  names : (q.ds.map (·.name)).Nodup
  hand : (inHand q.ms : Int) ≤ q.lm.active
  some_ : ∀ j ∈ q.jobs, j.rs ≠ []
  fly : ∀ j ∈ q.jobs, flies q.ms j
  apart : q.jobs.Pairwise fun a b => a.id = b.id → ∀ r ∈ a.rs, r ∉ b.rs
  rl : ∀ m ∈ q.ms, m.rs.length ≤ 200

theorem mIdx_get {ms : List Ml} {id : ByteArray} {m : Ml} (h : ms[mIdx ms id]? = some m) : m.id = id := by
  obtain ⟨hl, e⟩ := List.getElem?_eq_some_iff.1 h
  have := List.findIdx_getElem (p := fun m : Ml => decide (m.id = id)) (w := hl)
  simp only [decide_eq_true_eq] at this
  rw [← e]; exact this
theorem mIdx_mem {ms : List Ml} {id : ByteArray} {m : Ml} (h : m ∈ ms) (e : m.id = id) : mIdx ms id < ms.length :=
  List.findIdx_lt_length_of_exists ⟨m, h, by simp [e]⟩
theorem id_one {ms : List Ml} (h : (ms.map (·.id)).Nodup) {a b : Ml} (ha : a ∈ ms) (hb : b ∈ ms) (e : a.id = b.id) : a = b := by
  obtain ⟨i, hi, rfl⟩ := List.getElem_of_mem ha
  obtain ⟨k, hk, rfl⟩ := List.getElem_of_mem hb
  rw [List.nodup_iff_pairwise_ne, List.pairwise_iff_getElem] at h
  rcases Nat.lt_trichotomy i k with f | f | f
  · exact absurd (by rw [List.getElem_map, List.getElem_map]; exact e) (h i k (by simpa using hi) (by simpa using hk) f)
  · subst f; rfl
  · exact absurd (by rw [List.getElem_map, List.getElem_map]; exact e.symm) (h k i (by simpa using hk) (by simpa using hi) f)
theorem flies.of {ms : List Ml} {j : Jb} (h : flies ms j) (hn : (ms.map (·.id)).Nodup) {m : Ml} (hm : m ∈ ms) (e : m.id = j.id) : ∀ r ∈ j.rs, stAt m.rs r = some 2 := by
  obtain ⟨m', h1, h2, h3⟩ := h
  rw [id_one hn hm h1 (e.trans h2.symm)]
  exact h3

theorem stAt_lt {rs : List Rc} {r s : Nat} (h : stAt rs r = some s) : r < rs.length := by
  unfold stAt at h
  rw [Option.map_eq_some_iff] at h
  obtain ⟨c, h1, -⟩ := h
  exact (List.getElem?_eq_some_iff.1 h1).1

theorem jIdx_get {l : List Jb} {j : Jb} (h : jIdx l j < l.length) : l[jIdx l j] = j := by
  have := List.findIdx_getElem (p := fun x : Jb => decide (x.id = j.id) && decide (x.dest = j.dest) && decide (x.rs = j.rs)) (w := h)
  simp only [Bool.and_eq_true, decide_eq_true_eq] at this
  obtain ⟨⟨a, b⟩, c⟩ := this
  show l[jIdx l j] = j
  cases hx : l[jIdx l j] with
  | mk x y z =>
    change (l[jIdx l j]).id = _ at a
    change (l[jIdx l j]).dest = _ at b
    change (l[jIdx l j]).rs = _ at c
    rw [hx] at a b c
    cases j
    simp_all

theorem Inv.fits {q : Qs} (h : Inv q) (j : Jb) (m : Ml) (hm : q.ms[mIdx q.ms j.id]? = some m) (hj : jIdx q.jobs j < q.jobs.length) : ∀ r ∈ j.rs, stAt m.rs r = some 2 := by
  have hmem : j ∈ q.jobs := by
    have := List.getElem_mem hj
    rwa [jIdx_get hj] at this
  exact (h.fly j hmem).of h.ids (List.mem_of_getElem? hm) (mIdx_get hm)

/-! ### Destinations -/
theorem mkD_names (lm : Lm) (ds : List Ds) (n : ByteArray) (h : (ds.map (·.name)).Nodup) : ((mkD lm ds n).map (·.name)).Nodup := by
  unfold mkD
  split
  · exact h
  · rename_i hl
    rw [List.map_append, List.nodup_append]
    refine ⟨h, by simp, ?_⟩
    intro x hx y hy e
    simp only [List.map_cons, List.map_nil, List.mem_singleton] at hy
    obtain ⟨d, hd, rfl⟩ := List.mem_map.1 hx
    exact hl (List.findIdx_lt_length_of_exists ⟨d, hd, by simpa using e.trans hy⟩)
theorem mkD_idx (lm : Lm) (ds : List Ds) (n : ByteArray) : ∃ d, (mkD lm ds n)[dIdx ds n]? = some d ∧ d.name = n := by
  unfold mkD
  split
  · rename_i h
    refine ⟨ds[dIdx ds n], List.getElem?_eq_getElem h, ?_⟩
    have := List.findIdx_getElem (p := fun d : Ds => decide (d.name = n)) (w := h)
    exact of_decide_eq_true this
  · rename_i h
    have : dIdx ds n = ds.length := by
      have := List.findIdx_le_length (p := fun d : Ds => decide (d.name = n)) (xs := ds)
      change dIdx ds n ≤ _ at this
      omega
    rw [this]
    exact ⟨⟨n, lm.ini, 0, 0, 0⟩, by simp, rfl⟩
theorem queueD_names (lm : Lm) (ds : List Ds) (n : ByteArray) (now : Int) (h : (ds.map (·.name)).Nodup) : ((queueD lm ds n now).1.map (·.name)).Nodup := by
  have hk := mkD_names lm ds n h
  unfold queueD
  split
  · exact hk
  · rename_i d hd
    split
    · exact hk
    · show (((mkD lm ds n).set (dIdx ds n) (revD lm d)).map (·.name)).Nodup
      rw [map_set_self (fun d : Ds => d.name) _ _ _ fun y hy => by rw [hd] at hy; injection hy with hy; subst hy; rfl]
      exact hk
theorem queueD_st (lm : Lm) (ds : List Ds) (n : ByteArray) (now : Int) : (queueD lm ds n now).2 = 1 ∨ (queueD lm ds n now).2 = 3 := by
  obtain ⟨d, hd, -⟩ := mkD_idx lm ds n
  unfold queueD
  rw [hd]
  dsimp only
  split
  · exact .inr rfl
  · exact .inl rfl

/-! ### Add -/
theorem addFold_names (lm : Lm) (now : Int) (D : List ByteArray) (x : List Ds × List Rc) (h : (x.1.map (·.name)).Nodup) : ((D.foldl (addTo lm now) x).1.map (·.name)).Nodup := by
  induction D generalizing x with
  | nil => exact h
  | cons d D ih =>
    rw [List.foldl_cons]
    refine ih _ ?_
    unfold addTo
    split
    · exact h
    · exact queueD_names _ _ _ _ h
theorem Inv.add {q : Qs} (h : Inv q) (id : ByteArray) (came : Int) (D : List ByteArray) (now : Int) : Inv (Qm.add q id came D now).2 := by
  unfold Qm.add
  split
  · exact h
  split
  · exact h
  split
  · exact h
  · rename_i h1 h2 h3
    refine ⟨?_, addFold_names _ _ _ _ h.names, ?_, h.some_, ?_, h.apart, rl_ends fun m hm => ?_⟩
    rotate_left 3
    · rcases List.mem_append.1 hm with f | f
      · exact h.rl m f
      · simp only [List.mem_singleton] at f
        subst f
        dsimp only
        rw [addFold_rs]
        have := (addOk_true (by simpa using h1)).2.2.2.2.1
        simp only [List.length_nil]
        omega
    · refine List.Nodup.sublist (ids_ends _ _ _) ?_
      rw [List.map_append, List.nodup_append]
      refine ⟨h.ids, by simp, ?_⟩
      intro x hx y hy e
      simp only [List.map_cons, List.map_nil, List.mem_singleton] at hy
      obtain ⟨m, hm, rfl⟩ := List.mem_map.1 hx
      exact h2 (mIdx_mem hm (e.trans hy))
    · have := hand_ends q.lm now (q.ms ++ [⟨id, came, (D.foldl (addTo q.lm now) (q.ds, [])).2, false, 0⟩])
      rw [hand_append] at this
      have h4 : inHand [(⟨id, came, (D.foldl (addTo q.lm now) (q.ds, [])).2, false, 0⟩ : Ml)] = 1 := rfl
      rw [h4] at this
      unfold full at h3
      simp only [decide_eq_true_eq] at h3
      dsimp only
      omega
    · intro j hj
      exact ((h.fly j hj).app _).ends (h.some_ j hj) _ _

/-! ### Next -/
theorem takeTo_fold (n : ByteArray) (rs : List Rc) : ∀ (pre : List Rc) (x : List Rc × List Nat),
    (x.1.length = pre.length ∧ x.2.Pairwise (· < ·) ∧ (∀ r ∈ x.2, stAt pre r = some 1 ∧ stAt x.1 r = some 2) ∧ (∀ r, r ∉ x.2 → stAt x.1 r = stAt pre r) ∧ x.2.length ≤ 50 ∧ (pre.any (goes n) = true → x.2 ≠ [])) →
    ((rs.foldl (takeTo n) x).1.length = (pre ++ rs).length ∧ (rs.foldl (takeTo n) x).2.Pairwise (· < ·) ∧ (∀ r ∈ (rs.foldl (takeTo n) x).2, stAt (pre ++ rs) r = some 1 ∧ stAt (rs.foldl (takeTo n) x).1 r = some 2) ∧ (∀ r, r ∉ (rs.foldl (takeTo n) x).2 → stAt (rs.foldl (takeTo n) x).1 r = stAt (pre ++ rs) r) ∧ (rs.foldl (takeTo n) x).2.length ≤ 50 ∧ ((pre ++ rs).any (goes n) = true → (rs.foldl (takeTo n) x).2 ≠ [])) := by
  induction rs with
  | nil => intro pre x h; simpa using h
  | cons c rs ih =>
    intro pre x ⟨h1, h2, h3, h4, h5, h6⟩
    rw [List.foldl_cons, show pre ++ c :: rs = (pre ++ [c]) ++ rs by simp]
    have hst : ∀ (l : List Rc) (c' : Rc) r, r < l.length → stAt (l ++ [c']) r = stAt l r := fun l c' r hr => by simp [stAt, List.getElem?_append_left hr]
    have hst2 : ∀ (l : List Rc) (c' : Rc), stAt (l ++ [c']) l.length = some c'.st := fun l c' => by simp [stAt]
    refine ih (pre ++ [c]) _ ?_
    by_cases hg : (goes n c && decide (x.2.length < 50)) = true
    · have e : takeTo n x c = (x.1 ++ [{ c with st := 2 }], x.2 ++ [x.1.length]) := by unfold takeTo; rw [if_pos hg]
      rw [e]
      simp only [Bool.and_eq_true, decide_eq_true_eq] at hg
      have hc : c.st = 1 := by
        have := hg.1
        unfold goes at this
        simp only [Bool.and_eq_true, decide_eq_true_eq] at this
        exact this.1
      refine ⟨by simp [h1], ?_, ?_, ?_, by simp; omega, by simp⟩
      · rw [List.pairwise_append]
        refine ⟨h2, by simp, ?_⟩
        intro a ha b hb
        simp only [List.mem_singleton] at hb
        subst hb
        exact stAt_lt (h3 a ha).2
      · intro r hr
        rcases List.mem_append.1 hr with f | f
        · have := h3 r f
          exact ⟨by rw [hst _ _ _ (stAt_lt this.1)]; exact this.1, by dsimp only; rw [hst _ _ _ (stAt_lt this.2)]; exact this.2⟩
        · simp only [List.mem_singleton] at f
          subst f
          exact ⟨by rw [h1, hst2, hc], by dsimp only; rw [hst2]⟩
      · intro r hr
        simp only [List.mem_append, List.mem_singleton, not_or] at hr
        dsimp only
        rcases Nat.lt_or_ge r x.1.length with f | f
        · rw [hst _ _ _ f, hst _ _ _ (by omega)]
          exact h4 r hr.1
        · have := hr.2
          simp only [stAt]
          rw [List.getElem?_eq_none (by simp; omega), List.getElem?_eq_none (by simp; omega)]
    · have e : takeTo n x c = (x.1 ++ [c], x.2) := by unfold takeTo; rw [if_neg hg]
      rw [e]
      refine ⟨by simp [h1], h2, ?_, ?_, h5, ?_⟩
      · intro r hr
        have := h3 r hr
        exact ⟨by rw [hst _ _ _ (stAt_lt this.1)]; exact this.1, by dsimp only; rw [hst _ _ _ (stAt_lt this.2)]; exact this.2⟩
      · intro r hr
        dsimp only
        rcases Nat.lt_or_ge r x.1.length with f | f
        · rw [hst _ _ _ f, hst _ _ _ (by omega)]
          exact h4 r hr
        · rcases Nat.lt_or_ge x.1.length r with g | g
          · simp only [stAt]
            rw [List.getElem?_eq_none (by simp; omega), List.getElem?_eq_none (by simp; omega)]
          · obtain rfl : r = x.1.length := by omega
            rw [hst2]
            rw [h1, hst2]
      · intro ha hx
        have hx : x.2 = [] := hx
        rw [List.any_append, Bool.or_eq_true] at ha
        rcases ha with ha | ha
        · exact h6 ha hx
        · simp only [List.any_cons, List.any_nil, Bool.or_false] at ha
          rw [ha, hx] at hg
          simp at hg

theorem take_spec (n : ByteArray) (rs : List Rc) : (rs.foldl (takeTo n) ([], [])).1.length = rs.length ∧ (rs.foldl (takeTo n) ([], [])).2.Pairwise (· < ·) ∧ (∀ r ∈ (rs.foldl (takeTo n) ([], [])).2, stAt rs r = some 1 ∧ stAt (rs.foldl (takeTo n) ([], [])).1 r = some 2) ∧ (∀ r, r ∉ (rs.foldl (takeTo n) ([], [])).2 → stAt (rs.foldl (takeTo n) ([], [])).1 r = stAt rs r) ∧ (rs.foldl (takeTo n) ([], [])).2.length ≤ 50 ∧ (rs.any (goes n) = true → (rs.foldl (takeTo n) ([], [])).2 ≠ []) := by
  have := takeTo_fold n rs [] ([], []) ⟨rfl, by simp, by simp, by simp, by simp, by simp⟩
  simpa only [List.nil_append] using this

/-- What there is of a delivery that begins. -/
structure Begun (q : Qs) (j : Jb) (q' : Qs) : Prop where
  ex : ∃ i d a m, q.ds[i]? = some d ∧ d.f < d.s ∧ q.ms[a]? = some m ∧ serves d.name m = true ∧ q' = (begin_ q i d a m).2 ∧ j = (begin_ q i d a m).1

theorem next_begun {q q' : Qs} {j : Jb} (h : Qm.next q = some (j, q')) : Begun q j q' := by
  unfold Qm.next at h
  split at h
  · cases h
  · rename_i d hd
    split at h
    · rename_i hl
      split at h
      · cases h
      · rename_i m hm
        injection h with h
        have hh : hit q (turnsTo q) = true := by
          have h2 : (List.range q.ds.length).findIdx (hit q) < (List.range q.ds.length).length := by rw [List.length_range]; exact hl
          have := List.findIdx_getElem (p := hit q) (w := h2)
          simpa [turnsTo] using this
        unfold hit at hh
        rw [hd] at hh
        simp only [Bool.and_eq_true, decide_eq_true_eq] at hh
        obtain ⟨hs, e⟩ := List.getElem?_eq_some_iff.1 hm
        have hsv := List.findIdx_getElem (p := serves d.name) (w := hs)
        change serves d.name q.ms[sIdx q.ms d.name] = true at hsv
        rw [e] at hsv
        exact ⟨⟨_, d, _, m, hd, hh.2, hm, hsv, by rw [h], by rw [h]⟩⟩
    · cases h

theorem Inv.next {q q' : Qs} {j : Jb} (h : Inv q) (hn : Qm.next q = some (j, q')) : Inv q' ∧ q'.jobs = q.jobs ++ [j] ∧ j.rs ≠ [] ∧ j.rs.length ≤ 50 ∧ j.rs.Pairwise (· < ·) ∧ (∀ j' ∈ q.jobs, j'.id = j.id → ∀ r ∈ j'.rs, r ∉ j.rs) ∧ (∃ d, q'.ds[dIdx q'.ds j.dest]? = some d ∧ d.f ≤ d.s ∧ 1 ≤ d.f) := by
  obtain ⟨i, d, a, m, hd, hf, hm, hsv, rfl, rfl⟩ := (next_begun hn).ex
  obtain ⟨t1, t2, t3, t4, t5, t6⟩ := take_spec d.name m.rs
  obtain ⟨ha, em⟩ := List.getElem?_eq_some_iff.1 hm
  obtain ⟨hi, ed⟩ := List.getElem?_eq_some_iff.1 hd
  have hne : (m.rs.foldl (takeTo d.name) ([], [])).2 ≠ [] := t6 (by
    unfold serves at hsv
    simp only [Bool.and_eq_true] at hsv
    exact hsv.2)
  have hap : ∀ j' ∈ q.jobs, j'.id = m.id → ∀ r ∈ j'.rs, r ∉ (m.rs.foldl (takeTo d.name) ([], [])).2 := by
    intro j' hj' e r hr hr2
    have h1 := (h.fly j' hj').of h.ids (m := m) (by rw [← em]; exact List.getElem_mem ha) e.symm r hr
    rw [(t3 r hr2).1] at h1
    cases h1
  have hms : ((q.ms.set a { m with rs := (m.rs.foldl (takeTo d.name) ([], [])).1 }).map (·.id)) = q.ms.map (·.id) := map_set_self _ _ _ _ fun y hy => by rw [hm] at hy; injection hy with hy; subst hy; rfl
  have hds : ((q.ds.set i { d with f := d.f + 1 }).map (·.name)) = q.ds.map (·.name) := map_set_self _ _ _ _ fun y hy => by rw [hd] at hy; injection hy with hy; subst hy; rfl
  refine ⟨⟨?_, ?_, ?_, ?_, ?_, ?_, rl_set h.rl _ _ (by rw [t1]; exact h.rl m (by rw [← em]; exact List.getElem_mem ha))⟩, rfl, hne, t5, t2, hap, ?_⟩
  · show ((q.ms.set a _).map _).Nodup
    rw [hms]; exact h.ids
  · show ((q.ds.set i _).map _).Nodup
    rw [hds]; exact h.names
  · show (inHand (q.ms.set a _) : Int) ≤ _
    rw [hand_same (map_set_self (fun m : Ml => m.waits) _ _ _ fun y hy => by rw [hm] at hy; injection hy with hy; subst hy; rfl)]
    exact h.hand
  · intro j hj
    rcases List.mem_append.1 hj with f | f
    · exact h.some_ j f
    · simp only [List.mem_singleton] at f
      subst f
      exact hne
  · intro j hj
    rcases List.mem_append.1 hj with f | f
    · refine (h.fly j f).set a ha _ (by rw [em]) fun he r hr h2 => ?_
      dsimp only
      rw [t4 r (hap j f (by rw [← he, em]) r hr), ← em]
      exact h2
    · simp only [List.mem_singleton] at f
      subst f
      exact ⟨_, List.mem_iff_getElem.2 ⟨a, by simpa [begin_] using ha, List.getElem_set_self _⟩, rfl, fun r hr => (t3 r hr).2⟩
  · show (q.jobs ++ _).Pairwise _
    rw [List.pairwise_append]
    refine ⟨h.apart, by simp, ?_⟩
    intro x hx y hy
    simp only [List.mem_singleton] at hy
    subst hy
    exact hap x hx
  · have hidx : dIdx (q.ds.set i { d with f := d.f + 1 }) d.name = i := by
      have hl : i < (q.ds.set i { d with f := d.f + 1 }).length := by simpa using hi
      unfold dIdx
      rw [List.findIdx_eq hl]
      refine ⟨by simp, fun k hk => ?_⟩
      rw [List.getElem_set_ne (by omega)]
      have hnn := h.names
      rw [List.nodup_iff_pairwise_ne, List.pairwise_iff_getElem] at hnn
      have := hnn k i (by simp; omega) (by simpa using hi) hk
      simp only [List.getElem_map, ed] at this
      simpa using this
    refine ⟨{ d with f := d.f + 1 }, ?_, ?_, ?_⟩
    · show (q.ds.set i { d with f := d.f + 1 })[dIdx (q.ds.set i { d with f := d.f + 1 }) d.name]? = _
      rw [hidx]; simp [hi]
    · dsimp only; omega
    · dsimp only; omega

/-! ### Done -/
theorem setSt_st (rs : List Rc) (r s k : Nat) (h : k ≠ r) : stAt (setSt rs r s) k = stAt rs k := by
  unfold setSt stAt
  rw [List.getElem?_modify]
  have e : ¬ r = k := fun e => h e.symm
  simp [e]
theorem settle_st (l : List (Nat × Int)) (rs : List Rc) (k : Nat) (h : ∀ x ∈ l, x.1 ≠ k) : stAt (l.foldl settle rs) k = stAt rs k := by
  induction l generalizing rs with
  | nil => rfl
  | cons x l ih =>
    rw [List.foldl_cons, ih _ fun y hy => h y (List.mem_cons_of_mem _ hy)]
    exact setSt_st _ _ _ _ fun e => h x (List.mem_cons_self ..) e.symm
theorem offM_st (n : ByteArray) (m : Ml) (r : Nat) (h : stAt m.rs r = some 2) : stAt (offM n m).rs r = some 2 := by
  unfold stAt offM at *
  rw [Option.map_eq_some_iff] at h
  obtain ⟨c, h1, h2⟩ := h
  dsimp only
  rw [List.getElem?_map, h1]
  simp [offR, goes, h2]

theorem apart_erase {q : Qs} (h : Inv q) {b : Nat} (hb : b < q.jobs.length) : ∀ j' ∈ q.jobs.eraseIdx b, j'.id = q.jobs[b].id → ∀ r ∈ j'.rs, r ∉ q.jobs[b].rs := by
  intro j' hj' e r hr
  rw [List.mem_eraseIdx_iff_getElem] at hj'
  obtain ⟨k, hk, hkb, rfl⟩ := hj'
  rcases Nat.lt_or_ge k b with f | f
  · exact List.pairwise_iff_getElem.1 h.apart k b hk hb f e r hr
  · intro hr2
    exact List.pairwise_iff_getElem.1 h.apart b k hb hk (by omega) e.symm r hr2 hr

theorem Inv.doneAt {q : Qs} (h : Inv q) {b : Nat} {j : Jb} (hb : b < q.jobs.length) (ej : q.jobs[b] = j) {m : Ml} (hm : q.ms[mIdx q.ms j.id]? = some m) {d : Ds} (hd : (mkD q.lm q.ds j.dest)[dIdx q.ds j.dest]? = some d) (res : List Int) (g : Bool) (now : Int) :
    Inv (Qm.doneAt q (mIdx q.ms j.id) b m j res g now d) := by
  have hap := apart_erase h hb
  rw [ej] at hap
  obtain ⟨ha, em⟩ := List.getElem?_eq_some_iff.1 hm
  have hid := mIdx_get hm
  have hms : ∀ rs', ((q.ms.set (mIdx q.ms j.id) { m with rs := rs' }).map (·.id)) = q.ms.map (·.id) := fun rs' => map_set_self _ _ _ _ fun y hy => by rw [hm] at hy; injection hy with hy; subst hy; rfl
  have hmw : ∀ rs', inHand (q.ms.set (mIdx q.ms j.id) { m with rs := rs' }) = inHand q.ms := fun rs' => hand_same (map_set_self (fun m : Ml => m.waits) _ _ _ fun y hy => by rw [hm] at hy; injection hy with hy; subst hy; rfl)
  have hfl : ∀ j' ∈ q.jobs.eraseIdx b, flies (q.ms.set (mIdx q.ms j.id) { m with rs := (j.rs.zip res).foldl settle m.rs }) j' := by
    intro j' hj'
    refine (h.fly j' (List.mem_of_mem_eraseIdx hj')).set _ ha _ (by rw [em]) fun he r hr h2 => ?_
    dsimp only
    rw [settle_st, ← em]
    · exact h2
    · intro x hx e
      have : x.1 ∈ j.rs := (List.of_mem_zip hx).1
      rw [e] at this
      exact hap j' hj' (by rw [← he, em, hid]) r hr this
  have hrl := rl_set h.rl (mIdx q.ms j.id) { m with rs := (j.rs.zip res).foldl settle m.rs } (by dsimp only; rw [settle_length]; exact h.rl m (List.mem_of_getElem? hm))
  have hdn : ∀ d' : Ds, d'.name = d.name → (((mkD q.lm q.ds j.dest).set (dIdx q.ds j.dest) d').map (·.name)).Nodup := by
    intro d' e
    rw [map_set_self (fun d : Ds => d.name) _ _ _ fun y hy => by rw [hd] at hy; injection hy with hy; subst hy; exact e]
    exact mkD_names _ _ _ h.names
  unfold Qm.doneAt
  split
  · refine ⟨?_, hdn _ rfl, ?_, fun j' hj' => h.some_ j' (List.mem_of_mem_eraseIdx hj'), ?_, List.Pairwise.sublist (List.eraseIdx_sublist _ _) h.apart, rl_ends fun m' hm' => ?_⟩
    rotate_left 3
    · obtain ⟨x, hx, rfl⟩ := List.mem_map.1 hm'
      simp only [offM, List.length_map]
      exact hrl x hx
    · refine List.Nodup.sublist (ids_ends _ _ _) ?_
      rw [List.map_map]
      show ((q.ms.set _ _).map (·.id)).Nodup
      rw [hms]
      exact h.ids
    · have h1 := hand_ends q.lm now ((q.ms.set (mIdx q.ms j.id) { m with rs := (j.rs.zip res).foldl settle m.rs }).map (offM d.name))
      have h2 := hand_sub (l := q.ms.set (mIdx q.ms j.id) { m with rs := (j.rs.zip res).foldl settle m.rs }) (f := offM d.name) (fun m h => h)
      rw [hmw] at h2
      have := h.hand
      dsimp only
      omega
    · intro j' hj'
      exact ((hfl j' hj').map (f := offM d.name) (fun _ => rfl) (offM_st d.name)).ends (h.some_ j' (List.mem_of_mem_eraseIdx hj')) _ _
  · refine ⟨?_, hdn _ rfl, ?_, fun j' hj' => h.some_ j' (List.mem_of_mem_eraseIdx hj'), ?_, List.Pairwise.sublist (List.eraseIdx_sublist _ _) h.apart, rl_ends hrl⟩
    · refine List.Nodup.sublist (ids_ends _ _ _) ?_
      rw [hms]
      exact h.ids
    · have h1 := hand_ends q.lm now (q.ms.set (mIdx q.ms j.id) { m with rs := (j.rs.zip res).foldl settle m.rs })
      rw [hmw] at h1
      have := h.hand
      dsimp only
      omega
    · intro j' hj'
      exact (hfl j' hj').ends (h.some_ j' (List.mem_of_mem_eraseIdx hj')) _ _

/-- What Done does, where it does anything. -/
theorem done_cases (q : Qs) (j : Jb) (res : List Int) (g : Bool) (now : Int) : ((Qm.done q j res g now).1 ≠ 0 ∧ (Qm.done q j res g now).2 = q) ∨
    ∃ m d, doneOk j res now = true ∧ q.ms[mIdx q.ms j.id]? = some m ∧ (mkD q.lm q.ds j.dest)[dIdx q.ds j.dest]? = some d ∧ jIdx q.jobs j < q.jobs.length ∧ Qm.done q j res g now = (0, Qm.doneAt q (mIdx q.ms j.id) (jIdx q.jobs j) m j res g now d) := by
  unfold Qm.done
  split
  · exact .inl ⟨(fun e => by cases e), rfl⟩
  · rename_i ho
    split
    · rename_i m d hm hd
      split
      · rename_i hj
        exact .inr ⟨m, d, by simpa using ho, hm, hd, hj, rfl⟩
      · exact .inl ⟨(fun e => by cases e), rfl⟩
    · exact .inl ⟨(fun e => by cases e), rfl⟩
theorem doneAt_jobs (q : Qs) (a b : Nat) (m : Ml) (j : Jb) (res : List Int) (g : Bool) (now : Int) (d : Ds) : (Qm.doneAt q a b m j res g now d).jobs = q.jobs.eraseIdx b ∧ (Qm.doneAt q a b m j res g now d).lm = q.lm := by
  unfold Qm.doneAt
  split <;> exact ⟨rfl, rfl⟩
theorem doneAt_lengths (q : Qs) (a b : Nat) (m : Ml) (j : Jb) (res : List Int) (g : Bool) (now : Int) (d : Ds) : (Qm.doneAt q a b m j res g now d).ms.length ≤ q.ms.length ∧ (Qm.doneAt q a b m j res g now d).ds.length ≤ q.ds.length + 1 := by
  have := mkD_length q.lm q.ds j.dest
  unfold Qm.doneAt
  split
  · refine ⟨Nat.le_trans (endsM_length _ _ _) (by simp), by simpa using this⟩
  · refine ⟨Nat.le_trans (endsM_length _ _ _) (by simp), by simpa using this⟩
theorem Inv.done {q : Qs} (h : Inv q) (j : Jb) (res : List Int) (g : Bool) (now : Int) : Inv (Qm.done q j res g now).2 := by
  rcases done_cases q j res g now with ⟨-, e⟩ | ⟨m, d, -, hm, hd, hj, e⟩
  · rw [e]; exact h
  · rw [e]
    exact h.doneAt hj (jIdx_get hj) hm hd res g now
theorem done_lengths (q : Qs) (j : Jb) (res : List Int) (g : Bool) (now : Int) : (Qm.done q j res g now).2.ms.length ≤ q.ms.length ∧ (Qm.done q j res g now).2.ds.length ≤ q.ds.length + 1 ∧ (Qm.done q j res g now).2.jobs.length ≤ q.jobs.length ∧ (Qm.done q j res g now).2.lm = q.lm := by
  rcases done_cases q j res g now with ⟨-, e⟩ | ⟨m, d, -, hm, hd, hj, e⟩
  · rw [e]; exact ⟨Nat.le_refl _, by omega, Nat.le_refl _, rfl⟩
  · rw [e]
    obtain ⟨h1, h2⟩ := doneAt_lengths q (mIdx q.ms j.id) (jIdx q.jobs j) m j res g now d
    obtain ⟨h3, h4⟩ := doneAt_jobs q (mIdx q.ms j.id) (jIdx q.jobs j) m j res g now d
    refine ⟨h1, h2, ?_, h4⟩
    dsimp only
    rw [h3]
    exact (List.eraseIdx_sublist _ _).length_le

/-! ### Again, Drop -/
theorem againTo_fold (lm : Lm) (now : Int) (rs : List Rc) : ∀ (pre : List Rc) (x : List Ds × List Rc), (x.2.length = pre.length ∧ (x.1.map (·.name)).Nodup ∧ ∀ r, stAt pre r = some 2 → stAt x.2 r = some 2) →
    ((rs.foldl (againTo lm now) x).2.length = (pre ++ rs).length ∧ ((rs.foldl (againTo lm now) x).1.map (·.name)).Nodup ∧ ∀ r, stAt (pre ++ rs) r = some 2 → stAt (rs.foldl (againTo lm now) x).2 r = some 2) := by
  induction rs with
  | nil => intro pre x h; simpa using h
  | cons c rs ih =>
    intro pre x ⟨h1, h2, h3⟩
    rw [List.foldl_cons, show pre ++ c :: rs = (pre ++ [c]) ++ rs by simp]
    refine ih (pre ++ [c]) _ ?_
    have hst : ∀ (l : List Rc) (c' : Rc) r, r < l.length → stAt (l ++ [c']) r = stAt l r := fun l c' r hr => by simp [stAt, List.getElem?_append_left hr]
    have hst2 : ∀ (l : List Rc) (c' : Rc), stAt (l ++ [c']) l.length = some c'.st := fun l c' => by simp [stAt]
    have key : ∀ c' : Rc, (c.st = 2 → c'.st = 2) → ∀ r, stAt (pre ++ [c]) r = some 2 → stAt (x.2 ++ [c']) r = some 2 := by
      intro c' hc r hr
      have hl := stAt_lt hr
      simp only [List.length_append, List.length_cons, List.length_nil] at hl
      rcases Nat.lt_or_ge r pre.length with f | f
      · rw [hst _ _ _ f] at hr
        rw [hst _ _ _ (by omega)]
        exact h3 r hr
      · obtain rfl : r = pre.length := by omega
        rw [hst2] at hr
        injection hr with hr
        rw [← h1, hst2, hc hr]
    unfold againTo
    split
    · rename_i h
      exact ⟨by simp [h1], queueD_names _ _ _ _ h2, key _ fun e => by omega⟩
    · exact ⟨by simp [h1], h2, key _ fun e => e⟩
theorem again_spec (lm : Lm) (now : Int) (ds : List Ds) (rs : List Rc) (h : (ds.map (·.name)).Nodup) : (rs.foldl (againTo lm now) (ds, [])).2.length = rs.length ∧ ((rs.foldl (againTo lm now) (ds, [])).1.map (·.name)).Nodup ∧ ∀ r, stAt rs r = some 2 → stAt (rs.foldl (againTo lm now) (ds, [])).2 r = some 2 := by
  have := againTo_fold lm now rs [] (ds, []) ⟨rfl, h, by simp [stAt]⟩
  simpa only [List.nil_append] using this
theorem hand_set {ms : List Ml} {i : Nat} (hi : i < ms.length) (m' : Ml) : inHand (ms.set i m') ≤ inHand ms + 1 := by
  induction ms generalizing i with
  | nil => simp at hi
  | cons m ms ih =>
    cases i with
    | zero =>
      rw [List.set_cons_zero]
      unfold inHand
      rw [List.filter_cons, List.filter_cons]
      split <;> split <;> simp <;> omega
    | succ i =>
      rw [List.set_cons_succ]
      have := ih (i := i) (by simpa using hi)
      unfold inHand at this ⊢
      rw [List.filter_cons, List.filter_cons]
      split <;> simp at this ⊢ <;> omega
theorem Inv.again {q : Qs} (h : Inv q) (id : ByteArray) (now : Int) : Inv (Qm.again q id now).2 := by
  unfold Qm.again
  split
  · exact h
  split
  · exact h
  rename_i m hm
  split
  · exact h
  split
  · exact h
  · rename_i h1 h2 h3
    obtain ⟨a1, a2, a3⟩ := again_spec q.lm now q.ds m.rs h.names
    obtain ⟨ha, em⟩ := List.getElem?_eq_some_iff.1 hm
    refine ⟨?_, a2, ?_, h.some_, ?_, h.apart, rl_ends (rl_set h.rl _ _ (by dsimp only; rw [a1]; exact h.rl m (List.mem_of_getElem? hm)))⟩
    · refine List.Nodup.sublist (ids_ends _ _ _) ?_
      rw [map_set_self (fun m : Ml => m.id) _ _ _ fun y hy => by rw [hm] at hy; injection hy with hy; subst hy; rfl]
      exact h.ids
    · have e1 := hand_ends q.lm now (q.ms.set (mIdx q.ms id) { m with waits := false, due := 0, rs := (m.rs.foldl (againTo q.lm now) (q.ds, [])).2 })
      have e2 := hand_set ha { m with waits := false, due := 0, rs := (m.rs.foldl (againTo q.lm now) (q.ds, [])).2 }
      unfold full at h3
      simp only [decide_eq_true_eq] at h3
      dsimp only
      omega
    · intro j hj
      refine ((h.fly j hj).set _ ha _ (by rw [em]) fun _ r hr h2 => ?_).ends (h.some_ j hj) _ _
      dsimp only
      rw [em] at h2
      exact a3 r h2
theorem againFold_length (lm : Lm) (now : Int) (D : List Rc) (x : List Ds × List Rc) : (D.foldl (againTo lm now) x).1.length ≤ x.1.length + D.length := by
  induction D generalizing x with
  | nil => simp
  | cons d D ih =>
    rw [List.foldl_cons]
    have h1 := ih (againTo lm now x d)
    have h2 : (againTo lm now x d).1.length ≤ x.1.length + 1 := by
      unfold againTo
      split
      · exact queueD_length _ _ _ _
      · simp
    simp only [List.length_cons]
    omega
theorem Inv.drop {q : Qs} (h : Inv q) (id : ByteArray) : Inv (Qm.drop q id).2 := by
  unfold Qm.drop
  split
  · exact h
  rename_i m hm
  split
  · exact h
  · rename_i h1
    obtain ⟨ha, em⟩ := List.getElem?_eq_some_iff.1 hm
    have hid := mIdx_get hm
    refine ⟨?_, h.names, ?_, h.some_, ?_, h.apart, fun m hm => h.rl m (List.mem_of_mem_eraseIdx hm)⟩
    · exact List.Nodup.sublist ((List.eraseIdx_sublist _ _).map _) h.ids
    · have : inHand (q.ms.eraseIdx (mIdx q.ms id)) ≤ inHand q.ms := by
        unfold inHand
        exact ((List.eraseIdx_sublist _ _).filter _).length_le
      have := h.hand
      dsimp only
      omega
    · intro j hj
      obtain ⟨m', k1, k2, k3⟩ := h.fly j hj
      obtain ⟨r, l, e⟩ := List.exists_cons_of_ne_nil (h.some_ j hj)
      refine ⟨m', ?_, k2, k3⟩
      rw [List.mem_eraseIdx_iff_getElem]
      obtain ⟨k, hk, rfl⟩ := List.getElem_of_mem k1
      refine ⟨k, hk, fun hkb => ?_, rfl⟩
      subst hkb
      rw [em] at k3
      exact h1 (hasIn_of (k3 r (by rw [e]; simp)) (by simp))
end Go.Proofs.Ytnakafmlenngnaa.Qm
