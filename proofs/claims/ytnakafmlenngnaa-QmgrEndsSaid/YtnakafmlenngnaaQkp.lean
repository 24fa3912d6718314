/- Keeps, in plain terms. -/
import Derived.Test.YtnakafmlenngnaaQap
namespace Go.Proofs.Ytnakafmlenngnaa.Qm
open Go.Proofs.Ytnakafmlenngnaa.Wi

/-- Which of a message's recipients are settled. -/
def zOf (rs : List Rc) : List Bool := rs.map fun r => decide (r.st = 0)
/-- The places of those that are not, from k on. -/
def lz : Nat → List Bool → List Nat
  | _, [] => []
  | k, b :: l => if b then lz (k + 1) l else k :: lz (k + 1) l
theorem leftIn_z (k : Nat) (rs : List Rc) : leftIn k rs = lz k (zOf rs) := by
  induction rs generalizing k with
  | nil => rfl
  | cons r l ih =>
    simp only [leftIn, zOf, List.map_cons, lz]
    have := ih (k + 1)
    unfold zOf at this
    by_cases h : r.st = 0
    · simp [h, this]
    · simp [h, this]
theorem lz_length (k : Nat) (l : List Bool) : (lz k l).length ≤ l.length := by
  induction l generalizing k with
  | nil => simp [lz]
  | cons b l ih =>
    have := ih (k + 1)
    unfold lz
    split <;> simp <;> omega
theorem lz_all (k : Nat) (l : List Bool) (h : ∀ b ∈ l, b = true) : lz k l = [] := by
  induction l generalizing k with
  | nil => rfl
  | cons b l ih =>
    unfold lz
    rw [if_pos (h b (by simp))]
    exact ih _ fun b hb => h b (by simp [hb])
theorem lz_filter (g : Nat → Bool) (k : Nat) (l l' : List Bool) (hl : l'.length = l.length) (h : ∀ r (h1 : r < l'.length) (h2 : r < l.length), l'[r] = (l[r] || g (k + r))) : lz k l' = (lz k l).filter fun r => !g r := by
  induction l generalizing k l' with
  | nil =>
    have : l' = [] := List.length_eq_zero_iff.1 hl
    subst this
    rfl
  | cons b l ih =>
    cases l' with
    | nil => simp at hl
    | cons b' l' =>
      have h0 := h 0 (by simp) (by simp)
      simp only [List.getElem_cons_zero, Nat.add_zero] at h0
      have hs := ih (k + 1) l' (by simpa using hl) fun r h1 h2 => by
        have := h (r + 1) (by simp; omega) (by simp; omega)
        simp only [List.getElem_cons_succ] at this
        rw [this, show k + (r + 1) = k + 1 + r by omega]
      subst h0
      unfold lz
      cases b with
      | true => simp only [Bool.true_or, if_true]; exact hs
      | false =>
        simp only [Bool.false_or, Bool.false_eq_true, if_false, List.filter_cons]
        cases g k <;> simp [hs]

/-- A message's id and which of its recipients are settled. -/
def key (m : Ml) : ByteArray × List Bool := (m.id, zOf m.rs)
/-- What is left of a message, whether it is there or not. -/
def Lft (ms : List Ml) (id : ByteArray) (l : List Nat) : Prop := (∀ m ∈ ms, m.id = id → lz 0 (zOf m.rs) = l) ∧ ((∀ m ∈ ms, m.id ≠ id) → l = [])
theorem Lft.q {q : Qs} {id : ByteArray} {l : List Nat} (h : Lft q.ms id l) : leftQ q id = l := by
  unfold leftQ
  cases e : q.ms[mIdx q.ms id]? with
  | none =>
    refine (h.2 fun m hm he => ?_).symm
    have := mIdx_mem hm he
    rw [List.getElem?_eq_none_iff] at e
    omega
  | some m =>
    dsimp only
    rw [leftIn_z]
    exact h.1 m (List.mem_of_getElem? e) (mIdx_get e)
theorem Lft.congr {ms ms' : List Ml} {id : ByteArray} {l : List Nat} (h : Lft ms id l) (e : ms'.map key = ms.map key) : Lft ms' id l := by
  have hk : ∀ m ∈ ms', ∃ m0 ∈ ms, m0.id = m.id ∧ zOf m0.rs = zOf m.rs := fun m hm => by
    have : key m ∈ ms.map key := by rw [← e]; exact List.mem_map.2 ⟨m, hm, rfl⟩
    obtain ⟨m0, h0, e0⟩ := List.mem_map.1 this
    injection e0 with e1 e2
    exact ⟨m0, h0, e1, e2⟩
  have hk' : ∀ m ∈ ms, ∃ m0 ∈ ms', m0.id = m.id := fun m hm => by
    have : key m ∈ ms'.map key := by rw [e]; exact List.mem_map.2 ⟨m, hm, rfl⟩
    obtain ⟨m0, h0, e0⟩ := List.mem_map.1 this
    injection e0 with e1 e2
    exact ⟨m0, h0, e1⟩
  refine ⟨fun m hm he => ?_, fun hn => h.2 fun m hm he => ?_⟩
  · obtain ⟨m0, h0, e1, e2⟩ := hk m hm
    rw [← e2]
    exact h.1 m0 h0 (e1.trans he)
  · obtain ⟨m0, h0, e1⟩ := hk' m hm
    exact hn m0 h0 (e1.trans he)

def Good (ms : List Ml) : Prop := ∀ m ∈ ms, m.id.size ≠ 0 ∧ ∀ r ∈ m.rs, r.st ≤ 3
theorem Good.ends {ms : List Ml} (h : Good ms) (lm : Lm) (now : Int) : Good (endsM lm now ms) := by
  intro m hm
  unfold endsM at hm
  obtain ⟨m0, hm0, rfl⟩ := List.mem_map.1 hm
  rw [List.mem_filter] at hm0
  rw [wait_id, wait_rs]
  exact h m0 hm0.1
theorem Good.set {ms : List Ml} (h : Good ms) (i : Nat) (m' : Ml) (hm : m'.id.size ≠ 0 ∧ ∀ r ∈ m'.rs, r.st ≤ 3) : Good (ms.set i m') := by
  intro m hm'
  rcases List.mem_or_eq_of_mem_set hm' with f | rfl
  · exact h m f
  · exact hm
theorem gone_all {m : Ml} (h : gone m = true) (g : ∀ r ∈ m.rs, r.st ≤ 3) : ∀ b ∈ zOf m.rs, b = true := by
  intro b hb
  obtain ⟨r, hr, rfl⟩ := List.mem_map.1 hb
  unfold gone at h
  simp only [Bool.and_eq_true, Bool.not_eq_true', Bool.or_eq_false_iff] at h
  obtain ⟨⟨-, h1⟩, h2⟩ := h
  unfold hasIn at h1 h2
  rw [List.any_eq_false] at h1 h2
  have a := h1 r hr
  have b := h2 r hr
  have c := g r hr
  simp at a b
  simp
  omega
theorem Lft.ends {ms : List Ml} {id : ByteArray} {l : List Nat} (h : Lft ms id l) (g : Good ms) (lm : Lm) (now : Int) : Lft (endsM lm now ms) id l := by
  refine ⟨fun m hm e => ?_, fun hn => ?_⟩
  · unfold endsM at hm
    obtain ⟨m0, hm0, rfl⟩ := List.mem_map.1 hm
    rw [List.mem_filter] at hm0
    rw [wait_id] at e
    rw [wait_rs]
    exact h.1 m0 hm0.1 e
  · by_cases hx : ∃ m ∈ ms, m.id = id
    · obtain ⟨m, hm, e⟩ := hx
      have hg : gone m = true := by
        cases hg : gone m with
        | true => rfl
        | false => exact absurd (by rw [wait_id]; exact e) (hn (wait lm now m) (List.mem_map.2 ⟨m, List.mem_filter.2 ⟨hm, by rw [hg]; rfl⟩, rfl⟩))
      rw [← h.1 m hm e]
      exact lz_all _ _ (gone_all hg (g m hm).2)
    · exact h.2 fun m hm e => hx ⟨m, hm, e⟩

/-! ### Add -/
def placesIn : Nat → List ByteArray → List Nat
  | _, [] => []
  | k, d :: l => if d.size = 0 then placesIn (k + 1) l else k :: placesIn (k + 1) l
theorem placesIn_length (k : Nat) (l : List ByteArray) : (placesIn k l).length ≤ l.length := by
  induction l generalizing k with
  | nil => simp [placesIn]
  | cons b l ih =>
    have := ih (k + 1)
    unfold placesIn
    split <;> simp <;> omega
theorem placesIn_z (k : Nat) (l : List ByteArray) : placesIn k l = lz k (l.map fun d => decide (d.size = 0)) := by
  induction l generalizing k with
  | nil => rfl
  | cons d l ih =>
    simp only [placesIn, List.map_cons, lz]
    by_cases h : d.size = 0 <;> simp [h, ih]
theorem addFold_z (lm : Lm) (now : Int) (D : List ByteArray) (x : List Ds × List Rc) : zOf (D.foldl (addTo lm now) x).2 = zOf x.2 ++ (D.map fun d => decide (d.size = 0)) ∧ ((∀ r ∈ x.2, r.st ≤ 3) → ∀ r ∈ (D.foldl (addTo lm now) x).2, r.st ≤ 3) := by
  induction D generalizing x with
  | nil => exact ⟨by simp, fun h => h⟩
  | cons d D ih =>
    rw [List.foldl_cons]
    obtain ⟨h1, h2⟩ := ih (addTo lm now x d)
    have hq := queueD_st lm x.1 d now
    refine ⟨?_, fun h => h2 ?_⟩
    · rw [h1]
      unfold addTo
      by_cases hd : d.size = 0
      · rw [if_pos hd]
        simp only [zOf, List.map_append, List.map_cons, List.map_nil, List.append_assoc, List.singleton_append]
        rw [decide_eq_true hd]
        rfl
      · rw [if_neg hd]
        simp only [zOf, List.map_append, List.map_cons, List.map_nil, List.append_assoc, List.singleton_append]
        congr 2
        rcases hq with e | e <;> simp [e, hd]
    · unfold addTo
      by_cases hd : d.size = 0
      · rw [if_pos hd]
        intro r hr
        rcases List.mem_append.1 hr with f | f
        · exact h r f
        · simp only [List.mem_singleton] at f; subst f; simp
      · rw [if_neg hd]
        intro r hr
        rcases List.mem_append.1 hr with f | f
        · exact h r f
        · simp only [List.mem_singleton] at f; subst f
          dsimp only
          omega

/-! ### Next -/
theorem zOf_at (rs : List Rc) (r : Nat) : (zOf rs)[r]? = (stAt rs r).map fun s => decide (s = 0) := by
  unfold zOf stAt
  rw [List.getElem?_map, Option.map_map]
  rfl
theorem zOf_ext {a b : List Rc} (h : ∀ r, (stAt a r).map (fun s => decide (s = 0)) = (stAt b r).map fun s => decide (s = 0)) : zOf a = zOf b :=
  List.ext_getElem? fun r => by rw [zOf_at, zOf_at, h r]
theorem take_z (n : ByteArray) (rs : List Rc) : zOf (rs.foldl (takeTo n) ([], [])).1 = zOf rs := by
  obtain ⟨-, -, h3, h4, -⟩ := take_spec n rs
  refine zOf_ext fun r => ?_
  by_cases h : r ∈ (rs.foldl (takeTo n) ([], [])).2
  · obtain ⟨a, b⟩ := h3 r h
    rw [a, b]; rfl
  · rw [h4 r h]
theorem st_le {rs : List Rc} : (∀ r ∈ rs, r.st ≤ 3) ↔ ∀ k s, stAt rs k = some s → s ≤ 3 := by
  constructor
  · intro h k s e
    unfold stAt at e
    cases e2 : rs[k]? with
    | none => rw [e2] at e; cases e
    | some x =>
      rw [e2] at e
      injection e with e
      subst e
      exact h x (List.mem_of_getElem? e2)
  · intro h r hr
    obtain ⟨k, hk, rfl⟩ := List.getElem_of_mem hr
    exact h k _ (by unfold stAt; rw [List.getElem?_eq_getElem hk]; rfl)
theorem take_le (n : ByteArray) (rs : List Rc) (h : ∀ r ∈ rs, r.st ≤ 3) : ∀ r ∈ (rs.foldl (takeTo n) ([], [])).1, r.st ≤ 3 := by
  obtain ⟨-, -, h3, h4, -⟩ := take_spec n rs
  rw [st_le] at h ⊢
  intro k s e
  by_cases hk : k ∈ (rs.foldl (takeTo n) ([], [])).2
  · rw [(h3 k hk).2] at e
    injection e with e
    omega
  · rw [h4 k hk] at e
    exact h k s e

/-! ### Done -/
theorem setSt_hit (rs : List Rc) (r s : Nat) : stAt (setSt rs r s) r = (stAt rs r).map fun _ => s := by
  unfold setSt stAt
  rw [List.getElem?_modify]
  cases rs[r]? <;> simp
theorem settle_hit (l : List (Nat × Int)) (hn : (l.map (·.1)).Nodup) (rs : List Rc) (r : Nat) (v : Int) (h : (r, v) ∈ l) : stAt (l.foldl settle rs) r = (stAt rs r).map fun _ => if v = 1 then 3 else 0 := by
  induction l generalizing rs with
  | nil => cases h
  | cons x l ih =>
    rw [List.map_cons, List.nodup_cons] at hn
    rw [List.foldl_cons]
    rcases List.mem_cons.1 h with f | f
    · subst f
      rw [settle_st l _ r fun y hy e => hn.1 (List.mem_map.2 ⟨y, hy, e⟩)]
      unfold settle
      exact setSt_hit _ _ _
    · rw [ih hn.2 _ f]
      unfold settle
      rw [setSt_st]
      rintro rfl
      exact hn.1 (List.mem_map.2 ⟨_, f, rfl⟩)
/-- Was a recipient answered for good? -/
def goneR (j : Jb) (res : List Int) (r : Nat) : Bool := (j.rs.zip res).any fun p => decide (p.1 = r) && decide (p.2 ≠ 1)
theorem zip_fst {a : List Nat} {b : List Int} (h : b.length = a.length) : (a.zip b).map (·.1) = a := by
  rw [show (fun x : Nat × Int => x.1) = Prod.fst from rfl, List.map_fst_zip (by omega)]
theorem settle_z (j : Jb) (res : List Int) (rs : List Rc) (hl : res.length = j.rs.length) (hn : j.rs.Nodup) (hf : ∀ r ∈ j.rs, stAt rs r = some 2) (r : Nat) : (stAt ((j.rs.zip res).foldl settle rs) r).map (fun s => decide (s = 0)) = (stAt rs r).map fun s => decide (s = 0) || goneR j res r := by
  have hn' : ((j.rs.zip res).map (·.1)).Nodup := by rw [zip_fst hl]; exact hn
  by_cases hr : ∃ v, (r, v) ∈ j.rs.zip res
  · obtain ⟨v, hv⟩ := hr
    rw [settle_hit _ hn' _ _ _ hv, hf r (List.of_mem_zip hv).1]
    have hg : goneR j res r = decide (v ≠ 1) := by
      unfold goneR
      rw [Bool.eq_iff_iff, List.any_eq_true, decide_eq_true_iff]
      constructor
      · rintro ⟨p, hp, e⟩
        rw [Bool.and_eq_true, decide_eq_true_iff, decide_eq_true_iff] at e
        obtain ⟨p1, p2⟩ := p
        obtain ⟨rfl, e2⟩ := e
        obtain ⟨a, ha, ea⟩ := List.getElem_of_mem hp
        obtain ⟨b, hb, eb⟩ := List.getElem_of_mem hv
        have hab : a = b := by
          have h1 : ((j.rs.zip res).map (·.1))[a]? = ((j.rs.zip res).map (·.1))[b]? := by
            rw [List.getElem?_map, List.getElem?_map, List.getElem?_eq_getElem ha, List.getElem?_eq_getElem hb, ea, eb]; rfl
          exact (List.getElem?_inj (by simpa using ha) hn').1 h1
        subst hab
        rw [ea] at eb
        injection eb with _ eb
        subst eb
        exact e2
      · intro e
        exact ⟨_, hv, by simp [e]⟩
    rw [hg]
    by_cases hv1 : v = 1 <;> simp [hv1]
  · have hg : goneR j res r = false := by
      unfold goneR
      rw [List.any_eq_false]
      intro p hp e
      rw [Bool.and_eq_true, decide_eq_true_iff] at e
      obtain ⟨p1, p2⟩ := p
      exact hr ⟨p2, by rw [← e.1]; exact hp⟩
    rw [settle_st _ _ _ fun x hx e => hr ⟨x.2, by rw [← e]; exact hx⟩, hg]
    simp
theorem settle_len (l : List (Nat × Int)) (rs : List Rc) : (l.foldl settle rs).length = rs.length := by
  induction l generalizing rs with
  | nil => rfl
  | cons x l ih =>
    rw [List.foldl_cons, ih]
    simp [settle, setSt]
theorem settle_lz (j : Jb) (res : List Int) (rs : List Rc) (hl : res.length = j.rs.length) (hn : j.rs.Nodup) (hf : ∀ r ∈ j.rs, stAt rs r = some 2) : lz 0 (zOf ((j.rs.zip res).foldl settle rs)) = (lz 0 (zOf rs)).filter fun r => !goneR j res r := by
  refine lz_filter _ 0 _ _ (by simp [zOf, settle_len]) fun r h1 h2 => ?_
  have := settle_z j res rs hl hn hf r
  rw [← zOf_at, List.getElem?_eq_getElem h1] at this
  have e2 := zOf_at rs r
  rw [List.getElem?_eq_getElem h2] at e2
  cases e3 : stAt rs r with
  | none => rw [e3] at e2; cases e2
  | some s =>
    rw [e3] at this e2
    injection this with this
    injection e2 with e2
    rw [this, Nat.zero_add, e2]
theorem settle_le (l : List (Nat × Int)) (rs : List Rc) (h : ∀ r ∈ rs, r.st ≤ 3) : ∀ r ∈ l.foldl settle rs, r.st ≤ 3 := by
  induction l generalizing rs with
  | nil => exact h
  | cons x l ih =>
    rw [List.foldl_cons]
    refine ih _ ?_
    rw [st_le] at h ⊢
    intro k s e
    unfold settle at e
    by_cases hk : k = x.1
    · subst hk
      rw [setSt_hit] at e
      cases e2 : stAt rs x.1 with
      | none => rw [e2] at e; cases e
      | some s0 =>
        rw [e2] at e
        simp only [Option.map_some, Option.some.injEq] at e
        split at e <;> omega
    · rw [setSt_st _ _ _ _ hk] at e
      exact h k s e
theorem offM_key (n : ByteArray) (m : Ml) : key (offM n m) = key m := by
  unfold key
  refine Prod.ext rfl ?_
  unfold offM zOf
  dsimp only
  rw [List.map_map]
  refine List.map_congr_left fun r _ => ?_
  unfold offR
  dsimp only [Function.comp]
  split
  · rename_i h
    unfold goes at h
    rw [Bool.and_eq_true, decide_eq_true_iff] at h
    simp [h.1]
  · rfl
theorem Good.off {ms : List Ml} (h : Good ms) (n : ByteArray) : Good (ms.map (offM n)) := by
  intro m hm
  obtain ⟨m0, h0, rfl⟩ := List.mem_map.1 hm
  obtain ⟨a, b⟩ := h m0 h0
  refine ⟨a, fun r hr => ?_⟩
  obtain ⟨r0, hr0, rfl⟩ := List.mem_map.1 hr
  unfold offR
  split
  · simp
  · exact b r0 hr0

/-! ### Again -/
theorem againFold_z (lm : Lm) (now : Int) (rs : List Rc) (x : List Ds × List Rc) : zOf (rs.foldl (againTo lm now) x).2 = zOf x.2 ++ zOf rs ∧ ((∀ r ∈ x.2, r.st ≤ 3) → (∀ r ∈ rs, r.st ≤ 3) → ∀ r ∈ (rs.foldl (againTo lm now) x).2, r.st ≤ 3) := by
  induction rs generalizing x with
  | nil => exact ⟨by simp [zOf], fun h _ => h⟩
  | cons d D ih =>
    rw [List.foldl_cons]
    obtain ⟨h1, h2⟩ := ih (againTo lm now x d)
    have hq := queueD_st lm x.1 d.dest now
    refine ⟨?_, fun h k => h2 ?_ fun r hr => k r (by simp [hr])⟩
    · rw [h1]
      unfold againTo
      by_cases hd : d.st = 3
      · rw [if_pos hd]
        simp only [zOf, List.map_append, List.map_cons, List.map_nil, List.append_assoc, List.singleton_append]
        congr 2
        rcases hq with e | e <;> simp [e, hd]
      · rw [if_neg hd]
        simp [zOf]
    · unfold againTo
      by_cases hd : d.st = 3
      · rw [if_pos hd]
        intro r hr
        rcases List.mem_append.1 hr with f | f
        · exact h r f
        · simp only [List.mem_singleton] at f; subst f
          dsimp only
          omega
      · rw [if_neg hd]
        intro r hr
        rcases List.mem_append.1 hr with f | f
        · exact h r f
        · simp only [List.mem_singleton] at f; subst f
          exact k _ (by simp)
end Go.Proofs.Ytnakafmlenngnaa.Qm
