/- QmgrEnds: answered at once, each recipient is settled in the end; no conditions. The plain law, the walk and the frame. -/
import Derived.Test.YtnakafmlenngnaaQkq
import Derived.Laws.BitsLemmas
import Derived.Test.YtnakafmlenngnaaQn
import Derived.Test.YtnakafmlenngnaaQw
import Derived.Test.YtnakafmlenngnaaQlr
import Derived.Test.YtnakafmlenngnaaQdk
import Derived.Test.YtnakafmlenngnaaRows
import Derived.Test.YtnakafmlenngnaaQos
import Derived.Test.YtnakafmlenngnaaQst
import Derived.WalkKit
import Derived.ProofKit
import Derived.OpenShut
import Derived.ShutString
import Derived.ChangeOld
import Derived.Below
import Derived.Carry
namespace Go.Proofs.Ytnakafmlenngnaa.Qm
open Go.Proofs.Ytnakafmlenngnaa.Wi

/-! ### What a job and its answer leave of a message's recipients -/
theorem take_dest (n : ByteArray) (rs : List Rc) : ∀ x : List Rc × List Nat, (rs.foldl (takeTo n) x).1.map (·.dest) = x.1.map (·.dest) ++ rs.map (·.dest) := by
  induction rs with
  | nil => intro x; simp
  | cons r rs ih =>
    intro x
    rw [List.foldl_cons, ih]
    unfold takeTo
    split <;> simp
theorem setSt_dest (rs : List Rc) (r s : Nat) : (setSt rs r s).map (·.dest) = rs.map (·.dest) := by
  refine List.ext_getElem? fun k => ?_
  unfold setSt
  rw [List.getElem?_map, List.getElem?_map, List.getElem?_modify]
  cases rs[k]? with
  | none => rfl
  | some x => by_cases h : r = k <;> simp [h]
theorem settle_dest (l : List (Nat × Int)) (rs : List Rc) : (l.foldl settle rs).map (·.dest) = rs.map (·.dest) := by
  induction l generalizing rs with
  | nil => rfl
  | cons x l ih =>
    rw [List.foldl_cons, ih]
    unfold settle
    exact setSt_dest _ _ _
def tk (n : ByteArray) (rs : List Rc) : List Rc × List Nat := rs.foldl (takeTo n) ([], [])
def r2 (n : ByteArray) (rs : List Rc) (res : List Int) : List Rc := ((tk n rs).2.zip res).foldl settle (tk n rs).1
theorem r2_len (n : ByteArray) (rs : List Rc) (res : List Int) : (r2 n rs res).length = rs.length := by
  unfold r2
  rw [settle_len]
  exact (take_spec n rs).1
theorem r2_spec (n : ByteArray) (rs : List Rc) (res : List Int) (hl : res.length = (tk n rs).2.length) (k : Nat) (r' : Rc) (h : (r2 n rs res)[k]? = some r') :
    ∃ r, rs[k]? = some r ∧ r'.dest = r.dest ∧ ((k ∉ (tk n rs).2 ∧ r'.st = r.st) ∨ (k ∈ (tk n rs).2 ∧ r.st = 1 ∧ ∃ v ∈ res, r'.st = if v = 1 then 3 else 0)) := by
  obtain ⟨t1, t2, t3, t4, t5, t6⟩ := take_spec n rs
  change (tk n rs).1.length = _ at t1
  change (tk n rs).2.Pairwise _ at t2
  change ∀ r ∈ (tk n rs).2, _ ∧ stAt (tk n rs).1 r = _ at t3
  change ∀ r, r ∉ (tk n rs).2 → stAt (tk n rs).1 r = _ at t4
  have hk : k < rs.length := by
    rw [← r2_len n rs res]
    exact (List.getElem?_eq_some_iff.1 h).1
  have hd : (r2 n rs res).map (·.dest) = rs.map (·.dest) := by
    unfold r2
    rw [settle_dest]
    exact (take_dest n rs ([], [])).trans (by simp)
  have hd2 : ((r2 n rs res).map (·.dest))[k]? = (rs.map (·.dest))[k]? := by rw [hd]
  rw [List.getElem?_map, List.getElem?_map, h, List.getElem?_eq_getElem hk] at hd2
  injection hd2 with hd2
  have hst : stAt (r2 n rs res) k = some r'.st := by unfold stAt; rw [h]; rfl
  refine ⟨rs[k], List.getElem?_eq_getElem hk, hd2, ?_⟩
  have hn : (((tk n rs).2.zip res).map (·.1)).Nodup := by
    rw [zip_fst hl]
    exact t2.imp fun {a b} hab => Nat.ne_of_lt hab
  have hsr : stAt rs k = some rs[k].st := by unfold stAt; rw [List.getElem?_eq_getElem hk]; rfl
  by_cases hm : k ∈ (tk n rs).2
  · refine .inr ⟨hm, ?_, ?_⟩
    · have := (t3 k hm).1
      rw [hsr] at this
      injection this
    · have hm2 : k ∈ ((tk n rs).2.zip res).map (·.1) := by rw [zip_fst hl]; exact hm
      obtain ⟨⟨k2, v⟩, hv, e⟩ := List.mem_map.1 hm2
      have e : k2 = k := e
      subst e
      refine ⟨v, (List.of_mem_zip hv).2, ?_⟩
      unfold r2 at hst
      rw [settle_hit _ hn _ _ _ hv, (t3 _ hm).2] at hst
      injection hst with hst
      exact hst.symm
  · refine .inl ⟨hm, ?_⟩
    unfold r2 at hst
    rw [settle_st _ _ k fun y hy e => hm (by rw [← e]; exact (List.of_mem_zip hy).1), t4 k hm, hsr] at hst
    injection hst with hst
    exact hst.symm

/-! ### How many are queued -/
def qn (rs : List Rc) : Nat := (rs.filter fun r => decide (r.st = 1)).length
def Qn (ms : List Ml) : Nat := (ms.map fun m => qn m.rs).sum
theorem qn_cons (r : Rc) (l : List Rc) : qn (r :: l) = (if r.st = 1 then 1 else 0) + qn l := by
  unfold qn
  rw [List.filter_cons]
  by_cases h : r.st = 1
  · simp [h]; omega
  · simp [h]
theorem qn_le {a b : List Rc} (hl : b.length = a.length) (h : ∀ (k : Nat) (r' : Rc), b[k]? = some r' → r'.st = 1 → ∃ r : Rc, a[k]? = some r ∧ r.st = 1) :
    qn b ≤ qn a ∧ ((∃ (k : Nat) (r r' : Rc), a[k]? = some r ∧ b[k]? = some r' ∧ r.st = 1 ∧ r'.st ≠ 1) → qn b < qn a) := by
  induction a generalizing b with
  | nil =>
    cases b with
    | nil => exact ⟨Nat.le_refl _, fun ⟨k, r, r', h, _⟩ => by simp at h⟩
    | cons => simp at hl
  | cons x a ih =>
    cases b with
    | nil => simp at hl
    | cons y b =>
      obtain ⟨i1, i2⟩ := ih (b := b) (by simpa using hl) fun k r' hk hr => by
        have := h (k + 1) r' (by simpa using hk) hr
        simpa using this
      have h0 := h 0 y rfl
      rw [qn_cons, qn_cons]
      constructor
      · by_cases hy : y.st = 1
        · obtain ⟨r, e, hr⟩ := h0 hy
          injection e with e
          subst e
          rw [if_pos hy, if_pos hr]
          omega
        · rw [if_neg hy]
          omega
      · rintro ⟨k, r, r', ha, hb, h1, h2⟩
        cases k with
        | zero =>
          injection ha with ha
          injection hb with hb
          subst ha hb
          rw [if_pos h1, if_neg h2]
          omega
        | succ k =>
          have := i2 ⟨k, r, r', by simpa using ha, by simpa using hb, h1, h2⟩
          by_cases hy : y.st = 1
          · obtain ⟨r, e, hr⟩ := h0 hy
            injection e with e
            subst e
            rw [if_pos hy, if_pos hr]
            omega
          · rw [if_neg hy]
            omega
theorem Qn_set {ms : List Ml} {a : Nat} {m : Ml} (h : ms[a]? = some m) (m' : Ml) : Qn (ms.set a m') + qn m.rs = Qn ms + qn m'.rs := by
  induction ms generalizing a with
  | nil => simp at h
  | cons x l ih =>
    cases a with
    | zero =>
      injection h with h
      subst h
      simp [Qn]; omega
    | succ a =>
      have := ih (a := a) (by simpa using h)
      simp only [Qn, List.set_cons_succ, List.map_cons, List.sum_cons] at this ⊢
      omega
theorem Qn_map {ms : List Ml} (f : Ml → Ml) (h : ∀ m ∈ ms, qn (f m).rs ≤ qn m.rs) : Qn (ms.map f) ≤ Qn ms := by
  induction ms with
  | nil => exact Nat.le_refl _
  | cons x l ih =>
    have h1 := h x (List.mem_cons_self ..)
    have h2 := ih fun m hm => h m (List.mem_cons_of_mem _ hm)
    simp only [Qn, List.map_cons, List.sum_cons] at h2 ⊢
    omega
theorem Qn_filter (ms : List Ml) (p : Ml → Bool) : Qn (ms.filter p) ≤ Qn ms := by
  induction ms with
  | nil => exact Nat.le_refl _
  | cons x l ih =>
    rw [List.filter_cons]
    split <;> simp only [Qn, List.map_cons, List.sum_cons] at ih ⊢ <;> omega
theorem Qn_ends (lm : Lm) (now : Int) (ms : List Ml) : Qn (endsM lm now ms) ≤ Qn ms := by
  unfold endsM
  refine Nat.le_trans (Qn_map _ fun m _ => ?_) (Qn_filter _ _)
  rw [wait_rs]
  exact Nat.le_refl _
theorem qn_off (n : ByteArray) (rs : List Rc) : qn (rs.map (offR n)) ≤ qn rs := by
  refine (qn_le (by simp) fun k r' hk hr => ?_).1
  rw [List.getElem?_map, Option.map_eq_some_iff] at hk
  obtain ⟨r, h1, rfl⟩ := hk
  refine ⟨r, h1, ?_⟩
  unfold offR at hr
  split at hr
  · cases hr
  · exact hr

/-! ### How many wait -/
def wc (ms : List Ml) : Nat := (ms.filter fun m => m.waits).length
theorem wc_hand (ms : List Ml) : ms.length = wc ms + inHand ms := by
  unfold wc inHand
  induction ms with
  | nil => rfl
  | cons m l ih =>
    rw [List.filter_cons, List.filter_cons]
    cases m.waits <;> simp <;> omega

/-! ### The state between two jobs -/
def Nm (ds : List Ds) (n : ByteArray) : Prop := ∃ d ∈ ds, d.name = n
def Live (ds : List Ds) (n : ByteArray) : Prop := ∃ d ∈ ds, d.name = n ∧ 1 ≤ d.s
structure RcOk (ds : List Ds) (r : Rc) : Prop where
  nm : r.st ≠ 0 → Nm ds r.dest
  lv : r.st = 1 → Live ds r.dest
  nf : r.st ≠ 2
structure DsOk (ds : List Ds) (T : Int) : Prop where
  f0 : ∀ d ∈ ds, d.f = 0
  rv : ∀ d ∈ ds, d.s = 0 → d.rev ≤ T
structure EnI (lm : Lm) (q : Qs) (T : Int) : Prop where
  ok : lm.Ok
  lme : q.lm = lm
  inv : Inv q
  nj : q.jobs = []
  dso : DsOk q.ds T
  wt : ∀ m ∈ q.ms, m.waits = true → m.due ≤ T ∧ hasIn [3] m.rs = true
  hd : ∀ m ∈ q.ms, m.waits = false → hasIn [1] m.rs = true
  rc : ∀ m ∈ q.ms, ∀ r ∈ m.rs, RcOk q.ds r
/-- None of those in hand has anybody deferred. -/
def Nd (ms : List Ml) : Prop := ∀ m ∈ ms, m.waits = false → ∀ r ∈ m.rs, r.st ≠ 3

theorem EnI.mono {lm : Lm} {q : Qs} {T T' : Int} (h : EnI lm q T) (hT : T ≤ T') : EnI lm q T' :=
  ⟨h.ok, h.lme, h.inv, h.nj, ⟨h.dso.f0, fun d hd hs => Int.le_trans (h.dso.rv d hd hs) hT⟩, fun m hm hw => ⟨Int.le_trans (h.wt m hm hw).1 hT, (h.wt m hm hw).2⟩, h.hd, h.rc⟩

theorem has_iff {l : List Nat} {rs : List Rc} : hasIn l rs = true ↔ ∃ r ∈ rs, r.st ∈ l := by
  unfold hasIn
  rw [List.any_eq_true]
  constructor
  · rintro ⟨r, h1, h2⟩; exact ⟨r, h1, of_decide_eq_true h2⟩
  · rintro ⟨r, h1, h2⟩; exact ⟨r, h1, decide_eq_true h2⟩

/-- What the end of rounds leaves. -/
theorem ends_mem {lm : Lm} {now : Int} {ms : List Ml} {m : Ml} (h : m ∈ endsM lm now ms) :
    ∃ m0 ∈ ms, m.id = m0.id ∧ m.rs = m0.rs ∧ (m = m0 ∧ (m0.waits = true ∨ hasIn [1, 2] m0.rs = true) ∨ m0.waits = false ∧ m.waits = true ∧ m.due ≤ now + back lm now m0.came ∧ hasIn [3] m0.rs = true) := by
  unfold endsM at h
  obtain ⟨m0, h1, rfl⟩ := List.mem_map.1 h
  obtain ⟨h2, h3⟩ := List.mem_filter.1 h1
  refine ⟨m0, h2, wait_id _ _ _, wait_rs _ _ _, ?_⟩
  unfold wait
  split
  · rename_i hw
    exact .inl ⟨rfl, by simpa using hw⟩
  · rename_i hw
    have hg : hasIn [3] m0.rs = true := by
      unfold gone at h3
      simp only [Bool.not_eq_true] at hw
      rw [hw] at h3
      simpa using h3
    rw [if_pos hg]
    simp only [Bool.or_eq_true, not_or, Bool.not_eq_true] at hw
    exact .inr ⟨hw.1, rfl, by dsimp only; omega, hg⟩
theorem back_le {lm : Lm} (h : lm.Ok) (now came : Int) : back lm now came ≤ lm.maxb := by
  obtain ⟨-, -, -, -, -, -, h1, -⟩ := h
  unfold back
  omega
/-- The messages' half, after an end of rounds. -/
theorem ends_ok {lm : Lm} (ok : lm.Ok) {now T : Int} {ms : List Ml} {ds : List Ds} (hT : now + lm.maxb ≤ T)
    (h1 : ∀ m ∈ ms, m.waits = true → m.due ≤ T ∧ hasIn [3] m.rs = true) (h2 : ∀ m ∈ ms, ∀ r ∈ m.rs, RcOk ds r) :
    (∀ m ∈ endsM lm now ms, m.waits = true → m.due ≤ T ∧ hasIn [3] m.rs = true) ∧ (∀ m ∈ endsM lm now ms, m.waits = false → hasIn [1] m.rs = true) ∧ (∀ m ∈ endsM lm now ms, ∀ r ∈ m.rs, RcOk ds r) := by
  refine ⟨fun m hm hw => ?_, fun m hm hw => ?_, fun m hm r hr => ?_⟩
  · obtain ⟨m0, a, b, c, ⟨rfl, d⟩ | ⟨d1, d2, d3, d4⟩⟩ := ends_mem hm
    · exact h1 _ a hw
    · have := back_le ok now m0.came
      exact ⟨by omega, by rw [c]; exact d4⟩
  · obtain ⟨m0, a, b, c, ⟨rfl, d⟩ | ⟨d1, d2, d3, d4⟩⟩ := ends_mem hm
    · rcases d with d | d
      · rw [hw] at d; cases d
      · obtain ⟨r, hr, hs⟩ := has_iff.1 d
        refine has_iff.2 ⟨r, hr, ?_⟩
        have := (h2 _ a r hr).nf
        simp at hs ⊢
        omega
    · rw [d2] at hw; cases hw
  · obtain ⟨m0, a, b, c, -⟩ := ends_mem hm
    exact h2 m0 a r (by rw [← c]; exact hr)
/-- Where nobody in hand is deferred, an end of rounds makes nobody wait. -/
theorem ends_nd {lm : Lm} {now : Int} {ms : List Ml} (h : Nd ms) : Nd (endsM lm now ms) ∧ wc (endsM lm now ms) ≤ wc ms := by
  constructor
  · intro m hm hw r hr
    obtain ⟨m0, a, b, c, ⟨rfl, d⟩ | ⟨d1, d2, d3, d4⟩⟩ := ends_mem hm
    · exact h _ a hw r hr
    · rw [d2] at hw; cases hw
  · unfold endsM
    have e : (ms.filter fun m => !gone m).map (wait lm now) = ms.filter fun m => !gone m := by
      have : (ms.filter fun m => !gone m).map (wait lm now) = (ms.filter fun m => !gone m).map id := by
        refine List.map_congr_left fun m hm => ?_
        obtain ⟨h1, h2⟩ := List.mem_filter.1 hm
        show wait lm now m = m
        unfold wait
        split
        · rfl
        · rename_i hw
          split
          · rename_i h3
            exfalso
            simp only [Bool.or_eq_true, not_or, Bool.not_eq_true] at hw
            obtain ⟨r, hr, hs⟩ := has_iff.1 h3
            exact h m h1 hw.1 r hr (by simpa using hs)
          · rfl
      rw [this, List.map_id]
    rw [e]
    exact ((List.filter_sublist (l := ms)).filter _).length_le

/-! ### Next has none: all wait -/
theorem none_waits {lm : Lm} {q : Qs} {T : Int} (h : EnI lm q T) (hn : Qm.next q = none) : ∀ m ∈ q.ms, m.waits = true := by
  intro m hm
  cases hw : m.waits with
  | true => rfl
  | false =>
    exfalso
    obtain ⟨r, hr, hs⟩ := has_iff.1 (h.hd m hm hw)
    have hs : r.st = 1 := by simpa using hs
    obtain ⟨d, hd, e1, e2⟩ := (h.rc m hm r hr).lv hs
    obtain ⟨i, hi, rfl⟩ := List.getElem_of_mem hd
    have hsv : serves q.ds[i].name m = true := by
      unfold serves
      rw [hw, Bool.not_false, Bool.true_and, List.any_eq_true]
      exact ⟨r, hr, by simp [goes, hs, e1]⟩
    have hsi : sIdx q.ms q.ds[i].name < q.ms.length := List.findIdx_lt_length_of_exists ⟨m, hm, hsv⟩
    have hf := h.dso.f0 _ hd
    have hlt : q.turn % q.ds.length < q.ds.length := Nat.mod_lt _ (by omega)
    have hk : ∃ k, k < q.ds.length ∧ spot q k = i := by
      unfold spot
      rcases Nat.lt_or_ge i (q.turn % q.ds.length) with f | f
      · refine ⟨i + q.ds.length - q.turn % q.ds.length, by omega, ?_⟩
        rw [Nat.add_mod, Nat.mod_eq_of_lt (a := i + q.ds.length - q.turn % q.ds.length) (by omega), show q.turn % q.ds.length + (i + q.ds.length - q.turn % q.ds.length) = i + q.ds.length by omega, Nat.add_mod_right, Nat.mod_eq_of_lt hi]
      · refine ⟨i - q.turn % q.ds.length, by omega, ?_⟩
        rw [Nat.add_mod, Nat.mod_eq_of_lt (a := i - q.turn % q.ds.length) (by omega), show q.turn % q.ds.length + (i - q.turn % q.ds.length) = i by omega, Nat.mod_eq_of_lt hi]
    obtain ⟨k, hk, e⟩ := hk
    have hh : hit q k = true := by
      unfold hit
      rw [e, List.getElem?_eq_getElem hi]
      simp only [Bool.and_eq_true, decide_eq_true_eq]
      exact ⟨hsi, by omega⟩
    have ht : turnsTo q < q.ds.length := by
      have := List.findIdx_lt_length_of_exists (p := hit q) (xs := List.range q.ds.length) ⟨k, List.mem_range.2 hk, hh⟩
      rwa [List.length_range] at this
    have hth : hit q (turnsTo q) = true := by
      have h2 : (List.range q.ds.length).findIdx (hit q) < (List.range q.ds.length).length := by rw [List.length_range]; exact ht
      have := List.findIdx_getElem (p := hit q) (w := h2)
      simpa [turnsTo] using this
    unfold Qm.next at hn
    unfold hit at hth
    split at hn
    · rename_i e0; rw [e0] at hth; cases hth
    · rename_i d e0
      rw [e0] at hth
      simp only [Bool.and_eq_true, decide_eq_true_eq] at hth
      rw [if_pos ht, List.getElem?_eq_getElem hth.1] at hn
      cases hn
end Go.Proofs.Ytnakafmlenngnaa.Qm

/- Ends in plain terms: a job and its answer, a new message, one in hand again: what each leaves. -/
namespace Go.Proofs.Ytnakafmlenngnaa.Qm
open Go.Proofs.Ytnakafmlenngnaa.Wi

theorem mIdx_at {ms : List Ml} (hn : (ms.map (·.id)).Nodup) {a : Nat} {m : Ml} (h : ms[a]? = some m) : mIdx ms m.id = a := by
  obtain ⟨ha, e⟩ := List.getElem?_eq_some_iff.1 h
  have hl := mIdx_mem (id := m.id) (List.mem_of_getElem? h) rfl
  have h1 : (ms.map (·.id))[mIdx ms m.id]? = (ms.map (·.id))[a]? := by
    rw [List.getElem?_map, List.getElem?_map, h, List.getElem?_eq_getElem hl]
    exact congrArg some (mIdx_get (List.getElem?_eq_getElem hl))
  exact (List.getElem?_inj (by simpa using hl) hn).1 h1
theorem dIdx_at {ds : List Ds} (hn : (ds.map (·.name)).Nodup) {a : Nat} {d : Ds} (h : ds[a]? = some d) : dIdx ds d.name = a := by
  obtain ⟨ha, e⟩ := List.getElem?_eq_some_iff.1 h
  have hl : dIdx ds d.name < ds.length := List.findIdx_lt_length_of_exists ⟨d, List.mem_of_getElem? h, by simp⟩
  have hg : ds[dIdx ds d.name].name = d.name := of_decide_eq_true (List.findIdx_getElem (p := fun x : Ds => decide (x.name = d.name)) (w := hl))
  have h1 : (ds.map (·.name))[dIdx ds d.name]? = (ds.map (·.name))[a]? := by
    rw [List.getElem?_map, List.getElem?_map, h, List.getElem?_eq_getElem hl]
    exact congrArg some hg
  exact (List.getElem?_inj (by simpa using hl) hn).1 h1

/-- More destinations, none of those that live gone. -/
structure Wider (ds ds' : List Ds) : Prop where
  nm : ∀ n, Nm ds n → Nm ds' n
  lv : ∀ n, Live ds n → Live ds' n
theorem Wider.refl (ds : List Ds) : Wider ds ds := ⟨fun _ h => h, fun _ h => h⟩
theorem Wider.trans {a b c : List Ds} (h : Wider a b) (h2 : Wider b c) : Wider a c := ⟨fun n x => h2.nm n (h.nm n x), fun n x => h2.lv n (h.lv n x)⟩
theorem RcOk.wider {ds ds' : List Ds} {r : Rc} (h : RcOk ds r) (hw : Wider ds ds') : RcOk ds' r := ⟨fun x => hw.nm _ (h.nm x), fun x => hw.lv _ (h.lv x), h.nf⟩
theorem set_nm {ds : List Ds} {i : Nat} {d d' : Ds} (hd : ds[i]? = some d) (he : d'.name = d.name) {n : ByteArray} (h : Nm ds n) : Nm (ds.set i d') n := by
  obtain ⟨x, h1, h2⟩ := h
  obtain ⟨k, hk, rfl⟩ := List.getElem_of_mem h1
  obtain ⟨hi, e⟩ := List.getElem?_eq_some_iff.1 hd
  by_cases hki : i = k
  · subst hki
    exact ⟨d', List.mem_iff_getElem.2 ⟨i, by simpa using hk, by simp⟩, by rw [he, ← e]; exact h2⟩
  · exact ⟨_, List.mem_iff_getElem.2 ⟨k, by simpa using hk, by rw [List.getElem_set_ne hki]⟩, h2⟩
theorem set_live {ds : List Ds} {i : Nat} {d d' : Ds} (hd : ds[i]? = some d) (he : d'.name = d.name) {n : ByteArray} (h : Live ds n) (hn : n ≠ d.name ∨ 1 ≤ d'.s) : Live (ds.set i d') n := by
  obtain ⟨x, h1, h2, h3⟩ := h
  obtain ⟨k, hk, rfl⟩ := List.getElem_of_mem h1
  obtain ⟨hi, e⟩ := List.getElem?_eq_some_iff.1 hd
  by_cases hki : i = k
  · subst hki
    rcases hn with hn | hn
    · exact absurd (by rw [← h2, e]) hn
    · exact ⟨d', List.mem_iff_getElem.2 ⟨i, by simpa using hk, by simp⟩, by rw [he, ← e]; exact h2, hn⟩
  · exact ⟨_, List.mem_iff_getElem.2 ⟨k, by simpa using hk, by rw [List.getElem_set_ne hki]⟩, h2, h3⟩

theorem upS_pos {l s c : Nat} (h : 1 ≤ s) (hl : 1 ≤ l) : 1 ≤ upS l s c := by
  unfold upS
  repeat' split
  all_goals omega

theorem ends_len (lm : Lm) (now : Int) (ms : List Ml) : (endsM lm now ms).length ≤ ms.length := by
  unfold endsM
  rw [List.length_map]
  exact List.length_filter_le _ _

theorem has_off {n : ByteArray} {rs : List Rc} (h : hasIn [3] rs = true) : hasIn [3] (rs.map (offR n)) = true := by
  obtain ⟨r, hr, hs⟩ := has_iff.1 h
  have hs : r.st = 3 := by simpa using hs
  refine has_iff.2 ⟨offR n r, List.mem_map_of_mem hr, ?_⟩
  unfold offR
  split
  · simp
  · simp [hs]

/-- A job, answered at once. -/
theorem EnI.step {lm : Lm} {q q1 : Qs} {T : Int} {j : Jb} (h : EnI lm q T) (hn : Qm.next q = some (j, q1)) (res : List Int) (hl : res.length = j.rs.length) (hv : ∀ v ∈ res, v = 1 ∨ v = 2) (g : Bool) (now : Int) (ht : isT now = true) (hT : now + lm.maxb ≤ T) :
    ∃ q2, Qm.done q1 j res g now = (0, q2) ∧ EnI lm q2 T ∧ Qn q2.ms < Qn q.ms ∧ q2.ms.length ≤ q.ms.length ∧ q2.ds.length = q.ds.length ∧ (g = true → (∀ v ∈ res, v ≠ 1) → Nd q.ms → Nd q2.ms ∧ wc q2.ms ≤ wc q.ms) := by
  obtain ⟨hi1, -, hne, -⟩ := h.inv.next hn
  obtain ⟨i, d, a, m, hd, hf, hm, hsv, e1, e2⟩ := (next_begun hn).ex
  have hmw : m.waits = false := by
    unfold serves at hsv
    simp only [Bool.and_eq_true, Bool.not_eq_true'] at hsv
    exact hsv.1
  have hmm := List.mem_of_getElem? hm
  have hdm := List.mem_of_getElem? hd
  obtain ⟨ha, ema⟩ := List.getElem?_eq_some_iff.1 hm
  obtain ⟨hii, edi⟩ := List.getElem?_eq_some_iff.1 hd
  have f0 := h.dso.f0 d hdm
  have hjr : j.rs = (tk d.name m.rs).2 := by rw [e2]; rfl
  have hjd : j.dest = d.name := by rw [e2]; rfl
  have hji : j.id = m.id := by rw [e2]; rfl
  have hms1 : q1.ms = q.ms.set a { m with rs := (tk d.name m.rs).1 } := by rw [e1]; rfl
  have hds1 : q1.ds = q.ds.set i { d with f := d.f + 1 } := by rw [e1]; rfl
  have hjb1 : q1.jobs = [j] := by rw [e1, e2]; show q.jobs ++ [_] = _; rw [h.nj]; rfl
  have hlm1 : q1.lm = lm := by rw [e1]; exact h.lme
  have hm1 : q1.ms[a]? = some { m with rs := (tk d.name m.rs).1 } := by rw [hms1, List.getElem?_set_self ha]
  have hd1 : q1.ds[i]? = some { d with f := d.f + 1 } := by rw [hds1, List.getElem?_set_self hii]
  have ea : mIdx q1.ms j.id = a := by rw [hji]; exact mIdx_at (m := { m with rs := (tk d.name m.rs).1 }) hi1.ids hm1
  have ei : dIdx q1.ds j.dest = i := by rw [hjd]; exact dIdx_at (d := { d with f := d.f + 1 }) hi1.names hd1
  have hi1l : i < q1.ds.length := (List.getElem?_eq_some_iff.1 hd1).1
  have emk : mkD q1.lm q1.ds j.dest = q1.ds := by unfold mkD; rw [if_pos (by rw [ei]; exact hi1l)]
  have ejx : jIdx q1.jobs j = 0 := by rw [hjb1]; simp [jIdx, List.findIdx_cons]
  have hok : doneOk j res now = true := by
    unfold doneOk
    rw [ht, decide_eq_true hl, Bool.true_and, Bool.true_and, Bool.not_eq_true', List.any_eq_false]
    intro v hx
    have := hv v hx
    simp only [Bool.or_eq_true, decide_eq_true_eq]
    omega
  have hdone : Qm.done q1 j res g now = (0, doneAt q1 a 0 { m with rs := (tk d.name m.rs).1 } j res g now { d with f := d.f + 1 }) := by
    unfold Qm.done
    rw [hok, emk, ea, ei, hm1, hd1, ejx, hjb1]
    rfl
  have hinv2 := hi1.done j res g now
  rw [hdone] at hinv2
  have hrs : (j.rs.zip res).foldl settle (tk d.name m.rs).1 = r2 d.name m.rs res := by rw [hjr]; rfl
  have hset : q1.ms.set a { m with rs := r2 d.name m.rs res } = q.ms.set a { m with rs := r2 d.name m.rs res } := by rw [hms1, List.set_set]
  have hrl : res.length = (tk d.name m.rs).2.length := by rw [hl, hjr]
  have hsp := r2_spec d.name m.rs res hrl
  have hrc : ∀ x ∈ q.ms.set a { m with rs := r2 d.name m.rs res }, ∀ r ∈ x.rs, RcOk q.ds r := by
    intro x hx r hr
    rcases List.mem_or_eq_of_mem_set hx with f | rfl
    · exact h.rc x f r hr
    · obtain ⟨k, hk, rfl⟩ := List.getElem_of_mem hr
      obtain ⟨r0, k1, k2, k3⟩ := hsp k _ (List.getElem?_eq_getElem hk)
      have hr0 := h.rc m hmm r0 (List.mem_of_getElem? k1)
      rcases k3 with ⟨-, k3⟩ | ⟨-, k3, v, -, k4⟩
      · exact ⟨fun e => by rw [k2]; exact hr0.nm (by rw [← k3]; exact e), fun e => by rw [k2]; exact hr0.lv (by rw [← k3]; exact e), by rw [k3]; exact hr0.nf⟩
      · refine ⟨fun e => by rw [k2]; exact hr0.nm (by omega), fun e => ?_, fun e => ?_⟩
        · dsimp only at k4 e; split at k4 <;> omega
        · dsimp only at k4 e; split at k4 <;> omega
  have hwt : ∀ x ∈ q.ms.set a { m with rs := r2 d.name m.rs res }, x.waits = true → x.due ≤ T ∧ hasIn [3] x.rs = true := by
    intro x hx hw
    rcases List.mem_or_eq_of_mem_set hx with f | rfl
    · exact h.wt x f hw
    · have hw : m.waits = true := hw
      rw [hmw] at hw; cases hw
  have hqn : Qn (q.ms.set a { m with rs := r2 d.name m.rs res }) < Qn q.ms := by
    have h1 := Qn_set hm { m with rs := r2 d.name m.rs res }
    have h2 := (qn_le (a := m.rs) (b := r2 d.name m.rs res) (r2_len ..) fun k r' hk hr => by
      obtain ⟨r0, k1, k2, ⟨-, k3⟩ | ⟨-, k3, v, -, k4⟩⟩ := hsp k r' hk
      · exact ⟨r0, k1, by omega⟩
      · exact ⟨r0, k1, k3⟩).2 (by
      obtain ⟨k, l, ek⟩ := List.exists_cons_of_ne_nil hne
      have hk : k ∈ (tk d.name m.rs).2 := by rw [← hjr, ek]; simp
      have hk1 := ((take_spec d.name m.rs).2.2.1 k hk).1
      have hkl := stAt_lt hk1
      have hkl2 : k < (r2 d.name m.rs res).length := by rw [r2_len]; exact hkl
      obtain ⟨r0, k1, k2, k3⟩ := hsp k _ (List.getElem?_eq_getElem hkl2)
      refine ⟨k, r0, _, k1, List.getElem?_eq_getElem hkl2, ?_, ?_⟩
      · unfold stAt at hk1; rw [k1] at hk1; injection hk1
      · rcases k3 with ⟨k3, -⟩ | ⟨-, -, v, -, k4⟩
        · exact absurd hk k3
        · split at k4 <;> omega)
    dsimp only at h1
    omega
  have ok := h.ok
  have hminb : lm.minb ≤ lm.maxb := ok.2.2.2.2.2.2.1
  have hs1 : 1 ≤ d.s := by omega
  have hnd : (∀ v ∈ res, v ≠ 1) → Nd q.ms → Nd (q.ms.set a { m with rs := r2 d.name m.rs res }) ∧ wc (q.ms.set a { m with rs := r2 d.name m.rs res }) ≤ wc q.ms := by
    intro hr hN
    constructor
    · intro x hx hw r hxr
      rcases List.mem_or_eq_of_mem_set hx with f | rfl
      · exact hN x f hw r hxr
      · obtain ⟨k, hk, rfl⟩ := List.getElem_of_mem hxr
        obtain ⟨r0, k1, k2, ⟨-, k3⟩ | ⟨-, k3, v, k5, k4⟩⟩ := hsp k _ (List.getElem?_eq_getElem hk)
        · rw [k3]
          exact hN m hmm hmw r0 (List.mem_of_getElem? k1)
        · rw [if_neg (hr v k5)] at k4
          dsimp only at k4 ⊢
          omega
    · have h1 := wc_hand q.ms
      have h2 := wc_hand (q.ms.set a { m with rs := r2 d.name m.rs res })
      have h3 := hand_same (a := q.ms.set a { m with rs := r2 d.name m.rs res }) (b := q.ms) (map_set_self (fun m : Ml => m.waits) _ _ _ fun y hy => by rw [hm] at hy; injection hy with hy; subst hy; rfl)
      rw [List.length_set] at h2
      omega
  have hdn : ∀ (s c : Nat) (rv : Int) (d' : Ds), d' ∈ q1.ds.set i { d with f := d.f + 1 - 1, s := s, c := c, rev := rv } → d' ∈ q.ds ∨ d' = { d with f := 0, s := s, c := c, rev := rv } := by
    intro s c rv d' hx
    rw [hds1, List.set_set] at hx
    rcases List.mem_or_eq_of_mem_set hx with f | f
    · exact .inl f
    · exact .inr (by rw [f, f0])
  refine ⟨_, hdone, ?_⟩
  unfold doneAt at hinv2 ⊢
  rw [emk, ei, hrs, hset, hjb1, hlm1] at hinv2 ⊢
  have hdD : doneD lm g { d with f := d.f + 1 } = { d with s := doneS g lm.lim d.s d.c (d.f + 1), c := doneC g d.s d.c (d.f + 1), f := d.f + 1 - 1 } := rfl
  rw [hdD] at hinv2 ⊢
  dsimp only at hinv2 ⊢
  by_cases hz : doneS g lm.lim d.s d.c (d.f + 1) = 0
  · rw [if_pos hz] at hinv2 ⊢
    have hrc2 : ∀ x ∈ (q.ms.set a { m with rs := r2 d.name m.rs res }).map (offM d.name), ∀ r ∈ x.rs, RcOk (q1.ds.set i { d with s := doneS g lm.lim d.s d.c (d.f + 1), c := doneC g d.s d.c (d.f + 1), f := d.f + 1 - 1, rev := now + lm.minb }) r := by
      intro x hx r hr
      rw [hds1, List.set_set]
      obtain ⟨x0, h0, rfl⟩ := List.mem_map.1 hx
      obtain ⟨r0, h1, rfl⟩ := List.mem_map.1 hr
      have hr0 := hrc x0 h0 r0 h1
      unfold offR
      split
      · rename_i hg
        unfold goes at hg
        simp only [Bool.and_eq_true, decide_eq_true_eq] at hg
        exact ⟨fun _ => set_nm hd (by rfl) (hr0.nm (by omega)), fun e => (by cases e), fun e => (by cases e)⟩
      · rename_i hg
        unfold goes at hg
        simp only [Bool.and_eq_true, decide_eq_true_eq, not_and] at hg
        exact ⟨fun e => set_nm hd (by rfl) (hr0.nm e), fun e => set_live hd (by rfl) (hr0.lv e) (.inl (hg e)), hr0.nf⟩
    obtain ⟨o1, o2, o3⟩ := ends_ok ok hT (by
      intro x hx hw
      obtain ⟨x0, h0, rfl⟩ := List.mem_map.1 hx
      obtain ⟨y1, y2⟩ := hwt x0 h0 hw
      exact ⟨y1, has_off y2⟩) hrc2
    refine ⟨⟨ok, rfl, hinv2, rfl, ⟨fun d' hx => ?_, fun d' hx hs => ?_⟩, o1, o2, o3⟩, ?_, ?_, by simp [hds1], ?_⟩
    · rcases hdn _ _ _ d' hx with f | rfl
      · exact h.dso.f0 d' f
      · rfl
    · rcases hdn _ _ _ d' hx with f | rfl
      · exact h.dso.rv d' f hs
      · dsimp only; omega
    · refine Nat.lt_of_le_of_lt (Qn_ends _ _ _) (Nat.lt_of_le_of_lt (Qn_map _ fun x _ => ?_) hqn)
      exact qn_off _ _
    · refine Nat.le_trans (ends_len _ _ _) ?_
      simp
    · intro hg
      subst hg
      exfalso
      unfold doneS at hz
      rw [if_neg (by omega), if_neg (by omega), if_pos rfl] at hz
      have := upS_pos (l := lm.lim) (c := d.c) hs1 (by have := ok.2.2.1; have := ok.2.2.2.1; omega)
      omega
  · rw [if_neg hz] at hinv2 ⊢
    have hrc2 : ∀ x ∈ q.ms.set a { m with rs := r2 d.name m.rs res }, ∀ r ∈ x.rs, RcOk (q1.ds.set i { d with s := doneS g lm.lim d.s d.c (d.f + 1), c := doneC g d.s d.c (d.f + 1), f := d.f + 1 - 1 }) r := by
      intro x hx r hr
      rw [hds1, List.set_set]
      have hr0 := hrc x hx r hr
      exact ⟨fun e => set_nm hd (by rfl) (hr0.nm e), fun e => set_live hd (by rfl) (hr0.lv e) (.inr (by dsimp only; omega)), hr0.nf⟩
    obtain ⟨o1, o2, o3⟩ := ends_ok ok hT hwt hrc2
    refine ⟨⟨ok, rfl, hinv2, rfl, ⟨fun d' hx => ?_, fun d' hx hs => ?_⟩, o1, o2, o3⟩, ?_, ?_, by simp [hds1], ?_⟩
    · rcases hdn _ _ d.rev d' hx with f | rfl
      · exact h.dso.f0 d' f
      · rfl
    · rcases hdn _ _ d.rev d' hx with f | rfl
      · exact h.dso.rv d' f hs
      · exact absurd hs hz
    · exact Nat.lt_of_le_of_lt (Qn_ends _ _ _) hqn
    · refine Nat.le_trans (ends_len _ _ _) ?_
      simp
    · intro _ hr hN
      obtain ⟨n1, n2⟩ := hnd hr hN
      obtain ⟨n3, n4⟩ := ends_nd (lm := lm) (now := now) n1
      exact ⟨n3, Nat.le_trans n4 n2⟩

/-! ### To queue: none is dead -/
theorem mkD_ok {lm : Lm} (ok : lm.Ok) {ds : List Ds} {T : Int} (h : DsOk ds T) (n : ByteArray) : DsOk (mkD lm ds n) T ∧ Wider ds (mkD lm ds n) ∧ (Nm ds n → mkD lm ds n = ds) := by
  unfold mkD
  split
  · exact ⟨h, .refl _, fun _ => rfl⟩
  · rename_i hl
    refine ⟨⟨fun d hd => ?_, fun d hd hs => ?_⟩, ⟨fun n' ⟨d, hd, e⟩ => ⟨d, List.mem_append_left _ hd, e⟩, fun n' ⟨d, hd, e⟩ => ⟨d, List.mem_append_left _ hd, e⟩⟩, fun ⟨d, hd, e⟩ => ?_⟩
    · rcases List.mem_append.1 hd with f | f
      · exact h.f0 d f
      · simp only [List.mem_singleton] at f; subst f; rfl
    · rcases List.mem_append.1 hd with f | f
      · exact h.rv d f hs
      · simp only [List.mem_singleton] at f
        subst f
        have := ok.2.2.1
        dsimp only at hs
        omega
    · exact absurd (List.findIdx_lt_length_of_exists ⟨d, hd, by simp [e]⟩) hl
theorem queue_ok {lm : Lm} (ok : lm.Ok) {ds : List Ds} {now : Int} (h : DsOk ds now) (n : ByteArray) :
    (queueD lm ds n now).2 = 1 ∧ DsOk (queueD lm ds n now).1 now ∧ Wider ds (queueD lm ds n now).1 ∧ Live (queueD lm ds n now).1 n ∧ (Nm ds n → (queueD lm ds n now).1.length = ds.length) := by
  obtain ⟨h1, h2, h3⟩ := mkD_ok ok h n
  obtain ⟨d, hd, hdn⟩ := mkD_idx lm ds n
  have hdm := List.mem_of_getElem? hd
  have hsh : shut d now = false := by
    unfold shut
    by_cases hs : d.s = 0
    · have := h1.rv d hdm hs
      simp [hs]; omega
    · simp [hs]
  unfold queueD
  rw [hd]
  dsimp only
  rw [hsh]
  have hini := ok.2.2.1
  have hrs : 1 ≤ (revD lm d).s := by
    show 1 ≤ revS lm.ini d.s
    unfold revS
    split <;> omega
  refine ⟨rfl, ⟨fun d' hx => ?_, fun d' hx hs => ?_⟩, ⟨fun n' hn => set_nm hd (by rfl) (h2.nm n' hn), fun n' hn => set_live hd (by rfl) (h2.lv n' hn) (.inr hrs)⟩, ?_, fun hn => ?_⟩
  · rcases List.mem_or_eq_of_mem_set hx with f | rfl
    · exact h1.f0 d' f
    · exact h1.f0 d hdm
  · rcases List.mem_or_eq_of_mem_set hx with f | rfl
    · exact h1.rv d' f hs
    · omega
  · exact ⟨revD lm d, List.mem_iff_getElem.2 ⟨dIdx ds n, by simpa using (List.getElem?_eq_some_iff.1 hd).1, by simp⟩, hdn, hrs⟩
  · show ((mkD lm ds n).set _ _).length = _
    rw [List.length_set, h3 hn]

theorem ends_id {lm : Lm} {now : Int} {ms : List Ml} (h : ∀ m ∈ ms, m.waits = true ∨ hasIn [1] m.rs = true) : endsM lm now ms = ms := by
  unfold endsM
  have h12 : ∀ m ∈ ms, (m.waits || hasIn [1, 2] m.rs) = true := by
    intro m hm
    rcases h m hm with f | f
    · rw [f]; rfl
    · obtain ⟨r, hr, hs⟩ := has_iff.1 f
      have : hasIn [1, 2] m.rs = true := has_iff.2 ⟨r, hr, by simp at hs; simp [hs]⟩
      rw [this, Bool.or_true]
  have e1 : (ms.filter fun m => !gone m) = ms := by
    rw [List.filter_eq_self]
    intro m hm
    unfold gone
    rw [h12 m hm]; rfl
  rw [e1]
  have : ms.map (wait lm now) = ms.map id := List.map_congr_left fun m hm => by
    show wait lm now m = m
    unfold wait
    rw [if_pos (h12 m hm)]
  rw [this, List.map_id]

/-! ### Add -/
theorem addFold_ok {lm : Lm} (ok : lm.Ok) {now : Int} (D : List ByteArray) : ∀ x : List Ds × List Rc, DsOk x.1 now → (∀ r ∈ x.2, RcOk x.1 r ∧ r.st ≠ 3) →
    DsOk (D.foldl (addTo lm now) x).1 now ∧ Wider x.1 (D.foldl (addTo lm now) x).1 ∧ (∀ r ∈ (D.foldl (addTo lm now) x).2, RcOk (D.foldl (addTo lm now) x).1 r ∧ r.st ≠ 3) ∧
      (((∃ r ∈ x.2, r.st = 1) ∨ ∃ d ∈ D, d.size ≠ 0) → ∃ r ∈ (D.foldl (addTo lm now) x).2, r.st = 1) := by
  induction D with
  | nil => exact fun x h1 h2 => ⟨h1, .refl _, h2, fun h => h.elim id fun ⟨d, hd, _⟩ => by cases hd⟩
  | cons d D ih =>
    intro x h1 h2
    rw [List.foldl_cons]
    obtain ⟨q1, q2, q3, q4, -⟩ := queue_ok ok h1 d
    have key : DsOk (addTo lm now x d).1 now ∧ Wider x.1 (addTo lm now x d).1 ∧ (∀ r ∈ (addTo lm now x d).2, RcOk (addTo lm now x d).1 r ∧ r.st ≠ 3) ∧ ((∃ r ∈ x.2, r.st = 1) ∨ d.size ≠ 0 → ∃ r ∈ (addTo lm now x d).2, r.st = 1) := by
      unfold addTo
      split
      · rename_i hz
        refine ⟨h1, .refl _, fun r hr => ?_, fun h => ?_⟩
        · rcases List.mem_append.1 hr with f | f
          · exact h2 r f
          · simp only [List.mem_singleton] at f
            subst f
            exact ⟨⟨fun e => absurd rfl e, fun e => (by cases e), fun e => (by cases e)⟩, fun e => (by cases e)⟩
        · rcases h with ⟨r, hr, hs⟩ | f
          · exact ⟨r, List.mem_append_left _ hr, hs⟩
          · exact absurd hz f
      · refine ⟨q2, q3, fun r hr => ?_, fun _ => ⟨_, List.mem_append_right _ (List.mem_singleton.2 rfl), q1⟩⟩
        rcases List.mem_append.1 hr with f | f
        · exact ⟨(h2 r f).1.wider q3, (h2 r f).2⟩
        · simp only [List.mem_singleton] at f
          subst f
          dsimp only
          rw [q1]
          exact ⟨⟨fun _ => by obtain ⟨d', e1, e2, -⟩ := q4; exact ⟨d', e1, e2⟩, fun _ => q4, fun e => (by cases e)⟩, fun e => (by cases e)⟩
    obtain ⟨k1, k2, k3, k4⟩ := key
    obtain ⟨i1, i2, i3, i4⟩ := ih _ k1 k3
    refine ⟨i1, k2.trans i2, i3, fun h => i4 ?_⟩
    rcases h with h | ⟨d', hd', hs⟩
    · exact .inl (k4 (.inl h))
    · rcases List.mem_cons.1 hd' with rfl | f
      · exact .inl (k4 (.inr hs))
      · exact .inr ⟨d', f, hs⟩

theorem EnI.add {lm : Lm} {q : Qs} {now : Int} (h : EnI lm q now) (hN : Nd q.ms) (id : ByteArray) (came : Int) (D : List ByteArray) :
    EnI lm (Qm.add q id came D now).2 now ∧ Nd (Qm.add q id came D now).2.ms ∧ (Qm.add q id came D now).2.ms.length ≤ q.ms.length + 1 ∧ (Qm.add q id came D now).2.ds.length ≤ q.ds.length + D.length ∧
      ((Qm.add q id came D now).1 = 221 → (Qm.add q id came D now).2 = q ∧ 1 ≤ inHand q.ms) := by
  have hinv := h.inv.add id came D now
  have hdl : (Qm.add q id came D now).2.ds.length ≤ q.ds.length + D.length := (add_lengths q id came D now).2.1
  have key : (Qm.add q id came D now).2 = q ∧ ((Qm.add q id came D now).1 = 221 → 1 ≤ inHand q.ms) ∨ (addOk id came D now = true ∧ (Qm.add q id came D now) = (0, { q with ds := (D.foldl (addTo q.lm now) (q.ds, [])).1, ms := endsM q.lm now (q.ms ++ [⟨id, came, (D.foldl (addTo q.lm now) (q.ds, [])).2, false, 0⟩]) })) := by
    unfold Qm.add
    split
    · exact .inl ⟨rfl, fun e => (by cases e)⟩
    split
    · exact .inl ⟨rfl, fun e => (by cases e)⟩
    split
    · rename_i hf
      refine .inl ⟨rfl, fun _ => ?_⟩
      unfold full at hf
      have := of_decide_eq_true hf
      have h2 := h.ok.1
      rw [h.lme] at this
      omega
    · rename_i ho _ _
      exact .inr ⟨by simpa using ho, rfl⟩
  rcases key with ⟨e, e2⟩ | ⟨ho, e⟩
  · refine ⟨by rw [e]; exact h, by rw [e]; exact hN, by rw [e]; omega, hdl, fun hf => ⟨e, e2 hf⟩⟩
  · rw [e] at hinv hdl ⊢
    obtain ⟨a1, a2, a3, a4⟩ := addFold_ok (lm := q.lm) (by rw [h.lme]; exact h.ok) (now := now) D (q.ds, []) h.dso (fun r hr => by cases hr)
    obtain ⟨r, hr, hs⟩ := a4 (.inr (by
      unfold addOk at ho
      simp only [Bool.and_eq_true] at ho
      obtain ⟨d, hd, hz⟩ := List.any_eq_true.1 ho.2
      exact ⟨d, hd, of_decide_eq_true hz⟩))
    have hid : endsM q.lm now (q.ms ++ [⟨id, came, (D.foldl (addTo q.lm now) (q.ds, [])).2, false, 0⟩]) = q.ms ++ [⟨id, came, (D.foldl (addTo q.lm now) (q.ds, [])).2, false, 0⟩] := by
      refine ends_id fun m hm => ?_
      rcases List.mem_append.1 hm with f | f
      · cases hw : m.waits with
        | true => exact .inl rfl
        | false => exact .inr (h.hd m f hw)
      · simp only [List.mem_singleton] at f
        subst f
        exact .inr (has_iff.2 ⟨r, hr, by simp [hs]⟩)
    dsimp only at hinv ⊢
    rw [hid] at hinv ⊢
    refine ⟨⟨h.ok, h.lme, hinv, h.nj, a1, fun m hm hw => ?_, fun m hm hw => ?_, fun m hm x hx => ?_⟩, fun m hm hw x hx => ?_, by simp, hdl, fun e => (by cases e)⟩
    · rcases List.mem_append.1 hm with f | f
      · exact h.wt m f hw
      · simp only [List.mem_singleton] at f
        subst f
        cases hw
    · rcases List.mem_append.1 hm with f | f
      · exact h.hd m f hw
      · simp only [List.mem_singleton] at f
        subst f
        exact has_iff.2 ⟨r, hr, by simp [hs]⟩
    · rcases List.mem_append.1 hm with f | f
      · exact (h.rc m f x hx).wider a2
      · simp only [List.mem_singleton] at f
        subst f
        exact (a3 x hx).1
    · rcases List.mem_append.1 hm with f | f
      · exact hN m f hw x hx
      · simp only [List.mem_singleton] at f
        subst f
        exact (a3 x hx).2

/-! ### Again -/
theorem againFold_ok {lm : Lm} (ok : lm.Ok) {now : Int} (rs : List Rc) : ∀ x : List Ds × List Rc, DsOk x.1 now → (∀ r ∈ x.2, RcOk x.1 r ∧ r.st ≠ 3) → (∀ r ∈ rs, RcOk x.1 r) →
    DsOk (rs.foldl (againTo lm now) x).1 now ∧ Wider x.1 (rs.foldl (againTo lm now) x).1 ∧ (∀ r ∈ (rs.foldl (againTo lm now) x).2, RcOk (rs.foldl (againTo lm now) x).1 r ∧ r.st ≠ 3) ∧
      (((∃ r ∈ x.2, r.st = 1) ∨ ∃ r ∈ rs, r.st = 3) → ∃ r ∈ (rs.foldl (againTo lm now) x).2, r.st = 1) ∧ (rs.foldl (againTo lm now) x).1.length = x.1.length := by
  induction rs with
  | nil => exact fun x h1 h2 _ => ⟨h1, .refl _, h2, fun h => h.elim id fun ⟨d, hd, _⟩ => (by cases hd), rfl⟩
  | cons c rs ih =>
    intro x h1 h2 h0
    rw [List.foldl_cons]
    have hc := h0 c (List.mem_cons_self ..)
    obtain ⟨q1, q2, q3, q4, q5⟩ := queue_ok ok h1 c.dest
    have key : DsOk (againTo lm now x c).1 now ∧ Wider x.1 (againTo lm now x c).1 ∧ (∀ r ∈ (againTo lm now x c).2, RcOk (againTo lm now x c).1 r ∧ r.st ≠ 3) ∧ ((∃ r ∈ x.2, r.st = 1) ∨ c.st = 3 → ∃ r ∈ (againTo lm now x c).2, r.st = 1) ∧ (againTo lm now x c).1.length = x.1.length := by
      unfold againTo
      split
      · rename_i h3
        refine ⟨q2, q3, fun r hr => ?_, fun _ => ⟨_, List.mem_append_right _ (List.mem_singleton.2 rfl), q1⟩, q5 (hc.nm (by omega))⟩
        rcases List.mem_append.1 hr with f | f
        · exact ⟨(h2 r f).1.wider q3, (h2 r f).2⟩
        · simp only [List.mem_singleton] at f
          subst f
          dsimp only
          rw [q1]
          exact ⟨⟨fun _ => by obtain ⟨d', e1, e2, -⟩ := q4; exact ⟨d', e1, e2⟩, fun _ => q4, fun e => (by cases e)⟩, fun e => (by cases e)⟩
      · rename_i h3
        refine ⟨h1, .refl _, fun r hr => ?_, fun h => ?_, rfl⟩
        · rcases List.mem_append.1 hr with f | f
          · exact h2 r f
          · simp only [List.mem_singleton] at f
            subst f
            exact ⟨hc, h3⟩
        · rcases h with ⟨r, hr, hs⟩ | f
          · exact ⟨r, List.mem_append_left _ hr, hs⟩
          · exact absurd f h3
    obtain ⟨k1, k2, k3, k4, k5⟩ := key
    obtain ⟨i1, i2, i3, i4, i5⟩ := ih _ k1 k3 fun r hr => (h0 r (List.mem_cons_of_mem _ hr)).wider k2
    refine ⟨i1, k2.trans i2, i3, fun h => i4 ?_, i5.trans k5⟩
    rcases h with h | ⟨r, hr, hs⟩
    · exact .inl (k4 (.inl h))
    · rcases List.mem_cons.1 hr with rfl | f
      · exact .inl (k4 (.inr hs))
      · exact .inr ⟨r, f, hs⟩

theorem EnI.again {lm : Lm} {q : Qs} {now : Int} (h : EnI lm q now) (hN : Nd q.ms) (ht : isT now = true) (id : ByteArray) :
    EnI lm (Qm.again q id now).2 now ∧ Nd (Qm.again q id now).2.ms ∧ (Qm.again q id now).2.ms.length = q.ms.length ∧ (Qm.again q id now).2.ds.length = q.ds.length ∧
      ((1 ≤ inHand q.ms ∨ ∃ m ∈ q.ms, m.id = id) → 1 ≤ inHand (Qm.again q id now).2.ms) := by
  have hinv := h.inv.again id now
  have key : ((Qm.again q id now).2 = q ∧ ((∃ m ∈ q.ms, m.id = id) → 1 ≤ inHand q.ms)) ∨ ∃ m, q.ms[mIdx q.ms id]? = some m ∧ m.waits = true ∧ (Qm.again q id now) = (0, { q with ds := (m.rs.foldl (againTo q.lm now) (q.ds, [])).1, ms := endsM q.lm now (q.ms.set (mIdx q.ms id) { m with waits := false, due := 0, rs := (m.rs.foldl (againTo q.lm now) (q.ds, [])).2 }) }) := by
    unfold Qm.again
    rw [ht]
    split
    · rename_i e; simp at e
    split
    · rename_i e
      refine .inl ⟨rfl, fun ⟨m, hm, he⟩ => ?_⟩
      have := mIdx_mem hm he
      rw [List.getElem?_eq_getElem this] at e
      cases e
    · rename_i m hm
      split
      · rename_i hw
        refine .inl ⟨rfl, fun _ => ?_⟩
        unfold inHand
        exact List.length_pos_of_mem (List.mem_filter.2 ⟨List.mem_of_getElem? hm, hw⟩)
      · rename_i hw
        split
        · rename_i hf
          refine .inl ⟨rfl, fun _ => ?_⟩
          unfold full at hf
          have := of_decide_eq_true hf
          have h2 := h.ok.1
          rw [h.lme] at this
          omega
        · exact .inr ⟨m, hm, by simpa using hw, rfl⟩
  rcases key with ⟨e, e2⟩ | ⟨m, hm, hw, e⟩
  · rw [e]
    exact ⟨h, hN, rfl, rfl, fun hh => hh.elim (fun x => x) e2⟩
  · rw [e] at hinv ⊢
    have hmm := List.mem_of_getElem? hm
    obtain ⟨ha, ema⟩ := List.getElem?_eq_some_iff.1 hm
    obtain ⟨a1, a2, a3, a4, a5⟩ := againFold_ok (lm := q.lm) (by rw [h.lme]; exact h.ok) (now := now) m.rs (q.ds, []) h.dso (fun r hr => by cases hr) (h.rc m hmm)
    obtain ⟨r, hr, hs⟩ := a4 (.inr (by
      obtain ⟨r, hr, hs⟩ := has_iff.1 (h.wt m hmm hw).2
      exact ⟨r, hr, by simpa using hs⟩))
    generalize hF : m.rs.foldl (againTo q.lm now) (q.ds, []) = F at hinv a1 a2 a3 a5 hr ⊢
    have hid : endsM q.lm now (q.ms.set (mIdx q.ms id) { m with waits := false, due := 0, rs := F.2 }) = q.ms.set (mIdx q.ms id) { m with waits := false, due := 0, rs := F.2 } := by
      refine ends_id fun x hx => ?_
      rcases List.mem_or_eq_of_mem_set hx with f | rfl
      · cases hxw : x.waits with
        | true => exact .inl rfl
        | false => exact .inr (h.hd x f hxw)
      · exact .inr (has_iff.2 ⟨r, hr, by simp [hs]⟩)
    dsimp only at hinv ⊢
    rw [hid] at hinv ⊢
    refine ⟨⟨h.ok, h.lme, hinv, h.nj, a1, fun x hx hxw => ?_, fun x hx hxw => ?_, fun x hx y hy => ?_⟩, fun x hx hxw y hy => ?_, by simp, a5, fun _ => ?_⟩
    · rcases List.mem_or_eq_of_mem_set hx with f | rfl
      · exact h.wt x f hxw
      · cases hxw
    · rcases List.mem_or_eq_of_mem_set hx with f | rfl
      · exact h.hd x f hxw
      · exact has_iff.2 ⟨r, hr, by simp [hs]⟩
    · rcases List.mem_or_eq_of_mem_set hx with f | rfl
      · exact (h.rc x f y hy).wider a2
      · exact (a3 y hy).1
    · rcases List.mem_or_eq_of_mem_set hx with f | rfl
      · exact hN x f hxw y hy
      · exact (a3 y hy).2
    · unfold inHand
      exact List.length_pos_of_mem (List.mem_filter.2 ⟨List.mem_iff_getElem.2 ⟨mIdx q.ms id, by simpa using ha, List.getElem_set_self ..⟩, rfl⟩)
end Go.Proofs.Ytnakafmlenngnaa.Qm

/- Ends: what stands at the heads of the law's loops, in plain terms. -/
namespace Go.Proofs.Ytnakafmlenngnaa.Qm
open Go.RowKit Go.Proofs.Ytnakafmlenngnaa.Wi

theorem i64_and1 (n : Int) : bits .and .i64 n 1 = n % 2 := by
  have h1 : (BitVec.ofInt 64 1).toNat = 2 ^ 1 - 1 := by decide
  have key : (BitVec.ofInt 64 n &&& BitVec.ofInt 64 1).toNat = (n % ((2 ^ 64 : Nat) : Int)).toNat % 2 ^ 1 := by
    rw [BitVec.toNat_and, BitVec.toNat_ofInt, h1, Nat.and_two_pow_sub_one_eq_mod]
  show IntKind.i64.wrap ((BitVec.ofInt 64 n &&& BitVec.ofInt 64 1).toNat : Nat) = n % 2
  rw [key, IntKind.wrap_i64]
  omega

/-- How many answers there are. -/
def limR (res : List Int) : Nat := min res.length 100
/-- The answer at place k, and the first x answers from place k on. -/
def ansAt (res : List Int) (k : Nat) : Nat := if k < limR res then 1 + (res.getD k 0 % 2).toNat else 2
def ansK (res : List Int) (k x : Nat) : List Nat := (List.range x).map fun i => ansAt res (k + i)
def ansL (res : List Int) (k x : Nat) : List Int := (ansK res k x).map fun (n : Nat) => (n : Int)
def ansG (res : List Int) (k x : Nat) : Bool := (ansK res k x).all fun n => decide (n = 2)
theorem ansAt_cases (res : List Int) (k : Nat) : ansAt res k = 1 ∨ ansAt res k = 2 := by
  unfold ansAt
  split
  · omega
  · exact .inr rfl
theorem ansK_len (res : List Int) (k x : Nat) : (ansK res k x).length = x := by simp [ansK]
theorem ansL_len (res : List Int) (k x : Nat) : (ansL res k x).length = x := by simp [ansL, ansK]
theorem ansK_next (res : List Int) (k x : Nat) : ansK res k (x + 1) = ansK res k x ++ [ansAt res (k + x)] := by
  unfold ansK
  rw [List.range_succ, List.map_append]
  rfl
theorem ansG_next (res : List Int) (k x : Nat) : ansG res k (x + 1) = (ansG res k x && decide (ansAt res (k + x) = 2)) := by
  unfold ansG
  rw [ansK_next, List.all_append]
  simp
theorem ansL_mem (res : List Int) (k x : Nat) : ∀ v ∈ ansL res k x, v = 1 ∨ v = 2 := by
  intro v hv
  obtain ⟨n, hn, rfl⟩ := List.mem_map.1 hv
  obtain ⟨i, -, rfl⟩ := List.mem_map.1 hn
  rcases ansAt_cases res (k + i) with e | e <;> rw [e] <;> simp
theorem ansL_all (res : List Int) (k x : Nat) (hk : limR res ≤ k) : ansG res k x = true ∧ ∀ v ∈ ansL res k x, v ≠ 1 := by
  have h2 : ∀ i, ansAt res (k + i) = 2 := fun i => by unfold ansAt; rw [if_neg (by omega)]
  constructor
  · unfold ansG ansK
    rw [List.all_eq_true]
    intro n hn
    obtain ⟨i, -, rfl⟩ := List.mem_map.1 hn
    simp [h2]
  · intro v hv
    obtain ⟨n, hn, rfl⟩ := List.mem_map.1 hv
    obtain ⟨i, -, rfl⟩ := List.mem_map.1 hn
    rw [h2]; decide

/-! ### The inner loop -/
structure InnI (lm : Lm) (q0 : Qs) (k0 L : Nat) (q : Qs) (k : Nat) (T : Int) : Prop where
  en : EnI lm q T
  ml : q.ms.length ≤ q0.ms.length
  dl : q.ds.length = q0.ds.length
  k1 : k0 ≤ k
  k2 : k ≤ L
  pr : (q = q0 ∧ k = k0 ∧ k0 < L) ∨ k0 < k ∨ (k0 = L ∧ Nd q.ms ∧ wc q.ms ≤ wc q0.ms)
theorem InnI.start {lm : Lm} {q : Qs} {k L : Nat} {T : Int} (h : EnI lm q T) (hN : Nd q.ms) (hk : k ≤ L) : InnI lm q k L q k T :=
  ⟨h, Nat.le_refl _, rfl, Nat.le_refl _, hk, by
    rcases Nat.lt_or_ge k L with f | f
    · exact .inl ⟨rfl, rfl, f⟩
    · exact .inr (.inr ⟨by omega, hN, Nat.le_refl _⟩)⟩
theorem InnI.step {lm : Lm} {q0 q q1 : Qs} {k0 k : Nat} {T : Int} {j : Jb} {res : List Int} (h : InnI lm q0 k0 (limR res) q k T) (hn : Qm.next q = some (j, q1)) (now : Int) (ht : isT now = true) (hT : now + lm.maxb ≤ T) :
    ∃ q2, Qm.done q1 j (ansL res k j.rs.length) (ansG res k j.rs.length) now = (0, q2) ∧ InnI lm q0 k0 (limR res) q2 (min (k + j.rs.length) (limR res)) T ∧ Qn q2.ms < Qn q.ms := by
  have hne : 1 ≤ j.rs.length := List.length_pos_iff.2 (h.en.inv.next hn).2.2.1
  obtain ⟨q2, e, h1, h2, h3, h4, h5⟩ := h.en.step hn (ansL res k j.rs.length) (ansL_len ..) (ansL_mem _ _ _) (ansG res k j.rs.length) now ht hT
  refine ⟨q2, e, ⟨h1, Nat.le_trans h3 h.ml, h4.trans h.dl, by have := h.k1; have := h.k2; omega, by omega, ?_⟩, h2⟩
  rcases Nat.lt_or_ge k (limR res) with f | f
  · exact .inr (.inl (by have := h.k1; omega))
  · have hk2 := h.k2
    rcases h.pr with ⟨-, -, p3⟩ | p | ⟨p1, p2, p3⟩
    · have := h.k1
      exact .inr (.inl (by omega))
    · exact .inr (.inl (by omega))
    · obtain ⟨g1, g2⟩ := ansL_all res k j.rs.length f
      obtain ⟨n1, n2⟩ := h5 g1 g2 p2
      exact .inr (.inr ⟨p1, n1, Nat.le_trans n2 p3⟩)
theorem InnI.exit {lm : Lm} {q0 q : Qs} {k0 k L : Nat} {T : Int} (h : InnI lm q0 k0 L q k T) (hn : Qm.next q = none) :
    (∀ m ∈ q.ms, m.waits = true) ∧ (1 ≤ inHand q0.ms → (L - k) + q.ms.length + 1 ≤ (L - k0) + q0.ms.length) ∧ (L - k) + q.ms.length ≤ (L - k0) + q0.ms.length := by
  have hw := none_waits h.en hn
  have h0 : inHand q.ms = 0 := by
    unfold inHand
    rw [List.length_eq_zero_iff, List.filter_eq_nil_iff]
    intro m hm
    rw [hw m hm]; simp
  have h1 := wc_hand q.ms
  have h2 := wc_hand q0.ms
  have := h.ml
  have := h.k1
  have := h.k2
  refine ⟨hw, fun hh => ?_, by omega⟩
  rcases h.pr with ⟨p1, -, -⟩ | p | ⟨p1, p2, p3⟩
  · rw [p1] at h0; omega
  · omega
  · omega

/-! ### Those that wait come again -/
structure EaI (lm : Lm) (q0 q : Qs) (k : Nat) (now : Int) : Prop where
  en : EnI lm q now
  nd : Nd q.ms
  ml : q.ms.length = q0.ms.length
  dl : q.ds.length = q0.ds.length
  k0 : k = 0 → q = q0
  k1 : 0 < k → 1 ≤ inHand q.ms
theorem EaI.start {lm : Lm} {q : Qs} {now : Int} (h : EnI lm q now) (hw : ∀ m ∈ q.ms, m.waits = true) : EaI lm q q 0 now :=
  ⟨h, fun m hm f => (by rw [hw m hm] at f; cases f), rfl, rfl, fun _ => rfl, fun f => by omega⟩
theorem EaI.step {lm : Lm} {q0 q : Qs} {k : Nat} {now : Int} (h : EaI lm q0 q k now) (ht : isT now = true) (id : ByteArray) (hid : ∃ m ∈ q0.ms, m.id = id) : EaI lm q0 (Qm.again q id now).2 (k + 1) now := by
  obtain ⟨h1, h2, h3, h4, h5⟩ := h.en.again h.nd ht id
  refine ⟨h1, h2, h3.trans h.ml, h4.trans h.dl, fun f => by omega, fun _ => h5 ?_⟩
  rcases Nat.eq_zero_or_pos k with f | f
  · rw [h.k0 f]; exact .inr hid
  · exact .inl (h.k1 f)

/-! ### The outer loop -/
structure OutI (lm : Lm) (q : Qs) (i nx k L : Nat) (now : Int) : Prop where
  en : EnI lm q now
  nd : Nd q.ms
  hand : q.ms ≠ [] → 1 ≤ inHand q.ms
  nl : nx ≤ 20
  ml : q.ms.length ≤ nx
  dl : q.ds.length ≤ 200 * nx
  kl : k ≤ L
  mu : i + 2 * (20 - nx) + (L - k) + q.ms.length ≤ 140
  t0 : 0 ≤ now
  t1 : now ≤ 900000000
/-- After the add, or without one: where the round cannot stand still. -/
structure MidI (lm : Lm) (q : Qs) (i nx k L : Nat) (now : Int) : Prop where
  en : EnI lm q now
  nd : Nd q.ms
  nl : nx ≤ 20
  ml : q.ms.length ≤ nx
  dl : q.ds.length ≤ 200 * nx
  kl : k ≤ L
  mu : i + 1 + 2 * (20 - nx) + (L - k) + q.ms.length ≤ 140 ∨ (1 ≤ inHand q.ms ∧ i + 2 * (20 - nx) + (L - k) + q.ms.length ≤ 140)
  t0 : 0 ≤ now
  t1 : now ≤ 900000000

theorem OutI.start (lm : Lm) (ok : lm.Ok) (L : Nat) (hL : L ≤ 100) : OutI lm (begin0 lm) 0 0 0 L 0 := by
  refine ⟨⟨ok, rfl, ?_, rfl, ⟨fun d hd => (by cases hd), fun d hd => (by cases hd)⟩, fun m hm => (by cases hm), fun m hm => (by cases hm), fun m hm => (by cases hm)⟩, fun m hm => (by cases hm), fun h => absurd rfl h, by omega, by simp [begin0], by simp [begin0], by omega, by simp [begin0]; omega, by omega, by omega⟩
  exact (KpI.start lm ok).inv

theorem OutI.stay {lm : Lm} {q : Qs} {i nx k L : Nat} {now : Int} (h : OutI lm q i nx k L now) (hne : 0 < q.ms.length) : MidI lm q i nx k L now :=
  ⟨h.en, h.nd, h.nl, h.ml, h.dl, h.kl, .inr ⟨h.hand (List.ne_nil_of_length_pos hne), h.mu⟩, h.t0, h.t1⟩
theorem OutI.add {lm : Lm} {q : Qs} {i nx k L : Nat} {now : Int} (h : OutI lm q i nx k L now) (hn : nx < 20) (id : ByteArray) (D : List ByteArray) :
    ((Qm.add q id now D now).1 = 221 ∧ MidI lm (Qm.add q id now D now).2 i nx k L now) ∨ ((Qm.add q id now D now).1 ≠ 221 ∧ MidI lm (Qm.add q id now D now).2 i (nx + 1) k L now) := by
  obtain ⟨h1, h2, h3, h4, h5⟩ := h.en.add h.nd id now D
  have hml := h.ml
  have hmu := h.mu
  have hdl := h.dl
  by_cases hf : (Qm.add q id now D now).1 = 221
  · obtain ⟨e1, e2⟩ := h5 hf
    refine .inl ⟨hf, ?_⟩
    rw [e1]
    exact ⟨h.en, h.nd, h.nl, h.ml, h.dl, h.kl, .inr ⟨e2, hmu⟩, h.t0, h.t1⟩
  · refine .inr ⟨hf, h1, h2, by omega, by omega, ?_, h.kl, .inl (by omega), h.t0, h.t1⟩
    have hd2 : (Qm.add q id now D now).2.ds.length ≤ q.ds.length + 200 := by
      rcases Nat.lt_or_ge 200 D.length with f | f
      · have hb : addOk id now D now = false := by
          unfold addOk
          rw [decide_eq_false (by omega : ¬ D.length ≤ 200)]
          simp
        unfold Qm.add
        rw [hb]
        simp
      · omega
    omega

/-- The end of a round. -/
theorem EaI.out {lm : Lm} {q0 q : Qs} {n i nx k L : Nat} {now : Int} (h : EaI lm q0 q n now) (hn : n = q0.ms.length) (hx : nx ≤ 20) (hml : q0.ms.length ≤ nx) (hdl : q0.ds.length ≤ 200 * nx) (hk : k ≤ L) (hmu : i + 2 * (20 - nx) + (L - k) + q0.ms.length ≤ 140) (t0 : 0 ≤ now) (t1 : now ≤ 900000000) : OutI lm q i nx k L now := by
  have e1 := h.ml
  have e2 := h.dl
  refine ⟨h.en, h.nd, fun hne => h.k1 ?_, hx, by omega, by omega, hk, by omega, t0, t1⟩
  have := List.length_pos_iff.2 hne
  omega
end Go.Proofs.Ytnakafmlenngnaa.Qm

/- The library's stable sort of messages, as far as it is wanted: those that stand there are of those that stood there. -/
namespace Go.Proofs.Ytnakafmlenngnaa.Qm
open Go.RowKit Go.Proofs.Ytnakafmlenngnaa.Wi

def cmpV (a b : Int) : Int := if a < b then -1 else if b < a then 1 else 0

theorem nan_run (a : Int) (w : World) : Calls Try.prog 85 #[.int .i64 a] w fun e w' => e = .returned (.bool false) ∧ w = w' := by
  go_enter Try.func85, Try.ntmps85
  go_wp2_with fail
  go_ret
  exact ⟨by simp, rfl⟩

theorem cmp_run (a b : Int) (w : World) : Calls Try.prog 69 #[.int .i64 a, .int .i64 b] w fun e w' => e = .returned (.int .i64 (cmpV a b)) ∧ w' = w := by
  have HN := (show Hid (∀ a W, Calls Try.prog 85 #[.int .i64 a] W fun e w' => e = .returned (.bool false) ∧ W = w') from nan_run)
  unfold cmpV
  by_cases h1 : a < b
  · rw [if_pos h1]
    go_enter Try.func69, Try.ntmps69
    go_wp2_with (go_at_call 85; refine (HN.out _ _).mono ?_; rintro e w1 ⟨rfl, rfl⟩)
    go_ret
    exact ⟨rfl, rfl⟩
  · rw [if_neg h1]
    by_cases h2 : b < a
    · rw [if_pos h2]
      go_enter Try.func69, Try.ntmps69
      go_wp2_with (go_at_call 85; refine (HN.out _ _).mono ?_; rintro e w1 ⟨rfl, rfl⟩)
      go_ret
      exact ⟨rfl, rfl⟩
    · rw [if_neg h2]
      go_enter Try.func69, Try.ntmps69
      go_wp2_with (go_at_call 85; refine (HN.out _ _).mono ?_; rintro e w1 ⟨rfl, rfl⟩)
      go_ret
      exact ⟨rfl, rfl⟩

theorem late_run (x y : LM) (w : World) (hx : MailAt w x) (hy : MailAt w y) :
    Calls Try.prog 68 #[.pointer (some ⟨x.b, 0, none⟩), .pointer (some ⟨y.b, 0, none⟩)] w fun e w' => e = .returned (.int .i64 (cmpV x.m.due y.m.due)) ∧ ∃ m, w' = w.drewN m := by
  obtain ⟨-, -, -, -, c4⟩ := hx.cells
  obtain ⟨-, -, -, -, d4⟩ := hy.cells
  clear hx hy
  generalize x.m.due = a at c4 ⊢
  generalize y.m.due = b at d4 ⊢
  generalize x.b = xb at c4 ⊢
  generalize y.b = yb at d4 ⊢
  go_enter Try.func68, Try.ntmps68
  go_wp2_with fail
  go_quiet (first | (go_at_call 69; exact Calls.quiet_of_same (cmp_run _ _ _)))
  go_wp2_with fail
  go_ret
  exact ⟨rfl, _, rfl⟩

/-- The row holds messages of zs. -/
def SortI (w0 W : World) (v : Value) (n : Nat) (zs : List LM) : Prop :=
  Ext (fun _ => False) w0 W ∧ ∃ ys : List LM, W.ownsRow w0.heap.size 89 1 v n (ys.map mPtr) ∧ ∀ y ∈ ys, y ∈ zs
theorem SortI.drewN {w0 W : World} {v : Value} {n : Nat} {zs : List LM} (h : SortI w0 W v n zs) (k : Nat) : SortI w0 (W.drewN k) v n zs := by
  obtain ⟨h1, ys, h2, h3⟩ := h
  exact ⟨h1.drewN k, ys, row_keep h2 fun _ _ => rfl, h3⟩
theorem SortI.at {w0 W : World} {v : Value} {n : Nat} {zs : List LM} (h : SortI w0 W v n zs) (k : Nat) (hk : k < n) :
    ∃ g c z, v = .slice (some ⟨g, 0, none⟩) n c ∧ z ∈ zs ∧ g < W.heap.size ∧ W.cell? ⟨g, k, none⟩ = some (.pointer (some ⟨z.b, 0, none⟩)) ∧ W.frozen? ⟨g, k, none⟩ = false := by
  obtain ⟨h1, ys, h2, h3⟩ := h
  have hl : ys.length = n := by have := h2.1; simpa using this
  obtain ⟨g, c, e, -, -, hg, h4, h5⟩ := row_at h2 k (by simp; omega)
  refine ⟨g, c, ys[k], e, h3 _ (List.getElem_mem _), hg, ?_, h5⟩
  rw [h4]
  simp [mPtr]
theorem SortI.put {w0 W : World} {v : Value} {n : Nat} {zs : List LM} (h : SortI w0 W v n zs) (g : Nat) (hg : v.ownBlock = some g) (k : Nat) (z : LM) (hz : z ∈ zs) :
    SortI w0 (W.setCell ⟨g, k, none⟩ (.pointer (some ⟨z.b, 0, none⟩))) v n zs := by
  obtain ⟨h1, ys, h2, h3⟩ := h
  refine ⟨h1.setCell_new g k _ (row_base h2 g hg), ys.set k z, ?_, fun y hy => ?_⟩
  · rw [List.map_set]
    exact row_set h2 g hg k _
  · rcases List.mem_or_eq_of_mem_set hy with f | rfl
    · exact h3 y f
    · exact hz

set_option maxHeartbeats 2000000 in
set_option maxRecDepth 100000 in
theorem isort_run (w0 w : World) (v : Value) (n a b : Nat) (zs : List LM) (h : SortI w0 w v n zs) (hz : ∀ W, Ext (fun _ => False) w0 W → ∀ z ∈ zs, MailAt W z) (hb : b ≤ n) (ha : a ≤ 100000) (hn : n ≤ 100000) :
    Calls Try.prog 87 #[v, .int .i64 a, .int .i64 b, .func (.func 68) #[] #[]] w fun e w' => e = .returned (.tuple #[]) ∧ SortI w0 w' v n zs := by
  obtain ⟨y, cap, hv, hy1, hy2⟩ : ∃ y cap, v = .slice y n cap ∧ n ≤ cap ∧ cap ≤ 9223372036854775807 := by
    obtain ⟨-, ys, h2, -⟩ := h
    exact row_shape h2
  subst hv
  have HZ := hid hz
  have H0 := hid h
  clear hz h
  have eg : ∀ args w, (callFunc 68 args).run Try.prog w = .ok (.enter 68 args) w := enters_of Try.func68 (by kernel_rfl) rfl
  go_enter Try.func87, Try.ntmps87
  go_wp2_with fail
  go_loopg [8] b (fun gg v8 wr => ∃ i : Nat, v8 = .int .i64 i ∧ a < i ∧ i + gg = a + 1 + b ∧ Hid (SortI w0 wr (.slice y n cap) n zs))
  case atStart => exact ⟨a + 1, by go_num, by omega, by omega, H0⟩
  case round =>
    obtain ⟨i, rfl, hai, hi, H1⟩ := hrel
    have Hi := hid hi
    have hi2 : i ≤ 200001 := by omega
    clear hi H0
    by_cases hib : i < b
    · obtain ⟨gk0, hg0⟩ : ∃ g, g = gk := ⟨gk, rfl⟩
      have Hg0 := hid hg0
      clear hg0
      go_wp2_with fail
      go_loopg [9] i (fun gg v9 wz => ∃ j : Nat, v9 = .int .i64 j ∧ j = gg ∧ a ≤ j ∧ j ≤ i ∧ Hid (SortI w0 wz (.slice y n cap) n zs))
      case atStart => exact ⟨i, rfl, rfl, by omega, Nat.le_refl _, H1⟩
      case round =>
        obtain ⟨j, rfl, hj, haj, hji, H2⟩ := hrel
        have Hj := hid hj
        clear hj H1
        by_cases hlt : a < j
        · obtain ⟨m, rfl⟩ : ∃ m, j = m + 1 := ⟨j - 1, by omega⟩
          obtain ⟨g, c, z1, e1, hz1, hg1, c1, f1⟩ := H2.out.at (m + 1) (by omega)
          obtain ⟨g', c', z0, e0, hz0, -, c0, f0⟩ := H2.out.at m (by omega)
          injection e1 with e1 _ e2
          injection e0 with e0 _ e3
          subst e1
          injection e0 with e0
          injection e0 with e0
          subst e0
          clear e2 e3
          have hwp : IntKind.i64.wrap (m : Int) = (m : Int) := by rw [IntKind.wrap_i64]; omega
          have jz : (m : Int) + 1 < (n : Int) := by omega
          have jz1 : (m : Int) < (n : Int) := by omega
          have hjaz' : (a : Int) < (m : Int) + 1 := by omega
          have p0 : (0 : Int) ≤ (m : Int) + 1 := by omega
          have e0 : ((m : Int) + 1).toNat = m + 1 := by omega
          have HL := (show Hid (∀ k, Calls Try.prog 68 #[.pointer (some ⟨z1.b, 0, none⟩), .pointer (some ⟨z0.b, 0, none⟩)] (wr.drewN k) fun e w' => e = .returned (.int .i64 (cmpV z1.m.due z0.m.due)) ∧ ∃ m, w' = (wr.drewN k).drewN m) from fun k =>
            late_run z1 z0 _ (HZ.out _ (H2.out.1.drewN k) z1 hz1) (HZ.out _ (H2.out.1.drewN k) z0 hz0))
          have H3 := (show Hid (∀ k k2, SortI w0 ((((wr.drewN k).drewN k2).setCell ⟨g, m + 1, none⟩ (.pointer (some ⟨z0.b, 0, none⟩))).setCell ⟨g, m, none⟩ (.pointer (some ⟨z1.b, 0, none⟩))) (.slice (some ⟨g, 0, none⟩) n cap) n zs ∧ SortI w0 (wr.drewN k) (.slice (some ⟨g, 0, none⟩) n cap) n zs) from fun k k2 =>
            ⟨(((H2.out.drewN k).drewN k2).put g rfl (m + 1) z0 hz0).put g rfl m z1 hz1, H2.out.drewN k⟩)
          generalize cmpV z1.m.due z0.m.due = r at HL
          generalize z1.b = b1 at c1 HL H3
          generalize z0.b = b0 at c0 HL H3
          clear H2 HZ
          by_cases hr : r < 0
          · go_wp2_with fail
            go_quiet (first | (go_at_fn 68; refine Calls.quiet_of (HL.out _)))
            go_wp2_with fail
            have H4 := hid (fun k2 => (H3.out nq k2).1)
            have c0' : (wr.drewN nq).cell? ⟨g, m, none⟩ = some (.pointer (some ⟨b0, 0, none⟩)) := c0
            have c1' : (wr.drewN nq).cell? ⟨g, m + 1, none⟩ = some (.pointer (some ⟨b1, 0, none⟩)) := c1
            have f0' : (wr.drewN nq).frozen? ⟨g, m, none⟩ = false := f0
            have f1' : (wr.drewN nq).frozen? ⟨g, m + 1, none⟩ = false := f1
            clear c0 c1 f0 f1 H3 HL
            generalize wr.drewN nq = wq at H4 c0' c1' f0' f1' ⊢
            obtain ⟨j1, hj1⟩ : ∃ j1, j1 = m + 1 := ⟨_, rfl⟩
            rw [← hj1] at c1' f1' e0 H4
            have J1 := hid hj1
            clear hj1
            go_region
            all_goals go_wp2_with fail
            go_roundg m
            case measure => have := Hj.out; omega
            case rel => exact ⟨m, by go_num, rfl, by omega, by omega, hid (H4.out _)⟩
          · go_wp2_with fail
            go_quiet (first | (go_at_fn 68; refine Calls.quiet_of (HL.out _)))
            go_wp2_with fail
            go_roundg (gk0 - 1)
            case measure => have := Hi.out; have := Hg0.out; omega
            case rel => exact ⟨i + 1, by go_num, by omega, by have := Hi.out; have := Hg0.out; omega, hid (H3.out _ 0).2⟩
        · go_wp2_with fail
          go_quiet (fail)
          go_wp2_with fail
          go_roundg (gk0 - 1)
          case measure => have := Hi.out; have := Hg0.out; omega
          case rel => exact ⟨i + 1, by go_num, by omega, by have := Hi.out; have := Hg0.out; omega, hid (H2.out.drewN _)⟩
    · go_wp2_with fail
      go_end0
      exact ⟨rfl, H1.out⟩

set_option maxHeartbeats 2000000 in
set_option maxRecDepth 100000 in
theorem stable_run (w0 w : World) (v : Value) (n : Nat) (zs : List LM) (h : SortI w0 w v n zs) (hz : ∀ W, Ext (fun _ => False) w0 W → ∀ z ∈ zs, MailAt W z) (hn : n ≤ 20) :
    Calls Try.prog 84 #[v, .int .i64 n, .func (.func 68) #[] #[]] w fun e w' => e = .returned (.tuple #[]) ∧ SortI w0 w' v n zs := by
  have HI := (show Hid (∀ (a b : Nat) W, SortI w0 W v n zs → a ≤ 100000 → b ≤ n → Calls Try.prog 87 #[v, .int .i64 a, .int .i64 b, .func (.func 68) #[] #[]] W fun e w' => e = .returned (.tuple #[]) ∧ SortI w0 w' v n zs) from fun a b W hW ha hb =>
    isort_run w0 W v n a b zs hW hz hb ha (by omega))
  have H0 := hid h
  obtain ⟨y, cap, hv, hy1, hy2⟩ : ∃ y cap, v = .slice y n cap ∧ n ≤ cap ∧ cap ≤ 9223372036854775807 := by
    obtain ⟨-, ys, h2, -⟩ := h
    exact row_shape h2
  subst hv
  clear hz h
  go_enter Try.func84, Try.ntmps84
  go_wp2_with fail
  go_loopg [7, 8] 2 (fun gg v7 v8 wr => ∃ k : Nat, v7 = .int .i64 (20 * k : Nat) ∧ v8 = .int .i64 (20 * k + 20 : Nat) ∧ k + gg = 2 ∧ 20 * k ≤ n ∧ Hid (SortI w0 wr (.slice y n cap) n zs))
  case atStart => exact ⟨0, rfl, rfl, rfl, by omega, H0⟩
  case round =>
    obtain ⟨k, rfl, rfl, hk, hkn, H1⟩ := hrel
    have Hk := hid hk
    clear hk H0
    by_cases hlt : 20 * k + 20 ≤ n
    · have HC := hid (HI.out (20 * k) (20 * k + 20) _ H1.out (by omega) hlt)
      go_wp2_with fail
      refine HC.out.mono ?_
      rintro e w1 ⟨rfl, h1⟩
      have H2 := hid h1
      clear h1 HC H1
      go_wp2_with fail
      go_roundg (gk - 1)
      case measure => have := Hk.out; omega
      case rel => exact ⟨k + 1, by go_num, by go_num, by have := Hk.out; omega, by omega, H2⟩
    · have HC := hid (HI.out (20 * k) n _ H1.out (by omega) (Nat.le_refl _))
      go_wp2_with fail
      refine HC.out.mono ?_
      rintro e w1 ⟨rfl, h1⟩
      have H2 := hid h1
      clear h1 HC H1
      go_wp2_with fail
      go_loopg [6] 0 (fun gg v6 wz => v6 = .int .i64 20 ∧ Hid (SortI w0 wz (.slice y n cap) n zs))
      case atStart => exact ⟨rfl, H2⟩
      case round =>
        obtain ⟨rfl, H3⟩ := hrel
        have hn2 : ¬ 20 < n := by omega
        clear H2
        go_wp2_with fail
        go_end0
        exact ⟨rfl, H3.out⟩

theorem sort_run (w0 w : World) (v : Value) (n : Nat) (zs : List LM) (h : SortI w0 w v n zs) (hz : ∀ W, Ext (fun _ => False) w0 W → ∀ z ∈ zs, MailAt W z) (hn : n ≤ 20) :
    Calls Try.prog 67 #[v, .func (.func 68) #[] #[]] w fun e w' => e = .returned (.tuple #[]) ∧ SortI w0 w' v n zs := by
  have HC := hid (stable_run w0 w v n zs h hz hn)
  obtain ⟨y, cap, hv, hy1, hy2⟩ : ∃ y cap, v = .slice y n cap ∧ n ≤ cap ∧ cap ≤ 9223372036854775807 := by
    obtain ⟨-, ys, h2, -⟩ := h
    exact row_shape h2
  subst hv
  clear hz h
  go_enter Try.func67, Try.ntmps67
  go_wp2_with fail
  refine HC.out.mono ?_
  rintro e w1 ⟨rfl, h1⟩
  have H2 := hid h1
  clear h1 HC
  go_wp2_with fail
  go_end0
  exact ⟨rfl, H2.out⟩

/-- Those whose time has come. -/
def dueOf (now : Int) (zs : List LM) : List LM := zs.filter fun z => z.m.waits && decide (z.m.due ≤ now)

set_option maxHeartbeats 4000000 in
set_option maxRecDepth 100000 in
theorem due_run (mb : Nat) (L : Lq) (F : Nat → Prop) (now : Int) (w : World) (h : Mg w mb L F) (ht : isT now = true) (hn : L.ms.length ≤ 20) :
    Calls Try.prog 42 #[.pointer (some ⟨mb, 0, none⟩), .int .i64 now] w fun e w' => ∃ (v' : Value) (ys : List LM), e = .returned v' ∧ ys.length = (dueOf now L.ms).length ∧ (∀ y ∈ ys, y ∈ L.ms) ∧ w'.ownsRow w.heap.size 9 1 v' ys.length (ys.map idV) ∧ Ext (fun _ => False) w w' := by
  obtain ⟨y, cap, hv, hy1, hy2⟩ := row_shape h.mrow
  obtain ⟨-, -, -, -, -, -, c6, -⟩ := h.tops
  rw [hv] at c6
  have hml := h.mblt
  have HT := (show Hid (∀ (W : World) (g : Nat), W.cell? ⟨g, 0, none⟩ = some (.int .i64 now) → Calls Try.prog 44 #[.slice (some ⟨g, 0, none⟩) 1 1] W fun e w' => e = .returned (.bool true) ∧ W = w') from fun W g hg => istime_one W g now true ht hg)
  have HA := (show Hid (∀ (k : Nat) (W : World) (hk : k < L.ms.length), Ext (fun _ => False) w W → ∃ g, y = some ⟨g, 0, none⟩ ∧ W.cell? ⟨g, k, none⟩ = some (.pointer (some ⟨L.ms[k].b, 0, none⟩)) ∧ W.cell? ⟨L.ms[k].b, 3, none⟩ = some (.bool L.ms[k].m.waits) ∧ W.cell? ⟨L.ms[k].b, 4, none⟩ = some (.int .i64 L.ms[k].m.due)) from fun k W hk hW => by
    obtain ⟨g, cap', e, -, -, hg, h1, -⟩ := row_at h.mrow k (by simpa using hk)
    rw [hv] at e
    injection e with e1 _ _
    have hm := h.mails L.ms[k] (List.getElem_mem hk)
    obtain ⟨-, -, -, m3, m4⟩ := (hm.quiet hW).cells
    refine ⟨g, e1, ?_, m3, m4⟩
    rw [hW.cell hg (fun f => f), h1]
    simp [mPtr])
  have HZ := (show Hid (∀ W, Ext (fun _ => False) w W → ∀ z ∈ L.ms, MailAt W z) from fun W hW z hz => (h.mails z hz).quiet hW)
  have HN := (show Hid (∀ (v : Value) (ys : List LM) (W : World), W.ownsRow 0 89 1 v ys.length (ys.map mPtr) → Ext (fun _ => False) w W → (∀ z : LM, z ∈ ys → z ∈ L.ms) → ys.length ≤ 100000 → Calls Try.prog 70 #[v] W (RowPost 9 1 ys.length (ys.map idV) W)) from fun v ys W hrow hW hz hl =>
    names_run v _ ys W hrow (fun z hzz => (h.mails z (hz z hzz)).quiet hW) hl)
  obtain ⟨i, j1, j2, j3, j4⟩ := info89
  generalize L.ms = ms at *
  clear h hv ht
  go_enter Try.func42, Try.ntmps42
  go_wp2_with (go_at_call 44; refine (HT.out _ _ (by have hb := (MapKept.heap_alloc w (.cells #[.int .i64 now] 3)).1; unfold World.cell?; simp only [hb]; rfl)).mono ?_; rintro e w1 ⟨rfl, rfl⟩)
  go_loopg [17, 5] ms.length (fun gg ix vo wr => ∃ k : Nat, ix = .int .i64 k ∧ k + gg = ms.length ∧ Hid (wr.ownsRow w.heap.size 89 1 vo (dueOf now (ms.take k)).length ((dueOf now (ms.take k)).map mPtr) ∧ Ext (fun _ => False) w wr))
  case atStart => exact ⟨0, rfl, by omega, (show Hid _ from ⟨World.ownsRow_nil _ _ _ _, (Ext.refl _ _).alloc _⟩)⟩
  case round =>
    obtain ⟨k, rfl, hk, HO⟩ := hrel
    have Hk := hid hk
    have hkn : k ≤ ms.length := by omega
    obtain ⟨x2, p2, rfl, q1, q2⟩ := row_shape HO.out.1
    clear hk
    by_cases hlt : k < ms.length
    · obtain ⟨g, rfl, a1, a2, a3⟩ := HA.out k wr hlt HO.out.2
      have hnx : dueOf now (ms.take (k + 1)) = dueOf now (ms.take k) ++ (if ms[k].m.waits && decide (ms[k].m.due ≤ now) then [ms[k]] else []) := by
        unfold dueOf
        rw [List.take_add_one, List.getElem?_eq_getElem hlt, List.filter_append]
        simp [List.filter_cons]
      have hdl : (dueOf now (ms.take k)).length ≤ 20 := Nat.le_trans (List.length_filter_le _ _) (by simp; omega)
      generalize hz : ms[k] = z at a1 a2 a3 hnx
      have Hnx := hid hnx
      clear hnx
      cases hw : z.m.waits with
      | false =>
        rw [hw] at a2 Hnx
        have Hn2 := hid Hnx.out
        clear Hnx HA
        go_wp2_with fail
        go_roundg (gk - 1)
        case measure => have := Hk.out; omega
        case rel => exact ⟨k + 1, by go_num, by have := Hk.out; omega, (show Hid _ from by
          have e : dueOf now (ms.take (k + 1)) = dueOf now (ms.take k) := by rw [Hn2.out]; simp
          rw [e]
          exact HO.out)⟩
      | true =>
        rw [hw] at a2 Hnx
        by_cases hd : z.m.due ≤ now
        · have e : dueOf now (ms.take (k + 1)) = dueOf now (ms.take k) ++ [z] := by rw [Hnx.out]; simp [hd]
          have He := hid e
          clear e Hnx HA
          go_wp2_with (first
            | (at_builtin; go_loud (refine wpList_append_own _ rfl (.tmp 33) (.tmp 35) 84 rfl w.heap.size 89 i (.pointer none) 1 8 Try.underlying84 j1 j2 j3 j4 rfl (by decide) (.slice x2 (dueOf now (ms.take k)).length p2) (dueOf now (ms.take k)).length ((dueOf now (ms.take k)).map mPtr) rfl (HO.out.1.alloc _) ⟨wr.heap.size, 0, none⟩ 1 1 [mPtr z] rfl rfl ?c1 ?c2 ?c3 ?c4 ?c5 ?_)))
          case c1 => exact new1 _ _ rfl
          case c2 => intro u hu; simp at hu; subst hu; rfl
          case c3 => unfold maxLen; omega
          case c4 => omega
          case c5 => have := HO.out.2.size; simp; omega
          intro v' w2 hown hg _
          have HG := (show Hid (w2.ownsRow w.heap.size 89 1 v' (dueOf now (ms.take (k + 1))).length ((dueOf now (ms.take (k + 1))).map mPtr) ∧ Ext (fun _ => False) w w2) from ⟨by
            rw [He.out, List.map_append, List.length_append]
            exact hown, (HO.out.2.alloc _).grown hg fun g hg => .inl (row_base HO.out.1 g hg)⟩)
          obtain ⟨x3, p3, rfl, q3, q4⟩ := row_shape hown
          clear hown hg HO
          go_wp2_with fail
          go_roundg (gk - 1)
          case measure => have := Hk.out; omega
          case rel => exact ⟨k + 1, by go_num, by have := Hk.out; omega, HG⟩
        · have e : dueOf now (ms.take (k + 1)) = dueOf now (ms.take k) := by rw [Hnx.out]; simp [hd]
          have He := hid e
          clear e Hnx HA
          go_wp2_with fail
          go_roundg (gk - 1)
          case measure => have := Hk.out; omega
          case rel => exact ⟨k + 1, by go_num, by have := Hk.out; omega, (show Hid _ from by
            rw [He.out]
            exact HO.out)⟩
    · obtain rfl : k = ms.length := by omega
      have HO2 : Hid (wr.ownsRow w.heap.size 89 1 (.slice x2 (dueOf now ms).length p2) (dueOf now ms).length ((dueOf now ms).map mPtr) ∧ Ext (fun _ => False) w wr) := by
        have := HO
        rw [List.take_length] at this
        exact this
      have hdl : (dueOf now ms).length ≤ 20 := Nat.le_trans (List.length_filter_le _ _) (by omega)
      have HS := hid (sort_run w wr _ (dueOf now ms).length ms ⟨HO2.out.2, dueOf now ms, HO2.out.1, fun y hy => (List.mem_filter.1 hy).1⟩ HZ.out hdl)
      rw [List.take_length] at *
      clear HA HO HO2 HZ
      go_wp2_with fail
      refine HS.out.mono ?_
      rintro e w1 ⟨rfl, hx1, ys, hy1, hy2⟩
      have hyl : ys.length = (dueOf now ms).length := by have := hy1.1; simpa using this
      have HC := hid (HN.out _ ys w1 (by rw [hyl]; exact row_lower hy1 0 (Nat.zero_le _)) hx1 hy2 (by omega))
      have HY := hid (And.intro hyl (And.intro hy2 hx1))
      clear hy1 hy2 hx1 hyl HN HS
      go_wp2_with fail
      refine HC.out.mono ?_
      rintro e w2 ⟨v', rfl, h1, h2⟩
      have HR := (show Hid (w2.ownsRow w.heap.size 9 1 v' ys.length (ys.map idV) ∧ Ext (fun _ => False) w w2) from ⟨row_lower h1 _ HY.out.2.2.size, HY.out.2.2.trans h2⟩)
      obtain ⟨x3, p3, rfl, q3, q4⟩ := row_shape h1
      clear h1 h2 HC
      go_wp2_with fail
      go_ret
      exact ⟨_, ys, rfl, HY.out.1, HY.out.2.1, HR.out⟩
end Go.Proofs.Ytnakafmlenngnaa.Qm

/- The rows that the law of Ends holds, and its arguments opened. -/
namespace Go.Proofs.Ytnakafmlenngnaa.Qm
open Go.RowKit Go.ChangeShapes Go.WideShapes Go.ChangeAt Go.Deep Go.Proofs.Ytnakafmlenngnaa.Wi

/-- A slice of slices of texts that came in. -/
def DsAt (w : World) (x : Option Addr) (l : List (List ByteArray)) : Prop :=
  l.length ≤ 9223372036854775807 ∧ ∀ k (hk : k < l.length), ∃ b o, x = some ⟨b, o, none⟩ ∧ b < w.heap.size ∧ ∃ y c, w.cell? ⟨b, o + k, none⟩ = some (.slice y l[k].length c) ∧ StrsAt w y l[k]

section
variable {H : Type} {enc : TypeId × Value → H} {W : World}
set_option maxRecDepth 100000 in
theorem open_dests {r : Reach} {b0 : Nat} {v : Value} {d : DataW H} {p : List MemPlace} (hv : Value.okWide Try.prog W r b0 75 v) (h : DataW.Trod enc Try.prog W 0 (fun _ => true) true 75 v d p) :
    ∃ x l c, v = .slice x l.length c ∧ DsAt W x l := by
  obtain ⟨a, len, cap, rfl⟩ := okWide_slice Try.underlying75 hv
  obtain ⟨fuel, hf⟩ := h
  rcases open_slice Try.underlying75 hf with ⟨hcs, _⟩ | ⟨⟨b, o, sp⟩, l, c, m, n, D, Pl, hcs, _, hl, hm, hmm, _, hi⟩
  · simp [Value.cells] at hcs
    obtain ⟨rfl, rfl, rfl⟩ := hcs
    exact ⟨none, [], 0, rfl, by simp, fun k hk => by simp at hk⟩
  · simp [Value.cells] at hcs
    obtain ⟨rfl, rfl, rfl⟩ := hcs
    simp only [if_true] at hmm
    subst hmm
    unfold maxLen at hm
    have c46 : Try.prog.cellsOf 46 = 1 := by kernel_rfl
    rw [c46] at hi
    have hsp : 0 < len → sp = none := fun h0 => by
      obtain ⟨cs, hc, -⟩ := hi 0 (by omega)
      obtain ⟨_, hcl, hat⟩ := World.cells?_some hc
      have := hat 0 (by omega)
      rw [List.getElem?_eq_getElem (by omega)] at this
      have h2 := World.cell?_spot this
      simpa [Addr.add] using h2
    have key : ∀ k, k < len → ∃ s : List ByteArray, b < W.heap.size ∧ ∃ y c, W.cell? ⟨b, o + k, none⟩ = some (.slice y s.length c) ∧ StrsAt W y s := by
      intro k hk
      have := hsp (by omega)
      subst this
      obtain ⟨cs, hc, ht⟩ := hi k (by omega)
      obtain ⟨_, hcl, hat⟩ := World.cells?_some hc
      obtain ⟨u, rfl⟩ : ∃ u, cs = [u] := by
        match cs, hcl with
        | [u], _ => exact ⟨u, rfl⟩
      have h0 := hat 0 (by omega)
      rw [add_none, add_none] at h0
      simp only [Nat.mul_one, Nat.add_zero, List.getElem?_cons_zero] at h0
      obtain ⟨y, s, c, rfl, hs⟩ := trod_strs ht
      refine ⟨s, ?_, y, c, h0, hs⟩
      rcases Nat.lt_or_ge b W.heap.size with h' | h'
      · exact h'
      · simp [World.cell?, Array.getElem?_eq_none h'] at h0
    refine ⟨_, List.ofFn (n := len) fun k => Classical.choose (key k.1 k.2), _, by rw [List.length_ofFn], by rw [List.length_ofFn]; omega, fun k hk => ?_⟩
    rw [List.length_ofFn] at hk
    have := hsp (by omega)
    subst this
    obtain ⟨h1, h2⟩ := Classical.choose_spec (key k hk)
    refine ⟨b, o, rfl, h1, ?_⟩
    rw [List.getElem_ofFn]
    exact h2
end

theorem q_wc (L : Lq) : wc L.q.ms = (thoseOf true L.ms).length := by
  unfold wc Lq.q thoseOf
  simp only [List.filter_map, List.length_map]
  congr 1
  refine List.filter_congr fun z _ => ?_
  simp only [Function.comp]
  cases z.m.waits <;> rfl

/-- The text of one byte. -/
def idE (x : Nat) : ByteArray := ⟨#[UInt8.ofNat (97 + x)]⟩
theorem conv_E (w : World) (x g : Nat) (hb : w.heap[g]? = some (.cells #[.int .u8 (97 + (x : Int))] 5 (0, 0))) : (convert 45 9 (.slice (some ⟨g, 0, none⟩) 1 1)).run Try.prog w = .ok (.string (idE x)) w := by
  rw [conv_bytes w g [97 + (x : Int)] 1 rfl (fun i hi => by
    obtain rfl : i = 0 := by omega
    unfold World.cell?
    rw [hb]; rfl)]
  have e1 : (97 + (x : Int)).toNat = 97 + x := by omega
  simp [idE, e1]

section
variable {w wr W : World} {mb : Nat} {q : Qs} {l : List Row}
/-- How many messages wait. -/
theorem HasR.waiting (h : HasR w wr mb q l) (h1 : q.ms.length ≤ 50000) : Calls Try.prog 41 #[.pointer (some ⟨mb, 0, none⟩)] wr fun e w' => ∃ x c, e = .returned (.slice x (wc q.ms) c) ∧ HasR w w' mb q l := by
  have hh := h
  obtain ⟨L, F, hM, rfl, k3, k4, k5⟩ := h
  simp only [Lq.q, List.length_map] at h1
  refine (deferred_run mb L F wr hM (by omega)).mono ?_
  rintro e w' ⟨v', rfl, hr, hx⟩
  obtain ⟨x, c, rfl, -, -⟩ := row_shape hr
  rw [q_wc]
  exact ⟨x, c, rfl, hh.quiet hx⟩
/-- Those whose time has come. -/
theorem HasR.due (h : HasR w wr mb q l) (now : Int) (ht : isT now = true) (h1 : q.ms.length ≤ 20) (hw : ∀ m ∈ q.ms, m.waits = true ∧ m.due ≤ now) :
    Calls Try.prog 42 #[.pointer (some ⟨mb, 0, none⟩), .int .i64 now] wr fun e w' => ∃ x c ds, e = .returned (.slice x ds.length c) ∧ ds.length ≤ c ∧ c ≤ 9223372036854775807 ∧ ds.length = q.ms.length ∧ (∀ d ∈ ds, ∃ m ∈ q.ms, m.id = d) ∧ HasR w w' mb q (namesR (.slice x ds.length c) ds :: l) := by
  obtain ⟨L, F, hM, rfl, k3, k4, k5⟩ := h
  have h1' : L.ms.length ≤ 20 := by simpa [Lq.q] using h1
  refine (due_run mb L F now wr hM ht h1').mono ?_
  rintro e w' ⟨v', ys, rfl, hy1, hy2, hr, hx⟩
  have hall : dueOf now L.ms = L.ms := by
    unfold dueOf
    rw [List.filter_eq_self]
    intro z hz
    obtain ⟨a, b⟩ := hw z.m (List.mem_map.2 ⟨z, hz, rfl⟩)
    rw [a, Bool.true_and]
    exact decide_eq_true b
  rw [hall] at hy1
  obtain ⟨x, c, rfl, y1, y2⟩ := row_shape hr
  have hlm : (L.q.ms).length = L.ms.length := by simp [Lq.q]
  refine ⟨x, c, ys.map (·.m.id), by rw [List.length_map], by rw [List.length_map]; exact y1, y2, by rw [List.length_map, hlm]; exact hy1, fun d hd => ?_, L, F, hM.quiet hx, rfl, k3, k4.trans hx, (k5.quiet hx).push ?_ fun g hg => ⟨fun f => ?_, fun r hr2 e2 => ?_⟩⟩
  · obtain ⟨y, hy, rfl⟩ := List.mem_map.1 hd
    exact ⟨y.m, List.mem_map.2 ⟨y, hy2 y hy, rfl⟩, rfl⟩
  · have e : (ys.map (·.m.id)).map Value.string = ys.map idV := by rw [List.map_map]; rfl
    show w'.ownsRow w.heap.size 9 1 (.slice x (ys.map (·.m.id)).length c) (ys.map (·.m.id)).length ((ys.map (·.m.id)).map Value.string)
    rw [e, List.length_map]
    exact row_lower hr _ k4.size
  · have h2 := row_base hr g (by simpa [namesR] using hg)
    have := hM.lt g f
    omega
  · have h2 := row_base hr g (by simpa [namesR] using hg)
    have := row_lt (k5.lie r hr2) g e2
    omega

theorem res_of_row {w : World} {base : Nat} {x : Option Addr} {c : Nat} {rs : List Nat} (h : w.ownsRow base 3 1 (.slice x rs.length c) rs.length (intsC rs)) : ResL w x (rs.map fun (n : Nat) => (n : Int)) := by
  obtain ⟨h1, h2⟩ := ints_of_row h rfl
  refine ⟨by rw [List.length_map]; exact h1, fun k hk => ?_⟩
  rw [List.length_map] at hk
  obtain ⟨b, o, e, hb, hc⟩ := h2 k (by simpa using hk)
  refine ⟨b, o, e, hb, ?_⟩
  rw [hc]
  simp [List.getD_eq_getElem?_getD, hk]

/-- A job is answered, the answers in a row of the law's own. -/
theorem HasR.doneI (h : HasR w wr mb q l) {j : Jb} {x : Option Addr} {c : Nat} (hj : jRow (.slice x j.rs.length c) j ∈ l) {rx : Option Addr} {rc : Nat} {rs : List Nat} (hr : iRow ⟨.slice rx rs.length rc, rs⟩ ∈ l) (g : Bool) (now : Int) (h1 : q.ms.length ≤ 50000) (h2 : q.ds.length ≤ 50000) (hfit : JobFits q j) :
    Calls Try.prog 30 #[.pointer (some ⟨mb, 0, none⟩), .agg #[.string j.id, .string j.dest, .slice x j.rs.length c], .slice rx rs.length rc, .bool g, .int .i64 now] wr fun e w' => e = .returned (.int .i64 (Qm.done q j (rs.map fun (n : Nat) => (n : Int)) g now).1) ∧ HasR w w' mb (Qm.done q j (rs.map fun (n : Nat) => (n : Int)) g now).2 l := by
  have hrow := h.row hj
  have hres : ResL wr rx (rs.map fun (n : Nat) => (n : Int)) := res_of_row (h.row hr)
  obtain ⟨L, F, hM, rfl, k3, k4, k5⟩ := h
  simp only [Lq.q, List.length_map] at h1 h2
  have hi := ints_of_row hrow rfl
  have hyF : ∀ b o, x = some ⟨b, o, none⟩ → ¬ F b := fun b o e => k5.off _ hj b (by rw [e]; rfl)
  have hrF : ∀ b o, rx = some ⟨b, o, none⟩ → ¬ F b := fun b o e => k5.off _ hr b (by rw [e]; rfl)
  have := done_run mb L F j x c rx rc (rs.map fun (n : Nat) => (n : Int)) g now wr hM h1 h2 hi hyF hres hrF hfit
  rw [List.length_map] at this
  refine this.mono ?_
  rintro e w' ⟨rfl, L', F', g1, g2, g3, g4⟩
  exact ⟨rfl, L', F', g1, g4, own_grow k3 k4.size g2, own_ext k3 k4 g3, k5.call g3 g2⟩
end
end Go.Proofs.Ytnakafmlenngnaa.Qm

/- QmgrEnds: the walk. -/
namespace Go.Proofs.Ytnakafmlenngnaa.Qm
open Go.RowKit Go.Proofs.Ytnakafmlenngnaa.Wi

set_option maxHeartbeats 16000000 in
set_option maxRecDepth 100000 in
theorem ends_law_run (a i m mi ma li : Int) (x : Option Addr) (dl : List (List ByteArray)) (c : Nat) (xr : Option Addr) (res : List Int) (cr : Nat) (w : World) (hr : DsAt w x dl) (hs : ResL w xr res) : Calls Try.prog 11 #[limV a i m mi ma li, .slice x dl.length c, .slice xr res.length cr] w fun e w' => e = .returned (.bool true) ∧ Ext (fun _ => False) w w' := by
  have hxa : Ext (fun _ => False) w (w.alloc (.cells #[.int .i64 a, .int .i64 i, .int .i64 m, .int .i64 mi, .int .i64 ma, .int .i64 li] 43)) := (Ext.refl _ _).alloc _
  have HAw := (show Hid (∀ W, Calls Try.prog 26 #[] W fun e w' => e = .returned (.bool true) ∧ Ext (fun _ => False) W w') from awake_run)
  cases hok : okLim a i m mi ma li with
  | false =>
    have HN := (show Hid (∀ W, Calls Try.prog 27 #[limV a i m mi ma li] W (QuietPost (.tuple #[.pointer none, .int .i64 1]) W)) from fun W => new_bad_run a i m mi ma li hok W)
    unfold limV at HN ⊢
    clear hok hr hs
    go_enter Try.func11, Try.ntmps11
    go_wp2_with fail
    refine (HAw.out _).mono ?_
    rintro e w1 ⟨rfl, hx1⟩
    have b1 := box_lim hx1
    have p0 : w1.cell? ⟨w.heap.size, 0, none⟩ = some (.int .i64 a) := by simp [World.cell?, b1]
    have p1 : w1.cell? ⟨w.heap.size, 1, none⟩ = some (.int .i64 i) := by simp [World.cell?, b1]
    have p2 : w1.cell? ⟨w.heap.size, 2, none⟩ = some (.int .i64 m) := by simp [World.cell?, b1]
    have p3 : w1.cell? ⟨w.heap.size, 3, none⟩ = some (.int .i64 mi) := by simp [World.cell?, b1]
    have p4 : w1.cell? ⟨w.heap.size, 4, none⟩ = some (.int .i64 ma) := by simp [World.cell?, b1]
    have p5 : w1.cell? ⟨w.heap.size, 5, none⟩ = some (.int .i64 li) := by simp [World.cell?, b1]
    have HX := hid (hxa.trans hx1)
    clear hx1 b1 hxa HAw
    go_wp2_with fail
    refine (HN.out _).mono ?_
    rintro e w2 ⟨rfl, hx2⟩
    have HX2 := hid (HX.out.trans hx2)
    clear hx2 HN HX
    go_wp2_with fail
    go_ret
    exact ⟨rfl, HX2.out⟩
  | true =>
    obtain ⟨lm, hlm, hlv, rfl, rfl, rfl, rfl, rfl, rfl⟩ := okLim_ok hok
    have HN := (show Hid (∀ W, Calls Try.prog 27 #[limV lm.active lm.ini lm.lim lm.minb lm.maxb lm.life] W (NewPost lm W)) from fun W => by rw [← hlv]; exact new_ok_run lm hlm W)
    unfold limV at HN ⊢
    have HLM := hid hlm
    obtain ⟨l1, l2, l3, l4, l5, l6, l7, l8, l9, l10⟩ := hlm
    have hml := hr.1
    have hsl := hs.1
    have HS := hid hs
    have HR := hid hr
    clear hok hlv hr hs
    go_enter Try.func11, Try.ntmps11
    go_wp2_with fail
    refine (HAw.out _).mono ?_
    rintro e w1 ⟨rfl, hx1⟩
    have HBx := (show Hid (∀ W, Ext (fun _ => False) w1 W → W.heap[w.heap.size]? = some (.cells #[.int .i64 lm.active, .int .i64 (lm.ini : Nat), .int .i64 (lm.lim : Nat), .int .i64 lm.minb, .int .i64 lm.maxb, .int .i64 lm.life] 43 (0, 0))) from fun W hW => box_lim (hx1.trans hW))
    have b1 := HBx.out w1 (Ext.refl _ _)
    have p0 : w1.cell? ⟨w.heap.size, 0, none⟩ = some (.int .i64 lm.active) := by simp [World.cell?, b1]
    have p1 : w1.cell? ⟨w.heap.size, 1, none⟩ = some (.int .i64 (lm.ini : Nat)) := by simp [World.cell?, b1]
    have p2 : w1.cell? ⟨w.heap.size, 2, none⟩ = some (.int .i64 (lm.lim : Nat)) := by simp [World.cell?, b1]
    have p3 : w1.cell? ⟨w.heap.size, 3, none⟩ = some (.int .i64 lm.minb) := by simp [World.cell?, b1]
    have p4 : w1.cell? ⟨w.heap.size, 4, none⟩ = some (.int .i64 lm.maxb) := by simp [World.cell?, b1]
    have p5 : w1.cell? ⟨w.heap.size, 5, none⟩ = some (.int .i64 lm.life) := by simp [World.cell?, b1]
    have HX := hid (hxa.trans hx1)
    clear hx1 b1 hxa HAw
    go_wp2_with fail
    refine (HN.out _).mono ?_
    rintro e w2 ⟨mb, L, F, rfl, hM, hq, hx2, hF⟩
    have HS2 := (show Hid (ResL w1 xr res) from IntsAt.ext HS.out HX.out fun _ _ _ f => f)
    have H0 := (show Hid (HasR w1 w2 mb (begin0 lm) [] ∧ OutI lm (begin0 lm) 0 0 0 (limR res) 0) from
      ⟨⟨L, F, hM, hq, hF, hx2, Rows_.nil _ _ _⟩, OutI.start lm HLM.out _ (by unfold limR; omega)⟩)
    clear hM hq hF hx2 HN p0 p1 p2 p3 p4 p5
    go_wp2_with fail
    go_loopg [10, 11, 12, 13] 141 (fun gg v10 v11 v12 v13 wr => ∃ (i nx k : Nat) (now : Int) (q : Qs), v10 = .int .i64 now ∧ v11 = .int .i64 k ∧ v12 = .int .i64 nx ∧ v13 = .int .i64 i ∧ i + gg = 141 ∧ nx ≤ dl.length ∧ Hid (HasR w1 wr mb q [] ∧ OutI lm q i nx k (limR res) now))
    case atStart => exact ⟨0, 0, 0, 0, _, rfl, rfl, rfl, rfl, rfl, by omega, H0⟩
    case round =>
      obtain ⟨i, nx, k, now, q, rfl, rfl, rfl, rfl, hi, hnx, HI⟩ := hrel
      obtain ⟨w0, rfl⟩ : ∃ w0, w0 = wr := ⟨_, rfl⟩
      have Hi := hid hi
      have hi2 : i ≤ 140 := by have := HI.out.2.mu; omega
      have hi3 : i < 3000 := by omega
      have hi3b : decide ((i : Int) < 3000) = true := decide_eq_true (by omega)
      have hwc := wc_hand q.ms
      have hql : q.ms.length ≤ 20 := by have := HI.out.2.ml; have := HI.out.2.nl; omega
      have hx20 : nx ≤ 20 := HI.out.2.nl
      have hnow0 : 0 ≤ now := HI.out.2.t0
      have hnow1 : now ≤ 900000000 := HI.out.2.t1
      have HP := hid HI.out.2
      clear hi H0
      go_upto_region 11 with (fail)
      go_cut [64] (fun v64 wx => v64 = .bool ((decide (nx < dl.length) && decide (nx < 20)) || decide (0 < q.ms.length)) ∧ Hid (HasR w1 wx mb q []))
      case first =>
        by_cases h1 : nx < dl.length
        · have h1b : decide (nx < dl.length) = true := decide_eq_true h1
          by_cases h2 : nx < 20
          · have ha : (decide (nx < dl.length) && decide (nx < 20)) = true := by simp [h1, h2]
            have h2b : decide ((nx : Int) < 20) = true := decide_eq_true (by omega)
            have HT := hid HI.out.1
            clear HI
            go_wp2_with fail
            go_meet
            exact ⟨by rw [ha]; rfl, HT⟩
          · have ha : (decide (nx < dl.length) && decide (nx < 20)) = false := by simp [h2]
            have h2b : decide ((nx : Int) < 20) = false := decide_eq_false (by omega)
            go_wp2_with fail
            refine (HI.out.1.active (by omega)).mono ?_
            rintro e wa ⟨xa, ca, rfl, ha⟩
            go_wp2_with fail
            refine (ha.waiting (by omega)).mono ?_
            rintro e wb ⟨xb, cb, rfl, hb⟩
            have HT := hid hb
            clear ha hb HI
            go_wp2_with fail
            go_meet
            exact ⟨by rw [ha, hwc]; simp; omega, HT⟩
        · have ha : (decide (nx < dl.length) && decide (nx < 20)) = false := by simp [h1]
          have h1b : decide (nx < dl.length) = false := decide_eq_false h1
          go_wp2_with fail
          refine (HI.out.1.active (by omega)).mono ?_
          rintro e wa ⟨xa, ca, rfl, ha⟩
          go_wp2_with fail
          refine (ha.waiting (by omega)).mono ?_
          rintro e wb ⟨xb, cb, rfl, hb⟩
          have HT := hid hb
          clear ha hb HI
          go_wp2_with fail
          go_meet
          exact ⟨by rw [ha, hwc]; simp; omega, HT⟩
      case rest =>
        obtain ⟨hv, HT⟩ := hcut
        clear HI
        generalize hB : ((decide (nx < dl.length) && decide (nx < 20)) || decide (0 < q.ms.length)) = B at hv
        subst hv
        cases B with
        | false =>
          have hz : q.ms.length = 0 := by
            cases h : decide (0 < q.ms.length) with
            | false => simpa using h
            | true => rw [h] at hB; simp at hB
          have h0 : inHand q.ms = 0 := by omega
          have h0' : Qm.wc q.ms = 0 := by omega
          have hle : q.ms.length ≤ 50000 := by omega
          clear hB HP
          go_wp2_with fail
          refine (HT.out.active hle).mono ?_
          rintro e wa ⟨xa, ca, rfl, ha⟩
          rw [h0]
          go_wp2_with fail
          refine (ha.waiting hle).mono ?_
          rintro e wb ⟨xb, cb, rfl, hb⟩
          rw [h0']
          have HE := hid (HX.out.trans hb.ext)
          clear ha hb HT
          go_wp2_with fail
          go_ret
          exact ⟨rfl, HE.out⟩
        | true =>
          go_upto_region 13 with (fail)
          go_cut [74] (fun v74 wx => v74 = .bool (decide (nx < dl.length) && decide (nx < 20)) ∧ Hid (HasR w1 wx mb q []))
          case first =>
            by_cases h1 : nx < dl.length
            · have h1b : decide (nx < dl.length) = true := decide_eq_true h1
              by_cases h2 : nx < 20
              · have h2b : decide ((nx : Int) < 20) = true := decide_eq_true (by omega)
                go_wp2_with fail
                go_meet
                exact ⟨by simp [h1, h2], HT⟩
              · have h2b : decide ((nx : Int) < 20) = false := decide_eq_false (by omega)
                go_wp2_with fail
                go_meet
                exact ⟨by simp [h1, h2], HT⟩
            · have h1b : decide (nx < dl.length) = false := decide_eq_false h1
              go_wp2_with fail
              go_meet
              exact ⟨by simp [h1], HT⟩
          case rest =>
            clear HT
            obtain ⟨rfl, HT⟩ := hcut
            go_upto_if 74 with (fail)
            go_cut [12] (fun v12 wx => ∃ (nx2 : Nat) (q2 : Qs), v12 = .int .i64 nx2 ∧ nx2 ≤ dl.length ∧ Hid (HasR w1 wx mb q2 [] ∧ MidI lm q2 i nx2 k (limR res) now))
            case first =>
              by_cases hA : nx < dl.length ∧ nx < 20
              · obtain ⟨h1, h2⟩ := hA
                have ha : (decide (nx < dl.length) && decide (nx < 20)) = true := by simp [h1, h2]
                rw [ha]
                obtain ⟨db, dof, rfl, hdb, yd, cd, d0, hds⟩ := HR.out.2 nx h1
                have d1 := (HX.out.cell hdb (fun f => f) (dof + nx)).trans d0
                have d2 := (HT.out.ext.cell (Nat.lt_of_lt_of_le hdb HX.out.size) (fun f => f) (dof + nx)).trans d1
                have K5 := hid (hds.ext HX.out fun _ _ _ f => f)
                have hql : q.ms.length ≤ 50000 := by omega
                have hqd : q.ds.length ≤ 50000 := by have := HP.out.dl; omega
                generalize dl[nx] = D at d2 K5
                have hadd := hid (HP.out.add h2 (idE nx) D)
                clear d0 d1 hds hB ha
                have hdb1 : db < w1.heap.size := Nat.lt_of_lt_of_le hdb HX.out.size
                have hdb2 : db < wc.heap.size := Nat.lt_of_lt_of_le hdb1 HT.out.ext.size
                have hw1 : IntKind.i64.wrap (97 + (nx : Int)) = 97 + (nx : Int) := by rw [IntKind.wrap_i64]; omega
                have hw2 : IntKind.u8.wrap (97 + (nx : Int)) = 97 + (nx : Int) := by rw [IntKind.wrap_u8]; omega
                have HAdd := (show Hid (∀ (W : World), Ext (fun _ => False) wc W → Calls Try.prog 28 #[.pointer (some ⟨mb, 0, none⟩), .string (idE nx), .int .i64 now, .slice yd D.length cd, .int .i64 now] W fun e w' => e = .returned (.int .i64 (Qm.add q (idE nx) now D now).1) ∧ HasR w1 w' mb (Qm.add q (idE nx) now D now).2 []) from fun W hW => (HT.out.quiet hW).add K5.out (idE nx) now now cd hql hqd)
                have hcv : (convert 45 9 (.slice (some ⟨wc.heap.size, 0, none⟩) 1 1)).run Try.prog ((wc.alloc (.cells #[.int .u8 (97 + (nx : Int))] 5)).drew) = .ok (.string (idE nx)) ((wc.alloc (.cells #[.int .u8 (97 + (nx : Int))] 5)).drew) := conv_E _ nx wc.heap.size (MapKept.heap_alloc wc _).1
                clear HT
                go_upto_region 14 with (fail)
                go_region_with (go_at_call 28; refine (HAdd.out _ ((Ext.refl _ _).alloc _).drew).mono ?_; rintro e w3 ⟨rfl, h3⟩)
                all_goals
                  have H3 := hid h3
                  clear h3 HAdd hcv d2
                  generalize Qm.add q (idE nx) now D now = R at H3 hadd ⊢
                  obtain ⟨f, q2⟩ := R
                  dsimp only at H3 hadd ⊢
                  rcases hadd.out with ⟨hf, hM⟩ | ⟨hf, hM⟩
                  · have HM := (show Hid (HasR w1 w3 mb q2 [] ∧ MidI lm q2 i nx k (limR res) now) from ⟨H3.out, hM⟩)
                    have hfb : (f != 221) = false := by rw [hf]; rfl
                    clear hadd hf hM H3 HP
                    go_wp2_with fail
                    go_meet
                    exact ⟨nx, q2, rfl, hnx, HM⟩
                  · have HM := (show Hid (HasR w1 w3 mb q2 [] ∧ MidI lm q2 i (nx + 1) k (limR res) now) from ⟨H3.out, hM⟩)
                    have hfb : (f != 221) = true := by simpa using hf
                    clear hadd hf hM H3 HP
                    go_wp2_with fail
                    go_meet
                    exact ⟨nx + 1, q2, by go_num, by omega, HM⟩
              · have ha : (decide (nx < dl.length) && decide (nx < 20)) = false := by
                  rcases (by omega : ¬ nx < dl.length ∨ ¬ nx < 20) with h | h <;> simp [h]
                rw [ha] at hB ⊢
                have hpos : 0 < q.ms.length := by simpa using hB
                have HM := (show Hid (HasR w1 _ mb q [] ∧ MidI lm q i nx k (limR res) now) from ⟨HT.out, HP.out.stay hpos⟩)
                clear HT HP hB
                go_wp2_with fail
                go_meet
                exact ⟨nx, q, rfl, hnx, HM⟩
            case rest =>
              clear HT HP hB hnx hql hx20 hwc
              clear q nx
              obtain ⟨nx, q, rfl, hnx, HM⟩ := hcut
              have hx20 : nx ≤ 20 := HM.out.2.nl
              have hql : q.ms.length ≤ 20 := by have := HM.out.2.ml; omega
              have hqd : q.ds.length ≤ 4000 := by have := HM.out.2.dl; omega
              have hkl : k ≤ limR res := HM.out.2.kl
              have hlr : limR res ≤ 100 := by unfold limR; omega
              have hlr2 : limR res ≤ res.length := by unfold limR; omega
              have hlr3 : limR res = 100 ∨ limR res = res.length := by unfold limR; omega
              have ht : isT now = true := by
                unfold isT
                rw [decide_eq_true hnow0, decide_eq_true (by omega : now ≤ 1000000000)]; rfl
              have Ht := hid ht
              have HMd := hid HM.out.2
              have H0 := (show Hid (HasR w1 wc mb q [] ∧ InnI lm q k (limR res) q k (now + lm.maxb)) from ⟨HM.out.1, InnI.start (HM.out.2.en.mono (by omega)) HM.out.2.nd hkl⟩)
              clear HM ht
              obtain ⟨gk0, hg0⟩ : ∃ g, g = gk := ⟨gk, rfl⟩
              have Hg0 := hid hg0
              clear hg0
              go_wp2_with fail
              go_loopg [11] (Qn q.ms) (fun gg v11 wz => ∃ (k2 : Nat) (q2 : Qs), v11 = .int .i64 k2 ∧ Qn q2.ms ≤ gg ∧ Hid (HasR w1 wz mb q2 [] ∧ InnI lm q k (limR res) q2 k2 (now + lm.maxb)))
              case atStart => exact ⟨k, q, rfl, Nat.le_refl _, H0⟩
              case round =>
                obtain ⟨k2, q2, rfl, hqn, HI⟩ := hrel
                have Hqn := hid hqn
                have hml2 : q2.ms.length ≤ 20 := Nat.le_trans HI.out.2.ml hql
                have hdl2 : q2.ds.length ≤ 4000 := by have := HI.out.2.dl; omega
                have hjl2 : q2.jobs.length ≤ 50000 := by rw [HI.out.2.en.nj]; simp
                have hk2 : k2 ≤ limR res := HI.out.2.k2
                have HN := hid (HI.out.1.next (by omega) (by omega) hjl2)
                have HP := hid HI.out.2
                clear hqn H0 HI
                go_wp2_with fail
                refine HN.out.mono ?_
                rintro e w3 (⟨hn, rfl, h3⟩ | ⟨j, q3, xj, cj, hn, rfl, y1, y2, h3⟩)
                · as_aux_lemma =>
                  have HX2 := (show Hid (HasR w1 (w3.alloc (.cells #[.string ByteArray.empty, .string ByteArray.empty, .slice none 0 0] 49)) mb q2 []) from h3.quiet ((Ext.refl _ _).alloc _))
                  obtain ⟨hw, hm1, hm2⟩ := HP.out.exit hn
                  have hmu : i + 1 + 2 * (20 - nx) + (limR res - k2) + q2.ms.length ≤ 140 := by
                    rcases HMd.out.mu with h | ⟨h, h'⟩
                    · omega
                    · have := hm1 h; omega
                  have hmx : q2.ms.length ≤ nx := Nat.le_trans HP.out.ml HMd.out.ml
                  have hdx : q2.ds.length ≤ 200 * nx := by have := HP.out.dl; have := HMd.out.dl; omega
                  clear h3 hn hm1 hm2 HN
                  go_upto_region 33 with (fail)
                  generalize w3.alloc (.cells #[.string ByteArray.empty, .string ByteArray.empty, .slice none 0 0] 49) = w4 at HX2 ⊢
                  have b4 := HBx.out _ HX2.out.ext
                  have p4 : w4.cell? ⟨w.heap.size, 4, none⟩ = some (.int .i64 lm.maxb) := by simp [World.cell?, b4]
                  have HE := hid (HX.out.trans HX2.out.ext)
                  clear b4
                  by_cases hbig : 900000000 < now + lm.maxb
                  · go_wp2_with fail
                    go_ret
                    exact ⟨rfl, HE.out⟩
                  · have ht2 : isT (now + lm.maxb) = true := by
                      unfold isT
                      rw [decide_eq_true (by omega : 0 ≤ now + lm.maxb), decide_eq_true (by omega : now + lm.maxb ≤ 1000000000)]; rfl
                    have HD := hid (HX2.out.due (now + lm.maxb) ht2 hml2 (fun m hm => ⟨hw m hm, (HP.out.en.wt m hm (hw m hm)).1⟩))
                    have HA0 := hid (EaI.start HP.out.en hw)
                    have Ht2 := hid ht2
                    clear HX2 HE hw ht2
                    go_wp2_with fail
                    refine HD.out.mono ?_
                    rintro e w5 ⟨xd, cd, ds, rfl, yd1, yd2, hdn, hdm, h5⟩
                    have H5 := (show Hid (HasR w1 w5 mb q2 [namesR (.slice xd ds.length cd) ds] ∧ EaI lm q2 q2 0 (now + lm.maxb)) from ⟨h5, HA0.out⟩)
                    have Hdm := hid hdm
                    clear h5 HA0 HD hdm
                    go_wp2_with fail
                    go_loopg [23] ds.length (fun gg v23 wz => ∃ (r : Nat) (q3 : Qs), v23 = .int .i64 r ∧ r + gg = ds.length ∧ Hid (HasR w1 wz mb q3 [namesR (.slice xd ds.length cd) ds] ∧ EaI lm q2 q3 r (now + lm.maxb)))
                    case atStart => exact ⟨0, q2, rfl, by omega, H5⟩
                    case round =>
                      obtain ⟨r, q3, rfl, hr, H6⟩ := hrel
                      have Hr := hid hr
                      have hrn : r ≤ ds.length := by omega
                      clear hr H5
                      by_cases hlr : r < ds.length
                      · obtain ⟨gd, cd', ed, hgd, d0, -⟩ := H6.out.1.nameAt (List.mem_cons_self ..) r hlr
                        injection ed with ed1 ed2 ed3
                        subst ed1 ed3
                        clear ed2
                        have HG := hid (H6.out.1.again ds[r] (now + lm.maxb) (by have := H6.out.2.ml; omega) (by have := H6.out.2.dl; omega) H6.out.2.en.inv.rl)
                        have HE2 := hid (H6.out.2.step Ht2.out ds[r] (Hdm.out _ (List.getElem_mem _)))
                        clear H6
                        generalize ds[r] = dr at d0 HG HE2
                        generalize Qm.again q3 dr (now + lm.maxb) = R at HG HE2
                        obtain ⟨f, q4⟩ := R
                        go_wp2_with fail
                        refine HG.out.mono ?_
                        rintro e w6 ⟨rfl, h6⟩
                        have H7 := (show Hid (HasR w1 w6 mb q4 [namesR (.slice (some ⟨gd, 0, none⟩) ds.length cd) ds] ∧ EaI lm q2 q4 (r + 1) (now + lm.maxb)) from ⟨h6, HE2.out⟩)
                        clear h6 HE2 HG
                        go_wp2_with fail
                        go_roundg (gk - 1)
                        case measure => have := Hr.out; omega
                        case rel => exact ⟨r + 1, q4, by go_num, by have := Hr.out; omega, H7⟩
                      · obtain rfl : r = ds.length := by omega
                        have HO := (show Hid (HasR w1 wr mb q3 [] ∧ OutI lm q3 (i + 1) nx k2 (limR res) (now + lm.maxb)) from ⟨H6.out.1.tail, H6.out.2.out hdn hx20 hmx hdx hk2 hmu (by omega) (by omega)⟩)
                        clear H6
                        go_wp2_with fail
                        go_roundg (gk0 - 1)
                        case measure => have := Hi.out; have := Hg0.out; omega
                        case rel => exact ⟨i + 1, nx, k2, now + lm.maxb, q3, rfl, rfl, rfl, by go_num, by have := Hi.out; have := Hg0.out; omega, hnx, HO⟩
                · as_aux_lemma =>
                  have hjn := HP.out.en.inv.next hn
                  have hjl : j.rs.length ≤ 50 := hjn.2.2.2.1
                  obtain ⟨q4, hdn, hI4, hQ4⟩ := HP.out.step hn now Ht.out (Int.le_refl _)
                  have HST := hid (And.intro (hjn.1.fitsJ j) (And.intro hdn (And.intro hI4 hQ4)))
                  obtain ⟨l1, l2, -⟩ := next_lengths hn
                  have hml3 : q3.ms.length ≤ 20 := by omega
                  have hdl3 : q3.ds.length ≤ 4000 := by omega
                  have h4 := h3.box [.string j.id, .string j.dest, .slice xj j.rs.length cj] 49
                  clear hjn hdn hI4 hQ4 l1 l2 h3 hn HN HP HMd
                  go_upto_region 19 with (fail)
                  generalize w3.alloc (.cells #[.string j.id, .string j.dest, .slice xj j.rs.length cj] 49) = w4 at h4 ⊢
                  have H5 := (show Hid (HasR w1 w4 mb q3 (iRow ⟨.slice none 0 0, ansK res k2 0⟩ :: boxR w3.heap.size 49 [.string j.id, .string j.dest, .slice xj j.rs.length cj] :: [jRow (.slice xj j.rs.length cj) j])) from h4.empty 3 1)
                  obtain ⟨e2, ebl, -⟩ := h4.boxAt (List.mem_cons_self ..) 2 (by simp)
                  simp only [List.getElem_cons_succ, List.getElem_cons_zero] at e2
                  clear h4 ebl
                  obtain ⟨gk1, hg1⟩ : ∃ g, g = gk := ⟨gk, rfl⟩
                  have Hg1 := hid hg1
                  clear hg1
                  go_wp2_with fail
                  go_loopg [11, 17, 18, 19] j.rs.length (fun gg v11 v17 v18 v19 wz => ∃ x : Nat, v19 = .int .i64 x ∧ v11 = .int .i64 ((min (k2 + x) (limR res) : Nat) : Int) ∧ v18 = .bool (ansG res k2 x) ∧ x + gg = j.rs.length ∧ Hid (HasR w1 wz mb q3 (iRow ⟨v17, ansK res k2 x⟩ :: boxR w3.heap.size 49 [.string j.id, .string j.dest, .slice xj j.rs.length cj] :: [jRow (.slice xj j.rs.length cj) j])))
                  case atStart => exact ⟨0, rfl, by rw [show min (k2 + 0) (limR res) = k2 by omega], rfl, by omega, H5⟩
                  case round =>
                    obtain ⟨x, rfl, hv11, hv18, hx, H6⟩ := hrel
                    have Hx := hid hx
                    have hxn : x ≤ j.rs.length := by omega
                    clear hx H5 e2
                    obtain ⟨e2, ebl, -⟩ := H6.out.boxAt (List.mem_cons_of_mem _ (List.mem_cons_self ..)) 2 (by simp)
                    simp only [List.getElem_cons_succ, List.getElem_cons_zero] at e2
                    obtain ⟨xo, co, eo, yo1, yo2⟩ := H6.out.shape (List.mem_cons_self ..)
                    change u17 = .slice xo (ansK res k2 x).length co at eo
                    change (ansK res k2 x).length ≤ co at yo1
                    subst eo
                    have hol := ansK_len res k2 x
                    rw [hol]
                    by_cases hlx : x < j.rs.length
                    · have hnK := ansK_next res k2 x
                      have hnG := ansG_next res k2 x
                      by_cases hlk : k2 + x < limR res
                      · rw [show min (k2 + x) (limR res) = k2 + x by omega] at hv11
                        subst hv11
                        have hr1 : k2 + x < res.length := by omega
                        have hr2 : ((k2 : Int) + x < 100) := by omega
                        have hr2b : decide ((k2 : Int) + x < 100) = true := decide_eq_true hr2
                        obtain ⟨br, or_, rfl, hbr, r0⟩ := HS2.out.2 (k2 + x) hr1
                        have r1 : wr.cell? ⟨br, or_ + (k2 + x), none⟩ = some (.int .i64 (res.getD (k2 + x) 0)) := (H6.out.ext.cell hbr (fun f => f) (or_ + (k2 + x))).trans r0
                        have hbr2 := Nat.lt_of_lt_of_le hbr H6.out.ext.size
                        have hb := i64_and1 (res.getD (k2 + x) 0)
                        have hat : ansAt res (k2 + x) = 1 + (res.getD (k2 + x) 0 % 2).toNat := if_pos hlk
                        clear r0 hbr
                        generalize res.getD (k2 + x) 0 = v at r1 hb hat
                        rcases (by omega : v % 2 = 0 ∨ v % 2 = 1) with hp | hp
                        · rw [hp] at hb hat
                          change ansAt res (k2 + x) = 1 at hat
                          rw [hat] at hnK hnG
                          obtain ⟨xb, cb, wA, hrun, z1, z2, hN2⟩ := H6.out.int1 1 (by omega)
                          rw [← hnK] at hN2
                          rw [show ((1 : Nat) : Int) = 1 from rfl] at hrun
                          rw [hol] at hrun hN2
                          have H7 := hid hN2
                          have HnG := hid hnG
                          generalize ansG res k2 x = G at hv18 HnG
                          subst hv18
                          clear hN2 hnK hnG hat H6
                          cases G with
                          | true =>
                            go_wp2_with (at_builtin; refine wpList_append_run rfl (.tmp 127) (.tmp 129) 30 rfl (.slice xo x co) (.slice (some ⟨wr.heap.size, 0, none⟩) 1 1) (.slice xb (x + 1) cb) wA rfl rfl hrun ?_)
                            go_roundg (gk - 1)
                            case measure => have := Hx.out; omega
                            case rel => exact ⟨x + 1, by go_num, congrArg (Value.int .i64) (by omega), by rw [HnG.out]; rfl, by have := Hx.out; omega, H7⟩
                          | false =>
                            go_wp2_with (at_builtin; refine wpList_append_run rfl (.tmp 127) (.tmp 129) 30 rfl (.slice xo x co) (.slice (some ⟨wr.heap.size, 0, none⟩) 1 1) (.slice xb (x + 1) cb) wA rfl rfl hrun ?_)
                            go_roundg (gk - 1)
                            case measure => have := Hx.out; omega
                            case rel => exact ⟨x + 1, by go_num, congrArg (Value.int .i64) (by omega), by rw [HnG.out]; rfl, by have := Hx.out; omega, H7⟩
                        · rw [hp] at hb hat
                          change ansAt res (k2 + x) = 2 at hat
                          rw [hat] at hnK hnG
                          obtain ⟨xb, cb, wA, hrun, z1, z2, hN2⟩ := H6.out.int1 2 (by omega)
                          rw [← hnK] at hN2
                          rw [show ((2 : Nat) : Int) = 2 from rfl] at hrun
                          rw [hol] at hrun hN2
                          have H7 := hid hN2
                          have HnG := hid hnG
                          generalize ansG res k2 x = G at hv18 HnG
                          subst hv18
                          clear hN2 hnK hnG hat H6
                          cases G with
                          | true =>
                            go_wp2_with (at_builtin; refine wpList_append_run rfl (.tmp 127) (.tmp 129) 30 rfl (.slice xo x co) (.slice (some ⟨wr.heap.size, 0, none⟩) 1 1) (.slice xb (x + 1) cb) wA rfl rfl hrun ?_)
                            go_roundg (gk - 1)
                            case measure => have := Hx.out; omega
                            case rel => exact ⟨x + 1, by go_num, congrArg (Value.int .i64) (by omega), by rw [HnG.out]; rfl, by have := Hx.out; omega, H7⟩
                          | false =>
                            go_wp2_with (at_builtin; refine wpList_append_run rfl (.tmp 127) (.tmp 129) 30 rfl (.slice xo x co) (.slice (some ⟨wr.heap.size, 0, none⟩) 1 1) (.slice xb (x + 1) cb) wA rfl rfl hrun ?_)
                            go_roundg (gk - 1)
                            case measure => have := Hx.out; omega
                            case rel => exact ⟨x + 1, by go_num, congrArg (Value.int .i64) (by omega), by rw [HnG.out]; rfl, by have := Hx.out; omega, H7⟩
                      · rw [show min (k2 + x) (limR res) = limR res by omega] at hv11
                        subst hv11
                        have hat : ansAt res (k2 + x) = 2 := if_neg hlk
                        rcases (by omega : ¬ limR res < res.length ∨ (limR res < res.length ∧ ¬ limR res < 100)) with hr1 | ⟨hr1, hr2⟩
                        · have hr1b : decide (limR res < res.length) = false := decide_eq_false hr1
                          rw [hat] at hnK hnG
                          obtain ⟨xb, cb, wA, hrun, z1, z2, hN2⟩ := H6.out.int1 2 (by omega)
                          rw [← hnK] at hN2
                          rw [show ((2 : Nat) : Int) = 2 from rfl] at hrun
                          rw [hol] at hrun hN2
                          have H7 := hid hN2
                          have HnG := hid hnG
                          generalize ansG res k2 x = G at hv18 HnG
                          subst hv18
                          clear hN2 hnK hnG hat H6
                          cases G with
                          | true =>
                            go_wp2_with (at_builtin; refine wpList_append_run rfl (.tmp 127) (.tmp 129) 30 rfl (.slice xo x co) (.slice (some ⟨wr.heap.size, 0, none⟩) 1 1) (.slice xb (x + 1) cb) wA rfl rfl hrun ?_)
                            go_roundg (gk - 1)
                            case measure => have := Hx.out; omega
                            case rel => exact ⟨x + 1, by go_num, congrArg (Value.int .i64) (by omega), by rw [HnG.out]; rfl, by have := Hx.out; omega, H7⟩
                          | false =>
                            go_wp2_with (at_builtin; refine wpList_append_run rfl (.tmp 127) (.tmp 129) 30 rfl (.slice xo x co) (.slice (some ⟨wr.heap.size, 0, none⟩) 1 1) (.slice xb (x + 1) cb) wA rfl rfl hrun ?_)
                            go_roundg (gk - 1)
                            case measure => have := Hx.out; omega
                            case rel => exact ⟨x + 1, by go_num, congrArg (Value.int .i64) (by omega), by rw [HnG.out]; rfl, by have := Hx.out; omega, H7⟩
                        · have hr1b : decide (limR res < res.length) = true := decide_eq_true hr1
                          have hr2b : decide ((limR res : Int) < 100) = false := decide_eq_false (by omega)
                          rw [hat] at hnK hnG
                          obtain ⟨xb, cb, wA, hrun, z1, z2, hN2⟩ := H6.out.int1 2 (by omega)
                          rw [← hnK] at hN2
                          rw [show ((2 : Nat) : Int) = 2 from rfl] at hrun
                          rw [hol] at hrun hN2
                          have H7 := hid hN2
                          have HnG := hid hnG
                          generalize ansG res k2 x = G at hv18 HnG
                          subst hv18
                          clear hN2 hnK hnG hat H6
                          cases G with
                          | true =>
                            go_wp2_with (at_builtin; refine wpList_append_run rfl (.tmp 127) (.tmp 129) 30 rfl (.slice xo x co) (.slice (some ⟨wr.heap.size, 0, none⟩) 1 1) (.slice xb (x + 1) cb) wA rfl rfl hrun ?_)
                            go_roundg (gk - 1)
                            case measure => have := Hx.out; omega
                            case rel => exact ⟨x + 1, by go_num, congrArg (Value.int .i64) (by omega), by rw [HnG.out]; rfl, by have := Hx.out; omega, H7⟩
                          | false =>
                            go_wp2_with (at_builtin; refine wpList_append_run rfl (.tmp 127) (.tmp 129) 30 rfl (.slice xo x co) (.slice (some ⟨wr.heap.size, 0, none⟩) 1 1) (.slice xb (x + 1) cb) wA rfl rfl hrun ?_)
                            go_roundg (gk - 1)
                            case measure => have := Hx.out; omega
                            case rel => exact ⟨x + 1, by go_num, congrArg (Value.int .i64) (by omega), by rw [HnG.out]; rfl, by have := Hx.out; omega, H7⟩
                    · obtain rfl : x = j.rs.length := by omega
                      subst hv11 hv18
                      obtain ⟨e0, -, -⟩ := H6.out.boxAt (List.mem_cons_of_mem _ (List.mem_cons_self ..)) 0 (by simp)
                      obtain ⟨e1, -, -⟩ := H6.out.boxAt (List.mem_cons_of_mem _ (List.mem_cons_self ..)) 1 (by simp)
                      simp only [List.getElem_cons_zero] at e0
                      simp only [List.getElem_cons_succ, List.getElem_cons_zero] at e1
                      have HD := hid (H6.out.doneI (j := j) (List.mem_cons_of_mem _ (List.mem_cons_of_mem _ (List.mem_cons_self ..))) (rs := ansK res k2 j.rs.length) (List.mem_cons_self ..) (ansG res k2 j.rs.length) now (by omega) (by omega) HST.out.1)
                      have hdn : Qm.done q3 j ((ansK res k2 j.rs.length).map fun (n : Nat) => (n : Int)) (ansG res k2 j.rs.length) now = (0, q4) := HST.out.2.1
                      rw [hdn, hol] at HD
                      clear hdn H6
                      go_wp2_with fail
                      refine HD.out.mono ?_
                      rintro e w5 ⟨rfl, h5⟩
                      have H7 := (show Hid (HasR w1 w5 mb q4 [] ∧ InnI lm q k (limR res) q4 (min (k2 + j.rs.length) (limR res)) (now + lm.maxb)) from ⟨h5.tail.tail.tail, HST.out.2.2.1⟩)
                      clear h5 HD
                      go_wp2_with fail
                      go_roundg (Qn q4.ms)
                      case measure => have := HST.out.2.2.2; have := Hqn.out; have := Hg1.out; omega
                      case rel => exact ⟨_, q4, rfl, Nat.le_refl _, H7⟩
end Go.Proofs.Ytnakafmlenngnaa.Qm

/- The row: the given statement from the walk of the law. -/
namespace Go.Proofs.Ytnakafmlenngnaa.qmgrEnds
open Go.ChangeShapes Go.WideShapes Go.ChangeAt Go.RowKit
open Go.ChangeMaps (open_string shut_string)
set_option linter.unusedVariables false

theorem ends_both (a i m mi ma li : Int) (x : Option Addr) (dl : List (List ByteArray)) (c : Nat) (xr : Option Addr) (res : List Int) (cr : Nat) (w : World) (hr : Qm.DsAt w x dl) (hs : Qm.ResL w xr res) : Calls Try.prog 11 #[Qm.limV a i m mi ma li, .slice x dl.length c, .slice xr res.length cr] w fun e w' => e = .returned (.bool true) ∧ Below w.heap.size w w' :=
  (Qm.ends_law_run a i m mi ma li x dl c xr res cr w hr hs).mono fun _ _ ⟨he, hx⟩ => ⟨he, hx.below (Nat.le_refl _) fun _ f => f.elim⟩
theorem own : ownKnob Try.prog.godebug = none := by kernel_rfl
theorem laidOut : laidOutB Try.prog = true := by kernel_rfl

set_option maxRecDepth 100000 in
theorem lifted (os : Os) (started : os.Started) (H : Type) (enc : TypeId × Value → H) :
    ReturnsInHanded {} Try.checked os 11 .any (Rows.qmgrEndsSpec.pre6 enc Try.prog Try.f11 Rows.qmgrEndsRow.domain false) (Rows.qmgrEndsSpec.post enc Try.prog Try.f11 false true false false) := by
  refine returnsInHanded_of_change (C := Try.checked) own started (by kernel_rfl) Try.func11
    (ChangeSpec.witness6 (enc := enc) (C := Try.checked) false ⟨#[], #[.agg #[.int .i64 0, .int .i64 0, .int .i64 0, .int .i64 0, .int .i64 0, .int .i64 0], .slice none 0 0, .slice none 0 0], []⟩ 8 (by kernel_rfl) (by kernel_rfl) (by kernel_rfl) (by kernel_rfl)) ?_
  intro W base args ds gs before hval0 hW hcnd _
  have hval : ∀ (j : Nat) t v, Try.f11.params[j]? = some t → args[j]? = some v → Value.okWide Try.prog W .any base t v := hval0
  have hW' := hW
  obtain ⟨p, q, hA0, hV, rfl, hfz, hnd⟩ := hW
  have hA : DataW.TrodAll enc Try.prog W 0 (fun _ => true) true Try.f11.params.toList args.toList ds p := hA0
  rw [Try.params11] at hA hval
  obtain ⟨v0, vs0, d0, ds0, p0, q0, hargs, rfl, rfl, h0, r0⟩ := trodAll_cons hA
  obtain ⟨v1, vs1, d1, ds1, p1, q1, rfl, rfl, rfl, h1, r1⟩ := trodAll_cons r0
  obtain ⟨v2, vs2, d2, ds2, p2, q2, rfl, rfl, rfl, h2, r2⟩ := trodAll_cons r1
  obtain ⟨rfl, rfl, rfl⟩ := trodAll_nil r2
  obtain rfl : args = #[v0, v1, v2] := by cases args; simp_all
  obtain ⟨rfl, rfl⟩ := trodVars_none hV
  have k0 := h0
  have lt0 : ∀ x ∈ p0, x.block < W.heap.size := by obtain ⟨m, hm⟩ := k0; exact DataW.trod_lt m _ _ _ hm
  have k1 := h1
  have lt1 : ∀ x ∈ p1, x.block < W.heap.size := by obtain ⟨m, hm⟩ := k1; exact DataW.trod_lt m _ _ _ hm
  have k2 := h2
  have lt2 : ∀ x ∈ p2, x.block < W.heap.size := by obtain ⟨m, hm⟩ := k2; exact DataW.trod_lt m _ _ _ hm
  obtain ⟨a0, a1, a2, a3, a4, a5, rfl⟩ := Qm.open_lim (hval 0 43 v0 rfl rfl) h0
  obtain ⟨x1, l1, c1, rfl, hl1⟩ := Qm.open_dests (hval 1 75 v1 rfl rfl) h1
  obtain ⟨x2, l2, c2, rfl, hl2⟩ := Qm.open_ress (hval 2 30 v2 rfl rfl) h2
  clear hA0 hval0
  refine (ends_both a0 a1 a2 a3 a4 a5 x1 l1 c1 x2 l2 c2 W hl1 hl2).mono fun e W' ⟨he, bel⟩ => ?_
  subst he
  exact ⟨_, rfl, _, _, _, [], _, [], hW', trodAll_mk1 (shut_bool Try.underlying4 _), (trodAll_cons_mk (Below.trod laidOut (by kernel_rfl) (of_decide_eq_true (by kernel_rfl)) k0 bel lt0) (trodAll_cons_mk (Below.trod laidOut (by kernel_rfl) (of_decide_eq_true (by kernel_rfl)) k1 bel lt1) (trodAll_cons_mk (Below.trod laidOut (by kernel_rfl) (of_decide_eq_true (by kernel_rfl)) k2 bel lt2) trodAll_mk0))), rfl, bel.frame _, fun h => by cases h⟩

theorem over : Rows.qmgrEndsRow.holds Try.pinned (OpenSpec.ofChange Rows.qmgrEndsSpec) :=
  OpenClaim.holds_of_wide 11 Try.f11 rfl rfl rfl rfl rfl rfl rfl ⟨rfl, rfl, rfl, rfl, rfl⟩ rfl rfl rfl rfl rfl (by kernel_rfl) Try.func11 (by kernel_rfl)
    (of_decide_eq_true (by kernel_rfl)) (by unfold Func.isWrapper; first | (rw [if_pos (by decide +kernel)]; kernel_rfl) | (rw [if_neg (by decide +kernel)]; exact ⟨rfl, rfl⟩))
    (fun os started H enc _ => lifted os started H enc)

theorem proved : Rows.QmgrEndsSaid := over
end Go.Proofs.Ytnakafmlenngnaa.qmgrEnds
