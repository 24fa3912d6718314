/- Dead, in plain terms. -/
import Derived.Test.YtnakafmlenngnaaQwm
namespace Go.Proofs.Ytnakafmlenngnaa.Qm
open Go.Proofs.Ytnakafmlenngnaa.Wi

def Rest (ms : List Ml) : Prop := ∀ m ∈ ms, m.waits = true
def Else (ms : List Ml) (id : ByteArray) : Prop := ∀ m ∈ ms, m.id ≠ id

theorem endsM_rest {lm : Lm} {now : Int} {ms : List Ml} (h : Rest ms) (l : List Ml) : endsM lm now (ms ++ l) = ms ++ endsM lm now l := by
  unfold endsM
  rw [List.filter_append, List.map_append]
  congr 1
  induction ms with
  | nil => rfl
  | cons m ms ih =>
    have hm := h m (List.mem_cons_self ..)
    have hg : gone m = false := by simp [gone, hm]
    have hw : wait lm now m = m := by simp [wait, hm]
    rw [List.filter_cons, hg]
    simp only [Bool.not_false, if_true, List.map_cons]
    rw [hw, ih fun x hx => h x (List.mem_cons_of_mem _ hx)]

theorem mIdx_else {ms : List Ml} {id : ByteArray} (h : Else ms id) : mIdx ms id = ms.length := by
  unfold mIdx
  rw [List.findIdx_eq_length]
  intro m hm
  simpa using h m hm
theorem mIdx_last {ms : List Ml} {m : Ml} (h : Else ms m.id) : mIdx (ms ++ [m]) m.id = ms.length := by
  have := mIdx_else h
  unfold mIdx at this ⊢
  rw [List.findIdx_append, if_neg (by omega)]
  simp

theorem inHand_rest {ms : List Ml} (h : Rest ms) : inHand ms = 0 := by
  unfold inHand
  rw [List.length_eq_zero_iff, List.filter_eq_nil_iff]
  intro m hm
  simp [h m hm]

theorem sIdx_rest {ms : List Ml} {n : ByteArray} (h : Rest ms) : sIdx ms n = ms.length := by
  unfold sIdx
  rw [List.findIdx_eq_length]
  intro m hm
  simp [serves, h m hm]
theorem sIdx_last {ms : List Ml} {m : Ml} {n : ByteArray} (h : Rest ms) (hm : serves n m = true) : sIdx (ms ++ [m]) n = ms.length := by
  have := sIdx_rest (n := n) h
  unfold sIdx at this ⊢
  rw [List.findIdx_append, if_neg (by omega)]
  simp [hm]

theorem addOk_D {id : ByteArray} (h1 : 1 ≤ id.size) (h2 : id.size ≤ 32) (came now : Int) : addOk id came [tX] now = (isT came && isT now) := by
  have h3 : tX.size = 1 := rfl
  have h4 : ¬ tX = ByteArray.empty := by decide
  simp [addOk, h1, h2, h3, h4]

theorem full_rest {q : Qs} (h : Rest q.ms) (ha : 1 ≤ q.lm.active) : full q = false := by
  unfold full
  rw [inHand_rest h]
  exact decide_eq_false (by omega)

/-- What an add is, to managers with nothing in hand and one destination. -/
theorem add_D {q : Qs} {id : ByteArray} {came now : Int} {s : Nat} {rev : Int} (hr : Rest q.ms) (he : Else q.ms id) (ha : 1 ≤ q.lm.active) (h1 : 1 ≤ id.size) (h2 : id.size ≤ 32) (hc : isT came = true) (hn : isT now = true) (hd : mkD q.lm q.ds tX = [⟨tX, s, 0, 0, rev⟩]) :
    add q id came [tX] now = (0, { q with ds := (if shut ⟨tX, s, 0, 0, rev⟩ now then [⟨tX, s, 0, 0, rev⟩] else [revD q.lm ⟨tX, s, 0, 0, rev⟩]), ms := q.ms ++ endsM q.lm now [⟨id, came, [⟨tX, if shut ⟨tX, s, 0, 0, rev⟩ now then 3 else 1⟩], false, 0⟩] }) := by
  have hok : addOk id came [tX] now = true := by rw [addOk_D h1 h2, hc, hn]; rfl
  have hi : dIdx q.ds tX = 0 := by
    unfold mkD at hd
    split at hd
    · rw [hd]; simp [dIdx]
    · have : q.ds.length = 0 := by
        have := congrArg List.length hd
        simpa using this
      rw [List.length_eq_zero_iff] at this
      rw [this]; rfl
  have hx : tX.size ≠ 0 := by decide
  have hq : queueD q.lm q.ds tX now = if shut ⟨tX, s, 0, 0, rev⟩ now then ([⟨tX, s, 0, 0, rev⟩], 3) else ([revD q.lm ⟨tX, s, 0, 0, rev⟩], 1) := by
    unfold queueD
    rw [hd, hi]
    rfl
  have hf : [tX].foldl (addTo q.lm now) (q.ds, []) = ((queueD q.lm q.ds tX now).1, [⟨tX, (queueD q.lm q.ds tX now).2⟩]) := by
    simp [addTo, hx]
  unfold add
  rw [hok, full_rest hr ha, hf, hq]
  simp only [Bool.not_true, Bool.false_eq_true, if_false]
  rw [if_neg (by rw [mIdx_else he]; omega), endsM_rest hr]
  split <;> rfl

/-- The manager's state between the rounds: k messages that wait; one destination. -/
structure Dd (q : Qs) (lm : Lm) (s : Nat) (rev : Int) : Prop where
  lm_ : q.lm = lm
  rest : Rest q.ms
  ds : mkD lm q.ds tX = [⟨tX, s, 0, 0, rev⟩]
  len : q.ds.length ≤ 1
  turn : q.turn = 0
  jobs : q.jobs = []

def q1D (q : Qs) (id : ByteArray) (now : Int) (s : Nat) (rev : Int) : Qs := { q with ds := [⟨tX, s, 0, 0, rev⟩], ms := q.ms ++ [⟨id, now, [⟨tX, 1⟩], false, 0⟩] }
def jD (id : ByteArray) : Jb := ⟨id, tX, [0]⟩
def q2D (q : Qs) (id : ByteArray) (now : Int) (s : Nat) (rev : Int) : Qs := { q with ds := [⟨tX, s, 0, 1, rev⟩], ms := q.ms ++ [⟨id, now, [⟨tX, 2⟩], false, 0⟩], jobs := [jD id] }

theorem Dd.add {q : Qs} {lm : Lm} {s : Nat} {rev : Int} (h : Dd q lm s rev) (ha : 1 ≤ lm.active) {id : ByteArray} {now : Int} (he : Else q.ms id) (h1 : 1 ≤ id.size) (h2 : id.size ≤ 32) (hn : isT now = true) (hs : 1 ≤ s) : Qm.add q id now [tX] now = (0, q1D q id now s rev) := by
  have hsh : shut ⟨tX, s, 0, 0, rev⟩ now = false := by simp [shut]; omega
  have hs0 : ¬ s = 0 := by omega
  obtain ⟨rfl, k2, k3, k4, k5, k6⟩ := h
  rw [add_D k2 he ha h1 h2 hn hn k3, hsh]
  simp [q1D, revD, revS, revC, hs0, endsM, gone, hasIn, wait]

theorem next_one {q : Qs} {id : ByteArray} {came : Int} {s : Nat} {rev : Int} (hr : Rest q.ms) (hs : 1 ≤ s) (ht : q.turn = 0) (hj : q.jobs = []) : Qm.next (q1D q id came s rev) = some (jD id, q2D q id came s rev) := by
  have hsv : serves tX ⟨id, came, [⟨tX, 1⟩], false, 0⟩ = true := by simp [serves, goes]
  have hsi : sIdx (q1D q id came s rev).ms tX = q.ms.length := sIdx_last hr hsv
  have hsp : spot (q1D q id came s rev) 0 = 0 := by simp [spot, q1D]; omega
  have hhit : hit (q1D q id came s rev) 0 = true := by
    unfold hit
    rw [hsp]
    show (decide _ && decide _) = true
    rw [hsi]
    simp [q1D]; omega
  have := next_some (q := q1D q id came s rev) (k := 0) (by simp [q1D]) hhit (fun j hj => absurd hj (Nat.not_lt_zero _)) (d := ⟨tX, s, 0, 0, rev⟩) (by rw [hsp]; rfl) (m := ⟨id, came, [⟨tX, 1⟩], false, 0⟩) (by rw [hsi]; simp [q1D])
  rw [this]
  unfold begin_
  rw [hsi, hsp]
  simp [q1D, q2D, jD, goes, takeTo, hj, ht]

def dueD (lm : Lm) (came now : Int) : Int := min 1000000000 (now + back lm now came)
theorem done_D {q : Qs} {lm : Lm} {s : Nat} {rev : Int} (h : Dd q lm s rev) {id : ByteArray} {now : Int} (he : Else q.ms id) (hn : isT now = true) (hs : 1 ≤ s) :
    (done (q2D q id now s rev) (jD id) [1] false now).1 = 0 ∧ Dd (done (q2D q id now s rev) (jD id) [1] false now).2 lm (s - 1) (if s = 1 then now + lm.minb else rev) ∧
      (done (q2D q id now s rev) (jD id) [1] false now).2.ms.length = q.ms.length + 1 ∧ (∀ x, Else q.ms x → x ≠ id → Else (done (q2D q id now s rev) (jD id) [1] false now).2.ms x) := by
  have hd : doneOk (jD id) [1] now = true := by simp [doneOk, hn, jD]
  have hx : mIdx (q2D q id now s rev).ms (jD id).id = q.ms.length := mIdx_last (m := ⟨id, now, [⟨tX, 2⟩], false, 0⟩) he
  have hm : (q2D q id now s rev).ms[mIdx (q2D q id now s rev).ms (jD id).id]? = some ⟨id, now, [⟨tX, 2⟩], false, 0⟩ := by rw [hx]; simp [q2D]
  have hds : (mkD (q2D q id now s rev).lm (q2D q id now s rev).ds (jD id).dest)[dIdx (q2D q id now s rev).ds (jD id).dest]? = some ⟨tX, s, 0, 1, rev⟩ := by simp [q2D, mkD, dIdx, jD]
  have hj : jIdx (q2D q id now s rev).jobs (jD id) < (q2D q id now s rev).jobs.length := by simp [q2D, jIdx, jD]
  have hlm : (q2D q id now s rev).lm = lm := h.lm_
  unfold done
  rw [hd, hm, hds]
  simp only [Bool.not_true, Bool.false_eq_true, if_false, hj, if_true]
  refine ⟨trivial, ?_⟩
  unfold doneAt
  rw [hx, hlm]
  have hs0 : ¬ s = 0 := by omega
  have hdd : doneD lm false ⟨tX, s, 0, 1, rev⟩ = ⟨tX, s - 1, 0, 0, rev⟩ := by simp [doneD, doneS, doneC, hs0]
  rw [hdd]
  have hset : (q2D q id now s rev).ms.set q.ms.length { (⟨id, now, [⟨tX, 2⟩], false, 0⟩ : Ml) with rs := ((jD id).rs.zip [1]).foldl settle [⟨tX, 2⟩] } = q.ms ++ [⟨id, now, [⟨tX, 3⟩], false, 0⟩] := by
    simp [q2D, jD, settle, setSt]
  have hmk : (mkD lm (q2D q id now s rev).ds (jD id).dest) = [⟨tX, s, 0, 1, rev⟩] := by simp [mkD, q2D, jD, dIdx]
  have hdi : dIdx (q2D q id now s rev).ds (jD id).dest = 0 := by simp [dIdx, q2D, jD]
  have hjx : (q2D q id now s rev).jobs.eraseIdx (jIdx (q2D q id now s rev).jobs (jD id)) = [] := by simp [q2D, jIdx, jD]
  rw [hset, hmk, hdi, hjx]
  have hro : Rest (q.ms.map (offM tX)) := by
    intro m hm
    obtain ⟨m', h1, rfl⟩ := List.mem_map.mp hm
    exact h.rest m' h1
  have heo : ∀ x, Else q.ms x → Else (q.ms.map (offM tX)) x := by
    intro x hx m hm
    obtain ⟨m', h1, rfl⟩ := List.mem_map.mp hm
    exact hx m' h1
  have hlast : ∀ t, endsM lm t [⟨id, now, [⟨tX, 3⟩], false, 0⟩] = [⟨id, now, [⟨tX, 3⟩], true, min 1000000000 (t + back lm t now)⟩] := fun t => by simp [endsM, gone, hasIn, wait]
  have hoff : offM tX ⟨id, now, [⟨tX, 3⟩], false, 0⟩ = ⟨id, now, [⟨tX, 3⟩], false, 0⟩ := by simp [offM, offR, goes]
  by_cases h1 : s = 1
  · subst h1
    simp only [Nat.sub_self, if_true, List.map_append, List.map_cons, List.map_nil]
    rw [hoff, endsM_rest hro, hlast]
    refine ⟨⟨rfl, ?_, by simp [mkD, dIdx], by simp, h.turn, rfl⟩, by simp, ?_⟩
    · intro m hm
      rcases List.mem_append.mp hm with f | f
      · exact hro m f
      · simp only [List.mem_singleton] at f; subst f; rfl
    · intro x hx hne m hm
      rcases List.mem_append.mp hm with f | f
      · exact heo x hx m f
      · simp only [List.mem_singleton] at f; subst f; exact fun e => hne e.symm
  · have hs1 : ¬ s - 1 = 0 := by omega
    simp only [hs1, if_false, h1]
    rw [endsM_rest h.rest, hlast]
    refine ⟨⟨rfl, ?_, by simp [mkD, dIdx], by simp, h.turn, rfl⟩, by simp, ?_⟩
    · intro m hm
      rcases List.mem_append.mp hm with f | f
      · exact h.rest m f
      · simp only [List.mem_singleton] at f; subst f; rfl
    · intro x hx hne m hm
      rcases List.mem_append.mp hm with f | f
      · exact hx m f
      · simp only [List.mem_singleton] at f; subst f; exact fun e => hne e.symm

theorem fits_D {q : Qs} {id : ByteArray} {now : Int} {s : Nat} {rev : Int} (he : Else q.ms id) : ∀ m, (q2D q id now s rev).ms[mIdx (q2D q id now s rev).ms (jD id).id]? = some m → jIdx (q2D q id now s rev).jobs (jD id) < (q2D q id now s rev).jobs.length → ∀ r ∈ (jD id).rs, r < m.rs.length := by
  intro m hm _ r hr
  have hx : mIdx (q2D q id now s rev).ms (jD id).id = q.ms.length := mIdx_last (m := ⟨id, now, [⟨tX, 2⟩], false, 0⟩) he
  rw [hx] at hm
  have : (q2D q id now s rev).ms[q.ms.length]? = some ⟨id, now, [⟨tX, 2⟩], false, 0⟩ := by simp [q2D]
  rw [this] at hm
  injection hm with hm
  subst hm
  simp [jD] at hr
  subst hr
  simp

/-- An add to a dead destination. -/
def q3D (q : Qs) (id : ByteArray) (came now : Int) (rev : Int) : Qs := { q with ds := [⟨tX, 0, 0, 0, rev⟩], ms := q.ms ++ [⟨id, came, [⟨tX, 3⟩], true, dueD q.lm came now⟩] }
theorem Dd.shut_ {q : Qs} {lm : Lm} {rev : Int} (h : Dd q lm 0 rev) (ha : 1 ≤ lm.active) {id : ByteArray} {came now : Int} (he : Else q.ms id) (h1 : 1 ≤ id.size) (h2 : id.size ≤ 32) (hc : isT came = true) (hn : isT now = true) (hs : now < rev) : Qm.add q id came [tX] now = (0, q3D q id came now rev) ∧ Dd (q3D q id came now rev) lm 0 rev := by
  have hsh : shut ⟨tX, 0, 0, 0, rev⟩ now = true := by simp [shut, hs]
  obtain ⟨rfl, k2, k3, k4, k5, k6⟩ := h
  rw [add_D k2 he ha h1 h2 hc hn k3, hsh]
  refine ⟨by simp [q3D, endsM, gone, hasIn, wait, dueD], ⟨rfl, ?_, by simp [mkD, dIdx, q3D], by simp [q3D], k5, k6⟩⟩
  intro m hm
  rcases List.mem_append.mp hm with f | f
  · exact k2 m f
  · simp only [List.mem_singleton] at f; subst f; rfl
theorem Dd.none {q : Qs} {lm : Lm} {s : Nat} {rev : Int} (h : Dd q lm s rev) (hd : q.ds = [⟨tX, s, 0, 0, rev⟩]) : Qm.next q = none := by
  have : turnsTo q = 1 := by
    unfold turnsTo
    have hh : hit q 0 = false := by
      unfold hit
      split
      · rfl
      · rw [sIdx_rest h.rest]; simp
    rw [hd]
    simp [hh]
  unfold Qm.next
  split
  · rfl
  · rw [this, hd]; simp
theorem when_D {q : Qs} {id : ByteArray} {came now : Int} {rev : Int} (he : Else q.ms id) : whenQ (q3D q id came now rev) id = dueD q.lm came now := by
  unfold whenQ
  have hx : mIdx (q3D q id came now rev).ms id = q.ms.length := mIdx_last (m := ⟨id, came, [⟨tX, 3⟩], true, dueD q.lm came now⟩) he
  rw [hx]
  simp [q3D]
theorem Dd.revived {q : Qs} {lm : Lm} {rev : Int} (h : Dd q lm 0 rev) (ha : 1 ≤ lm.active) {id : ByteArray} {came now : Int} (he : Else q.ms id) (h1 : 1 ≤ id.size) (h2 : id.size ≤ 32) (hc : isT came = true) (hn : isT now = true) (hs : rev ≤ now) : Qm.add q id came [tX] now = (0, q1D q id came lm.ini rev) := by
  have hsh : shut ⟨tX, 0, 0, 0, rev⟩ now = false := by simp [shut]; omega
  obtain ⟨rfl, k2, k3, k4, k5, k6⟩ := h
  rw [add_D k2 he ha h1 h2 hc hn k3, hsh]
  simp [q1D, revD, revS, revC, endsM, gone, hasIn, wait]
end Go.Proofs.Ytnakafmlenngnaa.Qm
