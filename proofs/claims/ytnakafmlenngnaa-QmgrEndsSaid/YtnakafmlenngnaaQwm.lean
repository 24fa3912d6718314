/- Waits, in plain terms. -/
import Derived.Test.YtnakafmlenngnaaQaw
namespace Go.Proofs.Ytnakafmlenngnaa.Qm
open Go.Proofs.Ytnakafmlenngnaa.Wi

def q1W (lm : Lm) (came : Int) : Qs := ⟨lm, [⟨tA, came, [⟨tX, 1⟩], false, 0⟩], [⟨tX, lm.ini, 0, 0, 0⟩], 0, []⟩
def jW : Jb := ⟨tA, tX, [0]⟩
def q2W (lm : Lm) (came : Int) : Qs := ⟨lm, [⟨tA, came, [⟨tX, 2⟩], false, 0⟩], [⟨tX, lm.ini, 0, 1, 0⟩], 0, [jW]⟩

theorem addOk_W (came now : Int) : addOk tA came [tX] now = (isT came && isT now) := by
  have h1 : tA.size = 1 := rfl
  have h2 : tX.size = 1 := rfl
  have h3 : ¬ tX = ByteArray.empty := by decide
  simp [addOk, h1, h2, h3]

theorem add_W (lm : Lm) (h : lm.Ok) (came now : Int) (hc : isT came = true) (hn : isT now = true) : add (begin0 lm) tA came [tX] now = (0, q1W lm came) := by
  obtain ⟨h1, -, h3, -⟩ := h
  have hok : addOk tA came [tX] now = true := by rw [addOk_W, hc, hn]; rfl
  have hx : tX.size ≠ 0 := by decide
  have hs : ¬ lm.ini = 0 := by omega
  have hq : queueD lm [] tX now = ([⟨tX, lm.ini, 0, 0, 0⟩], 1) := by
    simp [queueD, mkD, dIdx, shut, hs, revD, revS, revC]
  have hf : [tX].foldl (addTo lm now) ([], []) = ([⟨tX, lm.ini, 0, 0, 0⟩], [⟨tX, 1⟩]) := by
    simp [addTo, hx, hq]
  have hfu : full (begin0 lm) = false := by
    have : ¬ lm.active ≤ 0 := by omega
    exact decide_eq_false this
  unfold add
  rw [hok]
  simp only [Bool.not_true, Bool.false_eq_true, if_false]
  have hm : ¬ mIdx (begin0 lm).ms tA < (begin0 lm).ms.length := by simp [begin0]
  rw [if_neg hm, hfu]
  simp only [Bool.false_eq_true, if_false]
  show (_, (⟨lm, endsM lm now ([] ++ [⟨tA, came, ([tX].foldl (addTo lm now) ([], [])).2, false, 0⟩]), ([tX].foldl (addTo lm now) ([], [])).1, 0, []⟩ : Qs)) = _
  rw [hf]
  simp [endsM, gone, hasIn, wait, q1W]

theorem next_W (lm : Lm) (h : lm.Ok) (came : Int) : next (q1W lm came) = some (jW, q2W lm came) := by
  obtain ⟨-, -, h3, -⟩ := h
  have hhit : hit (q1W lm came) 0 = true := by
    simp [hit, spot, q1W, sIdx, serves, goes]; omega
  have := next_some (q := q1W lm came) (k := 0) (by simp [q1W]) hhit (fun j hj => absurd hj (Nat.not_lt_zero _)) (d := ⟨tX, lm.ini, 0, 0, 0⟩) (by simp [spot, q1W]) (m := ⟨tA, came, [⟨tX, 1⟩], false, 0⟩) (by simp [sIdx, q1W, serves, goes])
  rw [this]
  simp [begin_, q1W, q2W, jW, spot, sIdx, serves, goes, takeTo]

def dueW (lm : Lm) (came now : Int) : Int := min 1000000000 (now + back lm now came)
/-- The message waits, whatever became of the destination. -/
theorem done_W (lm : Lm) (came now : Int) (g : Bool) (hn : isT now = true) : (done (q2W lm came) jW [1] g now).1 = 0 ∧ (done (q2W lm came) jW [1] g now).2.ms = [⟨tA, came, [⟨tX, 3⟩], true, dueW lm came now⟩] := by
  have hd : doneOk jW [1] now = true := by simp [doneOk, hn, jW]
  have hm : (q2W lm came).ms[mIdx (q2W lm came).ms jW.id]? = some ⟨tA, came, [⟨tX, 2⟩], false, 0⟩ := by simp [q2W, mIdx, jW]
  have hds : (mkD (q2W lm came).lm (q2W lm came).ds jW.dest)[dIdx (q2W lm came).ds jW.dest]? = some ⟨tX, lm.ini, 0, 1, 0⟩ := by simp [q2W, mkD, dIdx, jW]
  have hj : jIdx (q2W lm came).jobs jW < (q2W lm came).jobs.length := by simp [q2W, jIdx, jW]
  unfold done
  rw [hd, hm, hds]
  simp only [Bool.not_true, Bool.false_eq_true, if_false, hj, if_true]
  refine ⟨trivial, ?_⟩
  unfold doneAt
  split
  · simp [q2W, mIdx, jW, settle, setSt, offM, offR, goes, endsM, gone, hasIn, wait, dueW]
  · simp [q2W, mIdx, jW, settle, setSt, endsM, gone, hasIn, wait, dueW]

theorem fits_W (lm : Lm) (came : Int) : ∀ m, (q2W lm came).ms[mIdx (q2W lm came).ms jW.id]? = some m → jIdx (q2W lm came).jobs jW < (q2W lm came).jobs.length → ∀ r ∈ jW.rs, r < m.rs.length := by
  intro m hm _ r hr
  have : (q2W lm came).ms[mIdx (q2W lm came).ms jW.id]? = some ⟨tA, came, [⟨tX, 2⟩], false, 0⟩ := by simp [q2W, mIdx, jW]
  rw [this] at hm
  injection hm with hm
  subst hm
  simp [jW] at hr
  subst hr
  simp

theorem when_W {q : Qs} {lm : Lm} {came now : Int} (h : q.ms = [⟨tA, came, [⟨tX, 3⟩], true, dueW lm came now⟩]) : whenQ q tA = dueW lm came now := by
  unfold whenQ
  rw [h]
  simp [mIdx]
end Go.Proofs.Ytnakafmlenngnaa.Qm
