/- Dead: the manager's state between the rounds, in plain terms. -/
import Derived.Test.YtnakafmlenngnaaQdp
import Derived.Test.YtnakafmlenngnaaQwh
namespace Go.Proofs.Ytnakafmlenngnaa.Qm
open Go.Proofs.Ytnakafmlenngnaa.Wi

def idA (i : Nat) : ByteArray := ⟨#[97, UInt8.ofNat (48 + i / 10), UInt8.ofNat (48 + i % 10)]⟩
def idB (i : Nat) : ByteArray := ⟨#[98, UInt8.ofNat (48 + i)]⟩
def tC : ByteArray := ⟨#[99]⟩

theorem ofNat_inj {a b : Nat} (ha : a < 256) (hb : b < 256) (h : UInt8.ofNat a = UInt8.ofNat b) : a = b := by
  have := congrArg UInt8.toNat h
  rw [UInt8.toNat_ofNat', UInt8.toNat_ofNat'] at this
  omega
theorem idA_ne {i k : Nat} (hi : i < 90) (hk : k < 90) (h : i ≠ k) : idA k ≠ idA i := by
  intro e
  unfold idA at e
  injection e with e
  have e1 := congrArg Array.toList e
  simp only [List.cons.injEq, true_and, and_true] at e1
  have h1 := ofNat_inj (by omega) (by omega) e1.1
  have h2 := ofNat_inj (by omega) (by omega) e1.2
  omega
theorem idB_ne {i k : Nat} (hi : i < 10) (hk : k < 10) (h : i ≠ k) : idB k ≠ idB i := by
  intro e
  unfold idB at e
  injection e with e
  have e1 := congrArg Array.toList e
  simp only [List.cons.injEq, true_and, and_true] at e1
  have h1 := ofNat_inj (by omega) (by omega) e1
  omega
theorem idA_idB (i k : Nat) : idB k ≠ idA i := fun e => by
  have := congrArg ByteArray.size e
  cases this
theorem tC_idA (i : Nat) : tC ≠ idA i := fun e => by
  have := congrArg ByteArray.size e
  cases this
theorem tC_idB (i : Nat) : tC ≠ idB i := fun e => by
  have := congrArg ByteArray.size e
  cases this
theorem size_idA (i : Nat) : (idA i).size = 3 := rfl
theorem size_idB (i : Nat) : (idB i).size = 2 := rfl
theorem size_tC : tC.size = 1 := rfl

/-- i of the first messages have come and wait. -/
structure D1 (q : Qs) (lm : Lm) (now : Int) (i : Nat) : Prop where
  dd : Dd q lm (lm.ini - i) (if i = lm.ini then now + lm.minb else 0)
  a : ∀ k, i ≤ k → k < 90 → Else q.ms (idA k)
  b : ∀ k, k < 10 → Else q.ms (idB k)
  c : Else q.ms tC
  len : q.ms.length = i

theorem D1.start (lm : Lm) (h : lm.Ok) (now : Int) : D1 (begin0 lm) lm now 0 := by
  have h3 : ¬ 0 = lm.ini := by have := h.2.2.1; omega
  have : begin0 lm = ⟨lm, [], [], 0, []⟩ := rfl
  rw [this]
  refine ⟨⟨rfl, by simp [Rest], ?_, by simp, rfl, rfl⟩, by simp [Else], by simp [Else], by simp [Else], rfl⟩
  rw [if_neg h3]
  simp [mkD, dIdx]

def qb1 (q : Qs) (lm : Lm) (now : Int) (i : Nat) : Qs := q2D q (idA i) now (lm.ini - i) (if i = lm.ini then now + lm.minb else 0)
theorem D1.step {q : Qs} {lm : Lm} (hl : lm.Ok) {now : Int} {i : Nat} (h : D1 q lm now i) (hi : i < lm.ini) (h9 : i < 90) (hn : isT now = true) :
    (Qm.add q (idA i) now [tX] now).1 = 0 ∧ Qm.next (Qm.add q (idA i) now [tX] now).2 = some (jD (idA i), qb1 q lm now i) ∧ (Qm.done (qb1 q lm now i) (jD (idA i)) [1] false now).1 = 0 ∧ D1 (Qm.done (qb1 q lm now i) (jD (idA i)) [1] false now).2 lm now (i + 1) ∧
    (Qm.add q (idA i) now [tX] now).2.ms.length = i + 1 ∧ (Qm.add q (idA i) now [tX] now).2.ds.length = 1 ∧ (Qm.add q (idA i) now [tX] now).2.jobs = [] ∧ (qb1 q lm now i).ms.length = i + 1 ∧ (qb1 q lm now i).ds.length = 1 ∧
    (∀ m, (qb1 q lm now i).ms[mIdx (qb1 q lm now i).ms (jD (idA i)).id]? = some m → jIdx (qb1 q lm now i).jobs (jD (idA i)) < (qb1 q lm now i).jobs.length → ∀ r ∈ (jD (idA i)).rs, r < m.rs.length) := by
  have he := h.a i (Nat.le_refl _) h9
  have hs : 1 ≤ lm.ini - i := by omega
  have ha := h.dd.add hl.1 he (by rw [size_idA]; omega) (by rw [size_idA]; omega) hn hs
  obtain ⟨d1, d2, d3, d4⟩ := done_D h.dd he hn hs
  have hx := next_one (id := idA i) (came := now) (rev := if i = lm.ini then now + lm.minb else 0) h.dd.rest hs h.dd.turn h.dd.jobs
  rw [ha]
  refine ⟨rfl, hx, d1, ⟨?_, ?_, ?_, ?_, d3.trans (congrArg (· + 1) h.len)⟩, by simp [q1D, h.len], by simp [q1D], h.dd.jobs, by simp [qb1, q2D, h.len], by simp [qb1, q2D], fits_D he⟩
  · have e1 : lm.ini - (i + 1) = lm.ini - i - 1 := by omega
    have e2 : ¬ i = lm.ini := by omega
    have e3 : (lm.ini - i = 1) = (i + 1 = lm.ini) := by rw [eq_iff_iff]; omega
    rw [e1]
    have := d2
    rw [if_neg e2] at this
    simp only [e3] at this
    unfold qb1
    rw [if_neg e2]
    exact this
  · exact fun k h1 h2 => d4 _ (h.a k (by omega) h2) (idA_ne h9 h2 (by omega))
  · exact fun k h1 => d4 _ (h.b k h1) (idA_idB i k)
  · exact d4 _ h.c (tC_idA i)

/-- .. and i of the later ones. -/
structure D2 (q : Qs) (lm : Lm) (now : Int) (i : Nat) : Prop where
  dd : Dd q lm 0 (now + lm.minb)
  ds : q.ds = [⟨tX, 0, 0, 0, now + lm.minb⟩]
  b : ∀ k, i ≤ k → k < 10 → Else q.ms (idB k)
  c : Else q.ms tC
  len : q.ms.length ≤ 90 + i

theorem Dd.ds_eq {q : Qs} {lm : Lm} {s : Nat} {rev : Int} (h : Dd q lm s rev) (hs : s ≠ lm.ini) : q.ds = [⟨tX, s, 0, 0, rev⟩] := by
  have := h.ds
  unfold mkD at this
  split at this
  · exact this
  · have h1 := congrArg List.length this
    have h0 : q.ds = [] := by
      rw [← List.length_eq_zero_iff]
      simpa using h1
    rw [h0] at this
    simp at this
    exact absurd this.1.symm hs

theorem D1.dead {q : Qs} {lm : Lm} (hl : lm.Ok) {now : Int} {i : Nat} (h : D1 q lm now i) (h1 : 1 ≤ i) : ofD q tX false (fun d => decide (d.s = 0)) = decide (lm.ini ≤ i) := by
  have := hl.2.2.1
  have e := h.dd.ds_eq (by omega)
  unfold ofD
  rw [e]
  simp [dIdx]
  omega
theorem D1.to {q : Qs} {lm : Lm} (hl : lm.Ok) {now : Int} (h : D1 q lm now lm.ini) (h9 : lm.ini ≤ 90) : D2 q lm now 0 := by
  have := hl.2.2.1
  have hd := h.dd
  rw [if_pos rfl, Nat.sub_self] at hd
  exact ⟨hd, hd.ds_eq (by omega), fun k _ hk => h.b k hk, h.c, by rw [h.len]; omega⟩

theorem D2.step {q : Qs} {lm : Lm} (hl : lm.Ok) {now more : Int} {i : Nat} (h : D2 q lm now i) (hi : i < 10) (h0 : 0 ≤ now) (h9 : now ≤ 900000000) (m0 : 0 ≤ more) (m1 : more < lm.minb) :
    (Qm.add q (idB i) now [tX] (now + more)).1 = 0 ∧ Qm.next (Qm.add q (idB i) now [tX] (now + more)).2 = none ∧ now + lm.minb ≤ whenQ (Qm.add q (idB i) now [tX] (now + more)).2 (idB i) ∧
    D2 (Qm.add q (idB i) now [tX] (now + more)).2 lm now (i + 1) ∧ (Qm.add q (idB i) now [tX] (now + more)).2.ds.length = 1 ∧ (Qm.add q (idB i) now [tX] (now + more)).2.jobs = [] := by
  obtain ⟨l1, -, -, -, -, l6, l7, l8, -⟩ := hl
  have he := h.b i (Nat.le_refl _) hi
  obtain ⟨a1, a2⟩ := h.dd.shut_ l1 he (by rw [size_idB]; omega) (by rw [size_idB]; omega) (came := now) (now := now + more) (by simp [isT]; omega) (by simp [isT]; omega) (by omega)
  rw [a1]
  have ed : (q3D q (idB i) now (now + more) (now + lm.minb)).ds = [⟨tX, 0, 0, 0, now + lm.minb⟩] := rfl
  refine ⟨rfl, a2.none ed, ?_, ⟨a2, ed, ?_, ?_, ?_⟩, rfl, a2.jobs⟩
  · rw [when_D he, h.dd.lm_]
    unfold dueD back
    omega
  · intro k h1 h2 m hm
    rcases List.mem_append.mp hm with f | f
    · exact h.b k (by omega) h2 m f
    · simp only [List.mem_singleton] at f; subst f; exact fun e => idB_ne hi h2 (by omega) e.symm
  · intro m hm
    rcases List.mem_append.mp hm with f | f
    · exact h.c m f
    · simp only [List.mem_singleton] at f; subst f; exact fun e => tC_idB i e.symm
  · have := h.len
    simp [q3D]
    omega

theorem D2.later {q : Qs} {lm : Lm} {now : Int} {i : Nat} (h : D2 q lm now i) : D2 q lm now (i + 1) :=
  ⟨h.dd, h.ds, fun k h1 h2 => h.b k (by omega) h2, h.c, by have := h.len; omega⟩

theorem D2.last {q : Qs} {lm : Lm} (hl : lm.Ok) {now : Int} {i : Nat} (h : D2 q lm now i) (h0 : 0 ≤ now) (h9 : now ≤ 900000000) :
    (Qm.add q tC now [tX] (now + lm.minb)).1 = 0 ∧ (∃ q', Qm.next (Qm.add q tC now [tX] (now + lm.minb)).2 = some (jD tC, q')) ∧ (Qm.add q tC now [tX] (now + lm.minb)).2.ms.length ≤ 91 + i ∧ (Qm.add q tC now [tX] (now + lm.minb)).2.ds.length = 1 ∧ (Qm.add q tC now [tX] (now + lm.minb)).2.jobs = [] := by
  obtain ⟨l1, -, l3, -, -, l6, l7, l8, -⟩ := hl
  have a1 := h.dd.revived l1 h.c (by rw [size_tC]; omega) (by rw [size_tC]; omega) (came := now) (now := now + lm.minb) (by simp [isT]; omega) (by simp [isT]; omega) (Int.le_refl _)
  rw [a1]
  refine ⟨rfl, ⟨_, next_one h.dd.rest l3 h.dd.turn h.dd.jobs⟩, ?_, rfl, h.dd.jobs⟩
  have := h.len
  simp [q1D]
  omega
end Go.Proofs.Ytnakafmlenngnaa.Qm
