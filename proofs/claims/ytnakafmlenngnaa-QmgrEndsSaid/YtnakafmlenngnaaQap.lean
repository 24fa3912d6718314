/- Apart, in plain terms. -/
import Derived.Test.YtnakafmlenngnaaQinv
import Derived.Test.YtnakafmlenngnaaQot
namespace Go.Proofs.Ytnakafmlenngnaa.Qm
open Go.Proofs.Ytnakafmlenngnaa.Wi

theorem sameJ_iff (a b : Jb) : sameJ a b = true ↔ a = b := by
  unfold sameJ
  rw [Bool.and_eq_true, Bool.and_eq_true, decide_eq_true_iff, decide_eq_true_iff, decide_eq_true_iff]
  constructor
  · intro ⟨⟨h1, h2⟩, h3⟩
    cases a; cases b; simp_all
  · rintro rfl; exact ⟨⟨rfl, rfl⟩, rfl⟩
theorem jIdx_same (l : List Jb) (j : Jb) : jIdx l j = l.findIdx fun x => sameJ x j := rfl

/-- Those of some jobs that are open. -/
def openOf : List Jb → List Bool → List Jb
  | j :: js, b :: bs => if b then j :: openOf js bs else openOf js bs
  | _, _ => []
theorem openOf_snoc (l : List Jb) (o : List Bool) (h : o.length = l.length) (j : Jb) : openOf (l ++ [j]) (o ++ [true]) = openOf l o ++ [j] := by
  induction l generalizing o with
  | nil =>
    have : o = [] := List.length_eq_zero_iff.1 h
    subst this
    rfl
  | cons x l ih =>
    cases o with
    | nil => simp at h
    | cons b o =>
      have := ih o (by simpa using h)
      simp only [List.cons_append, openOf]
      split <;> simp [this]
/-- Where the first open job is that is the same as j. -/
def cIdx (l : List Jb) (o : List Bool) (j : Jb) : Nat := (l.zip o).findIdx fun x => sameJ x.1 j && x.2
theorem cIdx_lt {l : List Jb} {o : List Bool} {j : Jb} (h : j ∈ openOf l o) : cIdx l o j < (l.zip o).length := by
  induction l generalizing o with
  | nil => simp [openOf] at h
  | cons x l ih =>
    cases o with
    | nil => simp [openOf] at h
    | cons b o =>
      unfold cIdx
      rw [List.zip_cons_cons, List.findIdx_cons]
      cases hx : (sameJ x j && b) with
      | true => simp
      | false =>
        simp only [cond_false, List.length_cons]
        have : j ∈ openOf l o := by
          unfold openOf at h
          split at h
          · rename_i hb
            rcases List.mem_cons.1 h with f | f
            · rw [← f, hb, (sameJ_iff j j).2 rfl] at hx; cases hx
            · exact f
          · exact h
        have := ih this
        unfold cIdx at this
        omega
theorem openOf_close (l : List Jb) (o : List Bool) (h : o.length = l.length) (j : Jb) : openOf l (o.set (cIdx l o j) false) = (openOf l o).eraseIdx (jIdx (openOf l o) j) := by
  induction l generalizing o with
  | nil => simp [openOf]
  | cons x l ih =>
    cases o with
    | nil => simp [openOf]
    | cons b o =>
      have hl : o.length = l.length := by simpa using h
      have ih := ih o hl
      unfold cIdx
      rw [List.zip_cons_cons, List.findIdx_cons, jIdx_same]
      cases b with
      | true =>
        have e : openOf (x :: l) (true :: o) = x :: openOf l o := by simp [openOf]
        rw [e, List.findIdx_cons, Bool.and_true]
        cases hx : sameJ x j with
        | true =>
          simp only [cond_true, List.set_cons_zero, List.eraseIdx_cons_zero]
          simp [openOf]
        | false =>
          simp only [cond_false, List.set_cons_succ, List.eraseIdx_cons_succ]
          rw [show openOf (x :: l) (true :: o.set ((l.zip o).findIdx fun x => sameJ x.1 j && x.2) false) = x :: openOf l (o.set ((l.zip o).findIdx fun x => sameJ x.1 j && x.2) false) by simp [openOf]]
          rw [jIdx_same] at ih
          unfold cIdx at ih
          rw [ih]
      | false =>
        have e : openOf (x :: l) (false :: o) = openOf l o := by simp [openOf]
        rw [e, Bool.and_false]
        simp only [cond_false, List.set_cons_succ]
        rw [show openOf (x :: l) (false :: o.set ((l.zip o).findIdx fun x => sameJ x.1 j && x.2) false) = openOf l (o.set ((l.zip o).findIdx fun x => sameJ x.1 j && x.2) false) by simp [openOf]]
        rw [jIdx_same] at ih
        unfold cIdx at ih
        rw [ih]

/-- Is a recipient of a message in a job? -/
def inJob (j : Jb) (p : ByteArray × Nat) : Bool := decide (p.1 = j.id) && decide (p.2 ∈ j.rs)

/-- How the manager and what the law has noted stand to one another, i steps having been done. -/
structure ApI (q : Qs) (jobs : List Jb) (opn : List Bool) (air : List (ByteArray × Nat)) (i : Nat) : Prop where
  inv : Inv q
  len : opn.length = jobs.length
  jobs_ : q.jobs = openOf jobs opn
  air_ : ∀ p ∈ air, ∃ j ∈ q.jobs, j.id = p.1 ∧ p.2 ∈ j.rs
  jl : jobs.length ≤ i
  ml : q.ms.length ≤ i
  dl : q.ds.length ≤ 200 * i
  al : air.length ≤ 50 * i
  rs : ∀ j ∈ jobs, 1 ≤ j.rs.length ∧ j.rs.length ≤ 50

theorem openOf_sub (l : List Jb) (o : List Bool) : (openOf l o).Sublist l := by
  induction l generalizing o with
  | nil => simp [openOf]
  | cons x l ih =>
    cases o with
    | nil => simp [openOf]
    | cons b o =>
      unfold openOf
      split
      · exact (ih o).cons_cons x
      · exact (ih o).cons x
theorem ApI.jq {q : Qs} {jobs : List Jb} {opn : List Bool} {air : List (ByteArray × Nat)} {i : Nat} (h : ApI q jobs opn air i) : q.jobs.length ≤ i := by
  rw [h.jobs_]
  exact Nat.le_trans (openOf_sub _ _).length_le h.jl

theorem ApI.start (lm : Lm) (h : lm.Ok) : ApI (begin0 lm) [] [] [] 0 := by
  have e : begin0 lm = ⟨lm, [], [], 0, []⟩ := rfl
  rw [e]
  refine ⟨⟨by simp, by simp, ?_, by simp, by simp, by simp, by simp⟩, rfl, rfl, by simp, by simp, by simp, by simp, by simp, by simp⟩
  have := h.1
  simp [inHand]
  omega
theorem ApI.mono {q : Qs} {jobs : List Jb} {opn : List Bool} {air : List (ByteArray × Nat)} {i : Nat} (h : ApI q jobs opn air i) : ApI q jobs opn air (i + 1) :=
  ⟨h.inv, h.len, h.jobs_, h.air_, by have := h.jl; omega, by have := h.ml; omega, by have := h.dl; omega, by have := h.al; omega, h.rs⟩

theorem ApI.add {q : Qs} {jobs : List Jb} {opn : List Bool} {air : List (ByteArray × Nat)} {i : Nat} (h : ApI q jobs opn air i) (id : ByteArray) (came : Int) (D : List ByteArray) (now : Int) : ApI (Qm.add q id came D now).2 jobs opn air (i + 1) := by
  obtain ⟨h1, h2, h3⟩ := add_lengths q id came D now
  have h4 : (Qm.add q id came D now).2.ds.length ≤ q.ds.length + 200 := by
    rcases Nat.lt_or_ge 200 D.length with f | f
    · have : (Qm.add q id came D now).2 = q := by
        unfold Qm.add
        have ho : addOk id came D now = false := by
          cases ho : addOk id came D now with
          | false => rfl
          | true => exact absurd f (addOk_true ho).2.2.2.2.1
        rw [ho]; rfl
      rw [this]; omega
    · omega
  refine ⟨h.inv.add _ _ _ _, h.len, by rw [h3]; exact h.jobs_, by rw [h3]; exact h.air_, by have := h.jl; omega, by have := h.ml; omega, by have := h.dl; omega, by have := h.al; omega, h.rs⟩
theorem again_lengths {q : Qs} (hr : ∀ m ∈ q.ms, m.rs.length ≤ 200) (id : ByteArray) (now : Int) : (Qm.again q id now).2.ms.length ≤ q.ms.length ∧ (Qm.again q id now).2.ds.length ≤ q.ds.length + 200 ∧ (Qm.again q id now).2.jobs = q.jobs ∧ (Qm.again q id now).2.lm = q.lm := by
  unfold Qm.again
  split
  · exact ⟨Nat.le_refl _, by dsimp only; omega, rfl, rfl⟩
  split
  · exact ⟨Nat.le_refl _, by dsimp only; omega, rfl, rfl⟩
  rename_i m hm
  split
  · exact ⟨Nat.le_refl _, by dsimp only; omega, rfl, rfl⟩
  split
  · exact ⟨Nat.le_refl _, by dsimp only; omega, rfl, rfl⟩
  · refine ⟨Nat.le_trans (endsM_length _ _ _) (by simp), ?_, rfl, rfl⟩
    have h1 := againFold_length q.lm now m.rs (q.ds, [])
    have := hr m (List.mem_of_getElem? hm)
    dsimp only at h1 ⊢
    omega
theorem drop_lengths (q : Qs) (id : ByteArray) : (Qm.drop q id).2.ms.length ≤ q.ms.length ∧ (Qm.drop q id).2.ds.length = q.ds.length ∧ (Qm.drop q id).2.jobs = q.jobs ∧ (Qm.drop q id).2.lm = q.lm := by
  unfold Qm.drop
  split
  · exact ⟨Nat.le_refl _, rfl, rfl, rfl⟩
  split
  · exact ⟨Nat.le_refl _, rfl, rfl, rfl⟩
  · exact ⟨(List.eraseIdx_sublist _ _).length_le, rfl, rfl, rfl⟩
theorem ApI.again {q : Qs} {jobs : List Jb} {opn : List Bool} {air : List (ByteArray × Nat)} {i : Nat} (h : ApI q jobs opn air i) (id : ByteArray) (now : Int) : ApI (Qm.again q id now).2 jobs opn air (i + 1) := by
  obtain ⟨h1, h2, h3, -⟩ := again_lengths h.inv.rl id now
  exact ⟨h.inv.again _ _, h.len, by rw [h3]; exact h.jobs_, by rw [h3]; exact h.air_, by have := h.jl; omega, by have := h.ml; omega, by have := h.dl; omega, by have := h.al; omega, h.rs⟩
theorem ApI.drop {q : Qs} {jobs : List Jb} {opn : List Bool} {air : List (ByteArray × Nat)} {i : Nat} (h : ApI q jobs opn air i) (id : ByteArray) : ApI (Qm.drop q id).2 jobs opn air (i + 1) := by
  obtain ⟨h1, h2, h3, -⟩ := drop_lengths q id
  exact ⟨h.inv.drop _, h.len, by rw [h3]; exact h.jobs_, by rw [h3]; exact h.air_, by have := h.jl; omega, by have := h.ml; omega, by have := h.dl; omega, by have := h.al; omega, h.rs⟩

/-- A delivery begins: nobody of it was under way; nobody of it twice. -/
theorem ApI.next {q q' : Qs} {jobs : List Jb} {opn : List Bool} {air : List (ByteArray × Nat)} {i : Nat} {j : Jb} (h : ApI q jobs opn air i) (hn : Qm.next q = some (j, q')) :
    ApI q' (jobs ++ [j]) (opn ++ [true]) (air ++ j.rs.map fun r => (j.id, r)) (i + 1) ∧ 1 ≤ j.rs.length ∧ j.rs.length ≤ 50 ∧ (∀ r ∈ j.rs, (j.id, r) ∉ air) ∧ j.rs.Pairwise (· < ·) ∧ (∃ d, q'.ds[dIdx q'.ds j.dest]? = some d ∧ d.f ≤ d.s ∧ 1 ≤ d.f) := by
  obtain ⟨h1, h2, h3, h4, h5, h6, h7⟩ := h.inv.next hn
  obtain ⟨l1, l2, l3⟩ := next_lengths hn
  have hne : 1 ≤ j.rs.length := List.length_pos_iff.2 h3
  refine ⟨⟨h1, by simp [h.len], ?_, ?_, by have := h.jl; simp; omega, by have := h.ml; omega, by have := h.dl; omega, by have := h.al; simp; omega, ?_⟩, hne, h4, ?_, h5, h7⟩
  · rw [h2, h.jobs_, openOf_snoc _ _ h.len]
  · intro p hp
    rw [h2]
    rcases List.mem_append.1 hp with f | f
    · obtain ⟨j', k1, k2⟩ := h.air_ p f
      exact ⟨j', List.mem_append_left _ k1, k2⟩
    · obtain ⟨r, hr, rfl⟩ := List.mem_map.1 f
      exact ⟨j, by simp, rfl, hr⟩
  · intro j' hj'
    rcases List.mem_append.1 hj' with f | f
    · exact h.rs j' f
    · simp only [List.mem_singleton] at f
      subst f; exact ⟨hne, h4⟩
  · intro r hr ha
    obtain ⟨j', k1, k2, k3⟩ := h.air_ _ ha
    exact h6 j' k1 k2 r k3 hr

/-- A delivery is answered. -/
theorem ApI.done {q : Qs} {jobs : List Jb} {opn : List Bool} {air : List (ByteArray × Nat)} {i : Nat} (h : ApI q jobs opn air i) (j : Jb) (res : List Int) (g : Bool) (now : Int) :
    ((Qm.done q j res g now).1 ≠ 0 ∧ (Qm.done q j res g now).2 = q) ∨
    ((Qm.done q j res g now).1 = 0 ∧ cIdx jobs opn j < jobs.length ∧ ApI (Qm.done q j res g now).2 jobs (opn.set (cIdx jobs opn j) false) (air.filter fun p => !inJob j p) (i + 1)) := by
  have hinv := h.inv.done j res g now
  obtain ⟨l1, l2, -, -⟩ := done_lengths q j res g now
  rcases done_cases q j res g now with e | ⟨m, d, -, hm, hd, hj, e⟩
  · exact .inl e
  · refine .inr ⟨by rw [e], ?_, ?_⟩
    · have hmem : j ∈ openOf jobs opn := by
        rw [← h.jobs_]
        have := List.getElem_mem hj
        rwa [jIdx_get hj] at this
      have := cIdx_lt hmem
      simp only [List.length_zip, h.len, Nat.min_self] at this
      exact this
    · have hjobs : (Qm.done q j res g now).2.jobs = q.jobs.eraseIdx (jIdx q.jobs j) := by rw [e]; exact (doneAt_jobs ..).1
      refine ⟨hinv, by simp [h.len], ?_, ?_, by have := h.jl; omega, by have := h.ml; omega, by have := h.dl; omega, ?_, h.rs⟩
      · rw [hjobs, openOf_close _ _ h.len, h.jobs_]
      · intro p hp
        rw [List.mem_filter] at hp
        obtain ⟨j', k1, k2, k3⟩ := h.air_ p hp.1
        refine ⟨j', ?_, k2, k3⟩
        rw [hjobs, List.mem_eraseIdx_iff_getElem]
        obtain ⟨k, hk, rfl⟩ := List.getElem_of_mem k1
        refine ⟨k, hk, fun hkb => ?_, rfl⟩
        subst hkb
        rw [jIdx_get hj] at k2 k3
        have : inJob j p = true := by simp [inJob, k2, k3]
        rw [this] at hp
        exact absurd hp.2 (by decide)
      · have := h.al
        have h2 := List.length_filter_le (fun p => !inJob j p) air
        omega

theorem ApI.fits {q : Qs} {jobs : List Jb} {opn : List Bool} {air : List (ByteArray × Nat)} {i : Nat} (h : ApI q jobs opn air i) (j : Jb) : ∀ m, q.ms[mIdx q.ms j.id]? = some m → jIdx q.jobs j < q.jobs.length → ∀ r ∈ j.rs, r < m.rs.length :=
  fun m hm hj r hr => stAt_lt (h.inv.fits j m hm hj r hr)
end Go.Proofs.Ytnakafmlenngnaa.Qm
