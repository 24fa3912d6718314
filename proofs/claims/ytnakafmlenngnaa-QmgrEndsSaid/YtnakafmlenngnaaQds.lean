/- Done: its stages. -/
import Derived.Test.YtnakafmlenngnaaQdn
namespace Go.Proofs.Ytnakafmlenngnaa.Qm
open Go.RowKit Go.Proofs.Ytnakafmlenngnaa.Wi

section
variable {w w' : World} {mb : Nat} {L : Lq} {F : Nat → Prop}
/-- The row of jobs is set: fewer of those that there were. -/
theorem Mg.setJobs (h : Mg w mb L F) (l : List LJ) (v' : Value) (hl : l.Sublist L.jobs) (hx : Ext (fun k => L.jv.ownBlock = some k) w w') (hrow : w'.ownsRow 0 49 3 v' l.length (l.flatMap jbC)) (hv : v'.ownBlock = L.jv.ownBlock) :
    Mg (w'.setCell ⟨mb, 10, none⟩ v') mb { L with jobs := l, jv := v' } F ∧ Ext F w (w'.setCell ⟨mb, 10, none⟩ v') ∧ w'.cell? ⟨mb, 10, none⟩ = some L.jv ∧ w'.frozen? ⟨mb, 10, none⟩ = false := by
  have hjmb : L.jv.ownBlock ≠ some mb := fun e => by
    obtain ⟨cur, hr⟩ := row_type h.jrow _ e
    exact neT hr h.top (by decide) rfl
  have htop : w'.heap[mb]? = some (.cells (topC L) 87 (0, 0)) := (hx.block mb h.mblt hjmb).trans h.top
  have hset : ∀ k, k ≠ mb → (w'.setCell ⟨mb, 10, none⟩ v').heap[k]? = w'.heap[k]? := fun k hk => Below.heap_setCell _ _ _ _ hk
  have keep : ∀ k, F k → k ≠ mb → L.jv.ownBlock ≠ some k → (w'.setCell ⟨mb, 10, none⟩ v').heap[k]? = w.heap[k]? := fun k hk h1 h2 => (hset k h1).trans (hx.block k (h.lt k hk) h2)
  have cell : ∀ {k : Nat} {c : Array Value} {t : TypeId}, F k → w.heap[k]? = some (.cells c t (0, 0)) → t ≠ 87 → t ≠ 49 → (w'.setCell ⟨mb, 10, none⟩ v').heap[k]? = w.heap[k]? := by
    intro k c t hk hc h1 h2
    refine keep k hk (neT hc h.top h1) fun e => ?_
    obtain ⟨cur, hr⟩ := row_type h.jrow k e
    exact neT hc hr h2 rfl
  have rows : ∀ {base e size n : Nat} {v : Value} {xs : List Value}, w.ownsRow base e size v n xs → (∀ g, v.ownBlock = some g → F g) → e ≠ 87 → e ≠ 49 → (w'.setCell ⟨mb, 10, none⟩ v').ownsRow base e size v n xs := by
    intro base e size n v xs hr hf h1 h2
    refine row_keep hr fun g hg => ?_
    obtain ⟨cur, hc⟩ := row_type hr g hg
    exact cell (hf g hg) hc h1 h2
  refine ⟨⟨⟨by simp [World.setCell, Array.getElem?_modify, htop, topC], ?_, ?_, rows h.drow h.fr.2.1 (by decide) (by decide), ?_, ?_, ?_, h.lim, h.turn, h.msep, h.dsep, h.fb, h.fm, h.fd, fun z hz => h.fj z (hl.subset hz), ⟨h.fr.1, h.fr.2.1, fun g hg => h.fr.2.2 g (by rw [← hv]; exact hg)⟩, fun k hk => ?_⟩, rows h.mrow h.fr.1 (by decide) (by decide)⟩, ?_, by simp [World.cell?, htop, topC], by simp [World.frozen?, htop]⟩
  · intro y hy
    have hd := h.mails y hy
    refine hd.same (cell (h.fm y hy).1 hd.cell (by decide) (by decide)) fun g hg => ?_
    obtain ⟨cur, hr⟩ := row_type hd.row _ hg
    exact cell ((h.fm y hy).2 g hg) hr (by decide) (by decide)
  · intro y hy
    have hd := h.dests y hy
    exact hd.same (cell (h.fd y hy).1 hd.cell (by decide) (by decide)) (cell (h.fd y hy).2 hd.win (by decide) (by decide))
  · refine h.map.same (keep _ h.fb.2 (neM h.top h.map).symm fun e => ?_)
    obtain ⟨cur, hr⟩ := row_type h.jrow _ e
    exact neM hr h.map rfl
  · refine row_keep hrow fun g hg => hset g ?_
    obtain ⟨cur, hr⟩ := row_type hrow g hg
    exact neT hr htop (by decide)
  · exact fun y hy => rows (h.jobs y (hl.subset hy)) (h.fj y (hl.subset hy)) (by decide) (by decide)
  · have := h.lt k hk
    have := hx.size
    simp [World.setCell]; omega
  · exact (hx.mono fun k hk => h.fr.2.2 k hk).setCell mb 10 v' h.fb.1

/-- A window that has been through Done. -/
theorem Mg.doneW (h : Mg w mb L F) (i : Nat) (hi : i < L.ds.length) (g : Bool) (hw : Win w' L.ds[i].wb L.lm.ini L.lm.lim (doneS g L.lm.lim L.ds[i].d.s L.ds[i].d.c L.ds[i].d.f) (doneC g L.ds[i].d.s L.ds[i].d.c L.ds[i].d.f) (L.ds[i].d.f - 1)) (ho : Only L.ds[i].wb w w') :
    Mg w' mb { L with ds := L.ds.set i { L.ds[i] with d := doneD L.lm g L.ds[i].d } } F ∧ Ext F w w' := by
  have hz := h.dests _ (List.getElem_mem hi)
  refine ⟨h.dest i hi _ rfl rfl rfl (by rw [ho.size]; exact Nat.le_refl _) (fun k _ _ h2 => ho.block k h2) ⟨(ho.block _ (neT hz.cell hz.win (by decide))).trans hz.cell, hw, Stands.done g hz.st, hz.rev⟩, ⟨ho.os, ho.tape, ho.output, by rw [ho.size]; exact Nat.le_refl _, fun k _ hk => ho.block k fun e => hk (by rw [e]; exact (h.fd _ (List.getElem_mem hi)).2)⟩⟩

/-- The time of a destination's revival is set. -/
theorem Mg.setRev (h : Mg w mb L F) (i : Nat) (hi : i < L.ds.length) (t : Int) (ht : 0 ≤ t ∧ t ≤ 2000000000) :
    Mg (w.setCell ⟨L.ds[i].b, 2, none⟩ (.int .i64 t)) mb { L with ds := L.ds.set i { L.ds[i] with d := { L.ds[i].d with rev := t } } } F ∧ Ext F w (w.setCell ⟨L.ds[i].b, 2, none⟩ (.int .i64 t)) := by
  have hz := h.dests _ (List.getElem_mem hi)
  have hset : ∀ k, k ≠ L.ds[i].b → (w.setCell ⟨L.ds[i].b, 2, none⟩ (.int .i64 t)).heap[k]? = w.heap[k]? := fun k hk => Below.heap_setCell _ _ _ _ hk
  refine ⟨h.dest i hi _ rfl rfl rfl (by simp [World.setCell]) (fun k _ h1 _ => hset k h1) ⟨by simp [World.setCell, Array.getElem?_modify, hz.cell], Win.same hz.win (hset _ (neT hz.win hz.cell (by decide))), hz.st, ht⟩, (Ext.refl F w).setCell _ _ _ (h.fd _ (List.getElem_mem hi)).1⟩
end

/-- The recipients of message a, k of the results having been read. -/
def setK (j : Jb) (res : List Int) (m : Ml) (k : Nat) : Ml := { m with rs := ((j.rs.zip res).take k).foldl settle m.rs }

theorem setSt_length (rs : List Rc) (r s : Nat) : (setSt rs r s).length = rs.length := by simp [setSt]
theorem settle_length (l : List (Nat × Int)) (rs : List Rc) : (l.foldl settle rs).length = rs.length := by
  induction l generalizing rs with
  | nil => rfl
  | cons x l ih => rw [List.foldl_cons, ih]; unfold settle; exact setSt_length _ _ _
theorem setK_zero (j : Jb) (res : List Int) (m : Ml) : setK j res m 0 = m := by simp [setK]
theorem setK_length (j : Jb) (res : List Int) (m : Ml) (k : Nat) : (setK j res m k).rs.length = m.rs.length := by simp only [setK]; exact settle_length _ _
theorem setK_next (j : Jb) (res : List Int) (m : Ml) (k : Nat) (h1 : k < j.rs.length) (h2 : k < res.length) : setK j res m (k + 1) = { m with rs := setSt (setK j res m k).rs j.rs[k] (if res[k] = 1 then 3 else 0) } := by
  unfold setK
  have hz : k < (j.rs.zip res).length := by simp; omega
  rw [List.take_succ_eq_append_getElem hz, List.foldl_append]
  simp only [List.foldl_cons, List.foldl_nil, settle, List.getElem_zip]
theorem setK_all (j : Jb) (res : List Int) (m : Ml) (h : res.length = j.rs.length) : setK j res m j.rs.length = { m with rs := (j.rs.zip res).foldl settle m.rs } := by
  unfold setK
  rw [List.take_of_length_le (by simp [h])]
theorem setSt_set (rs : List Rc) (r s : Nat) (hr : r < rs.length) : setSt rs r s = rs.set r { rs[r] with st := s } := by
  unfold setSt
  rw [modify_set _ _ _ hr]
theorem setSt_twice (rs : List Rc) (r s t : Nat) : setSt (setSt rs r s) r t = setSt rs r t := by
  unfold setSt
  refine List.ext_getElem (by simp) fun j h1 h2 => ?_
  simp only [List.getElem_modify]
  split <;> rfl

theorem turned_mail {w : World} {mb : Nat} {L : Lq} {F : Nat → Prop} {a : Nat} {M : Ml} (h : Mg w mb (turned L a M) F) (ha : a < L.ms.length) : MailAt w { L.ms[a] with m := M } := by
  have hl : a < (turned L a M).ms.length := by rw [turned_length]; exact ha
  have := h.mails _ (List.getElem_mem hl)
  rw [turned_at ha hl] at this
  exact this

/-- A recipient of message a gets a state. -/
theorem Mg.putSt {w : World} {mb : Nat} {L : Lq} {F : Nat → Prop} {a : Nat} {M : Ml} (h : Mg w mb (turned L a M) F) (ha : a < L.ms.length) (r s g : Nat) (hr : r < M.rs.length) (hg : L.ms[a].v.ownBlock = some g) :
    Mg (w.setCell ⟨g, r * 2 + 1, none⟩ (.int .i64 (s : Nat))) mb (turned L a { M with rs := setSt M.rs r s }) F ∧ Ext F w (w.setCell ⟨g, r * 2 + 1, none⟩ (.int .i64 (s : Nat))) := by
  have hl : a < (turned L a M).ms.length := by rw [turned_length]; exact ha
  have hat := turned_at (m := M) ha hl
  have hFg : F g := by
    have := (h.fm _ (List.getElem_mem hl)).2 g
    rw [hat] at this
    exact this hg
  have hm := h.setRc a hl r (by simpa [hat] using hr) s g (by rw [hat]; exact hg)
  rw [turned_turned] at hm
  have e2 : ({ (turned L a M).ms[a].m with rs := (turned L a M).ms[a].m.rs.set r { ((turned L a M).ms[a].m.rs[r]'(by simpa [hat] using hr)) with st := s } } : Ml) = { M with rs := setSt M.rs r s } := by
    rw [setSt_set _ _ _ hr]
    simp only [hat]
  rw [e2] at hm
  exact ⟨hm, (Ext.refl F w).setCell g _ _ hFg⟩
end Go.Proofs.Ytnakafmlenngnaa.Qm
