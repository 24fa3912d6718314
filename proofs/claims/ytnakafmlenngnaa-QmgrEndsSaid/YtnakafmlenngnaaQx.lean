/- ends. -/
import Derived.Test.YtnakafmlenngnaaQe
import Derived.Deep.RegionLaw
namespace Go.Proofs.Ytnakafmlenngnaa.Qm
open Go.RowKit Go.Proofs.Ytnakafmlenngnaa.Wi

section
variable {w w' : World} {mb : Nat} {L : Lq} {F : Nat → Prop}
/-- Only rows of messages turned. -/
theorem Core.off89 (h : Core w mb L F) (hs : w.heap.size ≤ w'.heap.size) (hx : ∀ k, F k → (∀ cur, w.heap[k]? ≠ some (.cells cur 89 (0, 0))) → w'.heap[k]? = w.heap[k]?) : Core w' mb L F := by
  have cell : ∀ {k : Nat} {c : Array Value} {t : TypeId}, F k → w.heap[k]? = some (.cells c t (0, 0)) → t ≠ 89 → w'.heap[k]? = w.heap[k]? := fun hk hc ht => hx _ hk fun cur e => neT hc e ht rfl
  have rows : ∀ {base e size n : Nat} {v : Value} {xs : List Value}, w.ownsRow base e size v n xs → (∀ g, v.ownBlock = some g → F g) → e ≠ 89 → w'.ownsRow base e size v n xs := by
    intro base e size n v xs hr hf h1
    refine row_keep hr fun g hg => ?_
    obtain ⟨cur, hc⟩ := row_type hr g hg
    exact cell (hf g hg) hc h1
  exact {
    top := (cell h.fb.1 h.top (by decide)).trans h.top
    mails := fun z hz => by
      have hd := h.mails z hz
      refine hd.same (cell (h.fm z hz).1 hd.cell (by decide)) fun g hg => ?_
      obtain ⟨cur, hr⟩ := row_type hd.row _ hg
      exact cell ((h.fm z hz).2 g hg) hr (by decide)
    dests := fun z hz => by
      have hd := h.dests z hz
      exact hd.same (cell (h.fd z hz).1 hd.cell (by decide)) (cell (h.fd z hz).2 hd.win (by decide))
    drow := rows h.drow h.fr.2.1 (by decide)
    map := h.map.same (hx _ h.fb.2 fun cur e => neM e h.map rfl)
    jrow := rows h.jrow h.fr.2.2 (by decide)
    jobs := fun z hz => rows (h.jobs z hz) (h.fj z hz) (by decide)
    lim := h.lim, turn := h.turn, msep := h.msep, dsep := h.dsep, fb := h.fb, fm := h.fm, fd := h.fd, fj := h.fj, fr := h.fr
    lt := fun k hk => Nat.lt_of_lt_of_le (h.lt k hk) hs }

/-- Fewer messages, of those that there are. -/
theorem Core.fewer (h : Core w mb L F) (l : List LM) (hl : l.Sublist L.ms) : Core w mb { L with ms := l } F :=
  ⟨h.top, fun z hz => h.mails z (hl.subset hz), h.dests, h.drow, h.map, h.jrow, h.jobs, h.lim, h.turn, h.msep.sublist hl, h.dsep, h.fb, fun z hz => h.fm z (hl.subset hz), h.fd, h.fj, h.fr, h.lt⟩

/-- The row of messages is set. -/
theorem Core.setMv (h : Core w mb L F) (v : Value) (hv : ∀ g, v.ownBlock = some g → F g) : Core (w.setCell ⟨mb, 6, none⟩ v) mb { L with mv := v } F := by
  refine h.top_ { L with mv := v } rfl rfl rfl rfl rfl rfl rfl h.turn hv (by simp [World.setCell]) (fun k _ hk => Below.heap_setCell _ _ _ _ hk) ?_
  simp [World.setCell, Array.getElem?_modify, h.top, topC]
end

def updL (lm : Lm) (now : Int) (z : LM) : LM := { z with m := wait lm now z.m }
def prefixed (L : Lq) (now : Int) (k : Nat) : Lq := { L with ms := (L.ms.take k).map (updL L.lm now) ++ L.ms.drop k }
theorem prefixed_length (L : Lq) (now : Int) (k : Nat) : (prefixed L now k).ms.length = L.ms.length := by
  simp [prefixed]; omega
theorem prefixed_zero (L : Lq) (now : Int) : prefixed L now 0 = L := by simp [prefixed]
theorem prefixed_at (L : Lq) (now : Int) (k : Nat) (hk : k < L.ms.length) (hk' : k < (prefixed L now k).ms.length) : (prefixed L now k).ms[k] = L.ms[k] := by
  simp only [prefixed]
  rw [List.getElem_append_right (by simp; omega)]
  simp [Nat.min_eq_left (Nat.le_of_lt hk)]
theorem prefixed_next (L : Lq) (now : Int) (k : Nat) (hk : k < L.ms.length) : turned (prefixed L now k) k (wait L.lm now L.ms[k].m) = prefixed L now (k + 1) := by
  have hk' : k < (prefixed L now k).ms.length := by rw [prefixed_length]; exact hk
  rw [turned_set _ _ hk', prefixed_at L now k hk hk']
  unfold prefixed
  dsimp only
  congr 1
  rw [List.set_append_right _ _ (by simp; omega), List.take_succ_eq_append_getElem hk, List.map_append, List.append_assoc]
  congr 1
  rw [show k - ((L.ms.take k).map (updL L.lm now)).length = 0 by simp; omega, ← List.getElem_cons_drop hk, List.set_cons_zero]
  rfl
theorem prefixed_all (L : Lq) (now : Int) : (prefixed L now L.ms.length).ms = L.ms.map (updL L.lm now) := by simp [prefixed]

/-- The manager behind ends. -/
def endedL (L : Lq) (now : Int) (v : Value) : Lq := { L with ms := (L.ms.filter fun z => !gone z.m).map (updL L.lm now), mv := v }
theorem endedL_q (L : Lq) (now : Int) (v : Value) : (endedL L now v).q = { L.q with ms := endsM L.lm now L.q.ms } := by
  unfold endedL Lq.q endsM
  congr 1
  simp only [List.map_map, List.filter_map]
  rfl

def EndsPost (mb : Nat) (L : Lq) (F : Nat → Prop) (now : Int) (w : World) (_ : Ending) (w' : World) : Prop :=
  ∃ v, Mg w' mb (endedL L now v) F ∧ Ext F w w'

theorem end_del (mb : Nat) (L : Lq) (F : Nat → Prop) (now : Int) (hnow : 0 ≤ now ∧ now ≤ 1000000000) (ba bb : Nat) (w : World) (h : Mg w mb L F) (hfa : ¬ F ba) (hfb : ¬ F bb)
    (h1 : w.heap[ba]? = some (.cells #[.pointer (some ⟨mb, 0, none⟩)] 39 (0, 0))) (h2 : w.heap[bb]? = some (.cells #[.int .i64 now] 3 (0, 0))) :
    Calls Try.prog 64 #[L.mv, .func (.func 74) #[] #[.pointer (some ⟨ba, 0, none⟩), .pointer (some ⟨bb, 0, none⟩)]] w fun e w' => ∃ v, e = .returned v ∧ Mg (w'.setCell ⟨mb, 6, none⟩ v) mb (endedL L now v) F ∧ Ext F w w' ∧ Core w' mb { endedL L now v with mv := L.mv } F ∧ (∃ x n c, v = .slice x n c ∧ n ≤ c ∧ c ≤ 9223372036854775807) := by
  let I : Nat → World → Prop := fun k W => Core W mb (prefixed L now k) F ∧ Ext F w W
  have hI0 : I 0 w := ⟨by rw [prefixed_zero]; exact h.toCore, Ext.refl _ _⟩
  have := del64 74 #[.pointer (some ⟨ba, 0, none⟩), .pointer (some ⟨bb, 0, none⟩)] (enters_of Try.func74 (by kernel_rfl) rfl) L.mv L.ms.length (L.ms.map mPtr) (fun k => (((L.ms[k]?).map fun z => gone z.m)).getD false) I w
    (row_lower h.mrow 0 (Nat.le_refl _)) (fun k hk => ⟨some ⟨(L.ms[k]'(by simpa using hk)).b, 0, none⟩, by simp [mPtr]⟩) hI0 (fun b hb k W W' hW ht ho => ?_) (fun k W hk hW => ?_)
  · have hkeep : keepAt (fun k => (((L.ms[k]?).map fun z => gone z.m)).getD false) 0 (L.ms.map mPtr) = (L.ms.filter fun z => !gone z.m).map mPtr := by
      rw [keepAt_map, keepAt_filter (fun z : LM => gone z.m) _ _ _ fun k hk => by simp [hk]]
    rw [hkeep, List.length_map] at this
    refine this.mono ?_
    rintro e w' ⟨v, rfl, hr, hv, hc, hx⟩
    have hsub : ((L.ms.filter fun z => !gone z.m).map (updL L.lm now)).Sublist (prefixed L now L.ms.length).ms := by
      rw [prefixed_all]
      exact List.Sublist.map _ List.filter_sublist
    have hc2 : Core w' mb { endedL L now v with mv := L.mv } F := hc.fewer _ hsub
    have hc3 : Core (w'.setCell ⟨mb, 6, none⟩ v) mb (endedL L now v) F := hc2.setMv v fun g hg => h.fr.1 g (by rw [← hv]; exact hg)
    obtain ⟨x, c, e, q1, q2⟩ := row_shape hr
    refine ⟨v, rfl, ⟨hc3, ?_⟩, hx, hc2, ⟨x, _, c, e, q1, q2⟩⟩
    have hp : (endedL L now v).ms.map mPtr = (L.ms.filter fun z => !gone z.m).map mPtr := by
      simp only [endedL, List.map_map]
      rfl
    rw [hp]
    have hl : (endedL L now v).ms.length = (L.ms.filter fun z => !gone z.m).length := by simp [endedL]
    rw [hl]
    refine row_keep hr fun g hg => Below.heap_setCell _ _ _ _ ?_
    obtain ⟨cur, hcg⟩ := row_type hr g hg
    exact neT hcg hc2.top (by decide)
  · refine ⟨hW.1.off89 (by rw [ho.size]; exact Nat.le_refl _) fun k hk hne => ho.block k fun e => ?_, ?_⟩
    · subst e
      obtain ⟨cur, hc⟩ := ht
      exact hne cur hc
    · exact ⟨ho.os.trans hW.2.os, ho.tape.trans hW.2.tape, ho.output.trans hW.2.output, by rw [ho.size]; exact hW.2.size, fun i hi hf => (ho.block i fun e => hf (by rw [e]; exact h.fr.1 b hb)).trans (hW.2.block i hi hf)⟩
  · have hk1 : k < L.ms.length := by simpa using hk
    have hk2 : k < (prefixed L now k).ms.length := by rw [prefixed_length]; exact hk1
    have e : (L.ms.map mPtr)[k] = .pointer (some ⟨(prefixed L now k).ms[k].b, 0, none⟩) := by rw [prefixed_at L now k hk1 hk2]; simp [mPtr]
    rw [e]
    refine (ends1_run mb (prefixed L now k) F k hk2 now hnow ba bb W hW.1 ((hW.2.block ba (heap_lt h1) hfa).trans h1) ((hW.2.block bb (heap_lt h2) hfb).trans h2)).mono ?_
    rintro e w' ⟨rfl, hc, hx⟩
    rw [prefixed_at L now k hk1 hk2] at hc hx ⊢
    rw [show (prefixed L now k).lm = L.lm from rfl, prefixed_next L now k hk1] at hc
    have hzF := (h.fm _ (List.getElem_mem hk1)).1
    refine ⟨by simp [hk1], ⟨hc, hW.2.trans (hx.mono fun i hi => by rw [hi]; exact hzF)⟩, fun b hb => ?_⟩
    obtain ⟨cur, hr⟩ := row_type h.mrow b hb
    refine hx.block b (Nat.lt_of_lt_of_le (heap_lt hr) hW.2.size) fun e => ?_
    exact neT hr (h.mails _ (List.getElem_mem hk1)).cell (by decide) e

theorem Ext.drew {F : Nat → Prop} {w w1 : World} (h : Ext F w w1) : Ext F w w1.drew := ⟨h.os, h.tape, h.output, h.size, h.block⟩

theorem end_facts {w w1 : World} {mb : Nat} {L' : Lq} {F : Nat → Prop} {a : Value} {now : Int} (hF : F mb ∧ ¬ F w.heap.size) (hx : Ext F (((w.alloc (.cells #[a] 39)).alloc (.cells #[.int .i64 now] 3)).drew) w1) (hc : Core w1 mb L' F) :
    w1.cell? ⟨w.heap.size, 0, none⟩ = some a ∧ w1.cell? ⟨mb, 6, none⟩ = some L'.mv ∧ w1.frozen? ⟨mb, 6, none⟩ = false := by
  obtain ⟨-, -, -, -, -, -, c6, -⟩ := hc.tops
  refine ⟨?_, c6, hc.free 6⟩
  have e1 : ((w.alloc (.cells #[a] 39)).alloc (.cells #[.int .i64 now] 3)).heap[w.heap.size]? = some (.cells #[a] 39 (0, 0)) := (Below.heap_alloc _ _ _ (by simp)).trans (MapKept.heap_alloc w _).1
  have := (hx.block w.heap.size (by show _ < ((w.alloc (.cells #[a] 39)).alloc (.cells #[.int .i64 now] 3)).heap.size; simp; omega) hF.2).trans e1
  simp [World.cell?, this]

set_option maxHeartbeats 4000000 in
set_option maxRecDepth 100000 in
theorem ends_run (mb : Nat) (L : Lq) (F : Nat → Prop) (now : Int) (hnow : 0 ≤ now ∧ now ≤ 1000000000) (w : World) (h : Mg w mb L F) :
    Calls Try.prog 51 #[.pointer (some ⟨mb, 0, none⟩), .int .i64 now] w (fun e w' => e = .returned (.tuple #[]) ∧ EndsPost mb L F now w e w') := by
  obtain ⟨y, cap, hv, hy1, hy2⟩ := row_shape h.mrow
  obtain ⟨-, -, -, -, -, -, c6, -⟩ := h.tops
  have hfz := h.toCore.free 6
  rw [hv] at c6
  have hml := h.mblt
  have hxa : Ext (fun _ => False) w ((w.alloc (.cells #[.pointer (some ⟨mb, 0, none⟩)] 39)).alloc (.cells #[.int .i64 now] 3)) := ((Ext.refl _ _).alloc _).alloc _
  have HD := (show Hid (∀ W, Ext (fun _ => False) ((w.alloc (.cells #[.pointer (some ⟨mb, 0, none⟩)] 39)).alloc (.cells #[.int .i64 now] 3)) W → Calls Try.prog 64 #[.slice y L.ms.length cap, .func (.func 74) #[] #[.pointer (some ⟨w.heap.size, 0, none⟩), .pointer (some ⟨w.heap.size + 1, 0, none⟩)]] W fun e w' => ∃ v, e = .returned v ∧ Mg (w'.setCell ⟨mb, 6, none⟩ v) mb (endedL L now v) F ∧ Ext F W w' ∧ Core w' mb { endedL L now v with mv := L.mv } F ∧ (∃ x n c, v = .slice x n c ∧ n ≤ c ∧ c ≤ 9223372036854775807)) from by
    intro W hW
    rw [← hv]
    have e1 : ((w.alloc (.cells #[.pointer (some ⟨mb, 0, none⟩)] 39)).alloc (.cells #[.int .i64 now] 3)).heap[w.heap.size]? = some (.cells #[.pointer (some ⟨mb, 0, none⟩)] 39 (0, 0)) := (Below.heap_alloc _ _ _ (by simp)).trans (MapKept.heap_alloc w _).1
    have e2 : ((w.alloc (.cells #[.pointer (some ⟨mb, 0, none⟩)] 39)).alloc (.cells #[.int .i64 now] 3)).heap[w.heap.size + 1]? = some (.cells #[.int .i64 now] 3 (0, 0)) := by
      have := (MapKept.heap_alloc (w.alloc (.cells #[.pointer (some ⟨mb, 0, none⟩)] 39)) (.cells #[.int .i64 now] 3)).1
      simpa using this
    exact end_del mb L F now hnow w.heap.size (w.heap.size + 1) W (h.quiet (hxa.trans hW)) (fun f => by have := h.lt _ f; omega) (fun f => by have := h.lt _ f; omega) ((hW.block _ (heap_lt e1) fun f => f).trans e1) ((hW.block _ (heap_lt e2) fun f => f).trans e2))
  have HF := (show Hid (F mb ∧ ¬ F w.heap.size) from ⟨h.fb.1, fun f => by have := h.lt _ f; omega⟩)
  clear h hv
  go_enter Try.func51, Try.ntmps51
  go_wp2_with fail
  go_region_law (first | (go_simp; go_at_call 64; refine (HD.out _ (by first | exact (Ext.refl _ _).drewN _ | exact Ext.refl _ _)).mono ?_; rintro e w1 ⟨v, rfl, hm, hx, hc, x, n, c, rfl, q1, q2⟩; obtain ⟨b0, c6', f6⟩ := end_facts HF.out hx hc))
  all_goals refine bodyPost_end (v := .tuple #[]) (by simp [results, Try.results51, go_sem]) rfl ?_
  all_goals exact ⟨rfl, _, hm, ((((Ext.refl F w).alloc _).alloc _).drew.trans hx).setCell mb 6 _ HF.out.1⟩
end Go.Proofs.Ytnakafmlenngnaa.Qm
