/- Again. -/
import Derived.Test.YtnakafmlenngnaaQad2
import Derived.Test.YtnakafmlenngnaaQu
namespace Go.Proofs.Ytnakafmlenngnaa.Qm
open Go.RowKit Go.Proofs.Ytnakafmlenngnaa.Wi

theorem cell_one (W : World) (v : Value) (T : Nat) : (W.alloc (.cells #[v] T)).cell? ⟨W.heap.size, 0, none⟩ = some v := by
  have := (MapKept.heap_alloc W (.cells #[v] T)).1
  simp only [World.cell?, this]
  rfl

def againF (lm : Lm) (now : Int) (ds : List Ds) (rs : List Rc) : List Ds × List Rc := rs.foldl (againTo lm now) (ds, [])
theorem againF_snoc (lm : Lm) (now : Int) (ds : List Ds) (D : List Rc) (k : Nat) (hk : k < D.length) : againF lm now ds (D.take (k + 1)) = againTo lm now (againF lm now ds (D.take k)) D[k] := by
  unfold againF
  rw [List.take_succ_eq_append_getElem hk, List.foldl_append]
  rfl
theorem againF_length (lm : Lm) (now : Int) (ds : List Ds) (D : List Rc) (k : Nat) (hk : k ≤ D.length) : (againF lm now ds (D.take k)).1.length ≤ ds.length + k ∧ (againF lm now ds (D.take k)).2.length = k := by
  induction k with
  | zero => simp [againF]
  | succ k ih =>
    obtain ⟨h1, h2⟩ := ih (by omega)
    rw [againF_snoc _ _ _ _ _ (by omega)]
    unfold againTo
    split
    · have := queueD_length lm (againF lm now ds (D.take k)).1 (D[k]'(by omega)).dest now
      exact ⟨by dsimp only; omega, by simp [h2]⟩
    · exact ⟨by dsimp only; omega, by simp [h2]⟩

theorem map_set_same {α β : Type} (f : α → β) (l : List α) (i : Nat) (x : α) (h : ∀ y, l[i]? = some y → f x = f y) : (l.set i x).map f = l.map f := by
  refine List.ext_getElem? fun k => ?_
  rw [List.map_set, List.getElem?_set]
  split
  · rename_i e
    subst e
    split
    · rename_i hl
      simp only [List.length_map] at hl
      rw [List.getElem?_map, List.getElem?_eq_getElem hl, h _ (List.getElem?_eq_getElem hl)]
      rfl
    · rename_i hl
      rw [List.getElem?_eq_none (by omega)]
  · rfl

/-- The message, k of its recipients having been gone through. -/
def midA (lm : Lm) (now : Int) (ds : List Ds) (m : Ml) (k : Nat) : Ml := { m with waits := false, due := 0, rs := (againF lm now ds (m.rs.take k)).2 ++ m.rs.drop k }
theorem midA_length (lm : Lm) (now : Int) (ds : List Ds) (m : Ml) (k : Nat) (hk : k ≤ m.rs.length) : (midA lm now ds m k).rs.length = m.rs.length := by
  have := (againF_length lm now ds m.rs k hk).2
  simp only [midA, List.length_append, List.length_drop]
  omega
theorem midA_at (lm : Lm) (now : Int) (ds : List Ds) (m : Ml) (k : Nat) (hk : k < m.rs.length) (hk' : k < (midA lm now ds m k).rs.length) : (midA lm now ds m k).rs[k] = m.rs[k] := by
  have := (againF_length lm now ds m.rs k (by omega)).2
  simp only [midA]
  rw [List.getElem_append_right (by omega)]
  simp only [this, Nat.sub_self, List.getElem_drop, Nat.add_zero]
theorem midA_same (lm : Lm) (now : Int) (ds : List Ds) (m : Ml) (k : Nat) (hk : k < m.rs.length) (hs : m.rs[k].st ≠ 3) : midA lm now ds m (k + 1) = midA lm now ds m k ∧ (againF lm now ds (m.rs.take (k + 1))).1 = (againF lm now ds (m.rs.take k)).1 := by
  have e : againF lm now ds (m.rs.take (k + 1)) = ((againF lm now ds (m.rs.take k)).1, (againF lm now ds (m.rs.take k)).2 ++ [m.rs[k]]) := by
    rw [againF_snoc _ _ _ _ _ hk]
    unfold againTo
    rw [if_neg hs]
  refine ⟨?_, by rw [e]⟩
  unfold midA
  rw [e]
  dsimp only
  rw [List.append_assoc, List.singleton_append, List.getElem_cons_drop hk]
theorem midA_turn (lm : Lm) (now : Int) (ds : List Ds) (m : Ml) (k : Nat) (hk : k < m.rs.length) (hs : m.rs[k].st = 3) :
    midA lm now ds m (k + 1) = { midA lm now ds m k with rs := (midA lm now ds m k).rs.set k { m.rs[k] with st := (queueD lm (againF lm now ds (m.rs.take k)).1 m.rs[k].dest now).2 } } ∧
    (againF lm now ds (m.rs.take (k + 1))).1 = (queueD lm (againF lm now ds (m.rs.take k)).1 m.rs[k].dest now).1 := by
  have e : againF lm now ds (m.rs.take (k + 1)) = ((queueD lm (againF lm now ds (m.rs.take k)).1 m.rs[k].dest now).1, (againF lm now ds (m.rs.take k)).2 ++ [{ m.rs[k] with st := (queueD lm (againF lm now ds (m.rs.take k)).1 m.rs[k].dest now).2 }]) := by
    rw [againF_snoc _ _ _ _ _ hk]
    unfold againTo
    rw [if_pos hs]
  have hl := (againF_length lm now ds m.rs k (by omega)).2
  refine ⟨?_, by rw [e]⟩
  unfold midA
  rw [e]
  dsimp only
  congr 1
  rw [List.set_append_right _ _ (by omega), hl, Nat.sub_self, ← List.getElem_cons_drop hk, List.set_cons_zero, List.append_assoc]
  rfl

structure AgI (w wr : World) (mb : Nat) (L : Lq) (F : Nat → Prop) (a : Nat) (m : Ml) (now : Int) (k : Nat) (L1 : Lq) (F1 : Nat → Prop) : Prop where
  mg : Mg wr mb L1 F1
  ext : Ext F w wr
  grow : Grow F w wr F1
  sub : ∀ k, F k → F1 k
  ms : L1.ms = (turned L a (midA L.lm now L.q.ds m k)).ms
  q : L1.q = { L.q with ds := (againF L.lm now L.q.ds (m.rs.take k)).1, ms := L.q.ms.set a (midA L.lm now L.q.ds m k) }

section
variable {w wr : World} {mb : Nat} {L : Lq} {F : Nat → Prop} {a : Nat} {m : Ml} {now : Int} {k : Nat} {L1 : Lq} {F1 : Nat → Prop}
theorem AgI.lm (h : AgI w wr mb L F a m now k L1 F1) : L1.lm = L.lm := congrArg Qs.lm h.q
theorem AgI.dlen (h : AgI w wr mb L F a m now k L1 F1) (hk : k ≤ m.rs.length) : L1.ds.length ≤ L.ds.length + k := by
  have e : L1.q.ds = (againF L.lm now L.q.ds (m.rs.take k)).1 := congrArg Qs.ds h.q
  have h1 : L1.ds.length = L1.q.ds.length := by simp [Lq.q]
  have h2 : L.ds.length = L.q.ds.length := by simp [Lq.q]
  rw [h1, h2, e]
  exact (againF_length L.lm now L.q.ds m.rs k hk).1
theorem AgI.alt (h : AgI w wr mb L F a m now k L1 F1) (ha : a < L.ms.length) : a < L1.ms.length := by
  rw [h.ms, turned_length]; exact ha
theorem AgI.mail (h : AgI w wr mb L F a m now k L1 F1) (ha : a < L.ms.length) : MailAt wr { L.ms[a] with m := midA L.lm now L.q.ds m k } := by
  have := h.mg.mails _ (List.getElem_mem (h.alt ha))
  have hl : a < (turned L a (midA L.lm now L.q.ds m k)).ms.length := by rw [turned_length]; exact ha
  have e : L1.ms[a]'(h.alt ha) = (turned L a (midA L.lm now L.q.ds m k)).ms[a] := by simp only [h.ms]
  rw [e, turned_at ha hl] at this
  exact this
theorem AgI.same (h : AgI w wr mb L F a m now k L1 F1) (hk : k < m.rs.length) (hs : m.rs[k].st ≠ 3) : AgI w wr mb L F a m now (k + 1) L1 F1 := by
  obtain ⟨e1, e2⟩ := midA_same L.lm now L.q.ds m k hk hs
  exact ⟨h.mg, h.ext, h.grow, h.sub, by rw [e1]; exact h.ms, by rw [e1, e2]; exact h.q⟩
theorem AgI.turn (h : AgI w wr mb L F a m now k L1 F1) (ha : a < L.ms.length) (hk : k < m.rs.length) (hs : m.rs[k].st = 3) {g : Nat} (hg : L.ms[a].v.ownBlock = some g) {e : Ending} {w' : World} (hp : QueuePost mb L1 F1 m.rs[k].dest now g (k * 2 + 1) wr e w') :
    ∃ L2 F2, AgI w w' mb L F a m now (k + 1) L2 F2 := by
  obtain ⟨-, L', F', W1, hM, rfl, hX, hG, hS, hq, hms⟩ := hp
  obtain ⟨e1, e2⟩ := midA_turn L.lm now L.q.ds m k hk hs
  have hlm := h.lm
  have hds : L1.q.ds = (againF L.lm now L.q.ds (m.rs.take k)).1 := congrArg Qs.ds h.q
  have hal := h.alt ha
  have hl : a < (turned L a (midA L.lm now L.q.ds m k)).ms.length := by rw [turned_length]; exact ha
  have ha' : a < L'.ms.length := by rw [hms]; exact hal
  have hz : L'.ms[a] = { L.ms[a] with m := midA L.lm now L.q.ds m k } := by
    rw [← turned_at ha hl]
    simp only [hms, h.ms]
  have hr : k < L'.ms[a].m.rs.length := by rw [hz]; dsimp only; rw [midA_length _ _ _ _ _ (by omega)]; exact hk
  have hFg : F' g := (hM.fm _ (List.getElem_mem ha')).2 g (by rw [hz]; exact hg)
  have hm := hM.setRc a ha' k hr (queueD L1.lm L1.q.ds m.rs[k].dest now).2 g (by rw [hz]; exact hg)
  have em : ({ L'.ms[a].m with rs := L'.ms[a].m.rs.set k { L'.ms[a].m.rs[k] with st := (queueD L1.lm L1.q.ds m.rs[k].dest now).2 } } : Ml) = midA L.lm now L.q.ds m (k + 1) := by
    rw [e1, hlm, hds]
    simp only [hz]
    rw [midA_at _ _ _ _ _ hk]
  rw [em] at hm
  have hw1 : w.heap.size ≤ wr.heap.size := h.ext.size
  refine ⟨_, F', hm, ?_, ?_, fun k hk => hS k (h.sub k hk), ?_, ?_⟩
  · have h1 := h.ext.grow h.grow hX
    rcases h.grow.trans hG hw1 hX.size g hFg with f | f
    · exact h1.setCell g _ _ f
    · exact h1.setCell_new g _ _ f.1
  · intro k hk
    rcases h.grow.trans hG hw1 hX.size k hk with f | f
    · exact .inl f
    · exact .inr ⟨f.1, by simpa [World.setCell] using f.2⟩
  · rw [turned_set _ _ ha', turned_set _ _ ha]
    dsimp only
    rw [hz, hms, h.ms, turned_set _ _ ha]
    dsimp only
    rw [List.set_set]
  · have : (turned L' a (midA L.lm now L.q.ds m (k + 1))).q = { L'.q with ms := L'.q.ms.set a (midA L.lm now L.q.ds m (k + 1)) } := by
      rw [turned_set _ _ ha']
      simp [Lq.q, List.map_set]
    rw [this, hq, h.q, hlm, e2]
    dsimp only
    rw [List.set_set]
end

set_option maxHeartbeats 8000000 in
set_option maxRecDepth 100000 in
theorem again_run (mb : Nat) (L : Lq) (F : Nat → Prop) (id : ByteArray) (now : Int) (w : World) (hM : Mg w mb L F) (hml : L.ms.length ≤ 50000) (hdl : L.ds.length ≤ 50000) (hrl : ∀ m ∈ L.q.ms, m.rs.length ≤ 200) :
    Calls Try.prog 36 #[.pointer (some ⟨mb, 0, none⟩), .string id, .int .i64 now] w fun e w' => e = .returned (.int .i64 (again L.q id now).1) ∧ StepPost mb F (again L.q id now).2 w w' := by
  have HF := hid (find_run mb L F id w hM)
  have HT := (show Hid (∀ W g, W.cell? ⟨g, 0, none⟩ = some (.int .i64 now) → Calls Try.prog 44 #[.slice (some ⟨g, 0, none⟩) 1 1] W fun e w' => e = .returned (.bool (isT now)) ∧ W = w') from fun W g hg => istime_one W g now _ rfl hg)
  have HQ := (show Hid (∀ W, Ext (fun _ => False) w W → StepPost mb F L.q w W) from fun W hW => StepPost.quiet hM hW)
  unfold again
  cases ht : isT now with
  | false =>
    rw [ht] at HT
    simp only [Bool.not_false, if_true]
    clear hM hml hdl hrl
    have HF2 := (show Hid (∃ v, Calls Try.prog 48 #[.pointer (some ⟨mb, 0, none⟩), .string id] w (QuietPost v w)) from ⟨_, HF.out⟩)
    obtain ⟨v, HF3⟩ := HF2.out
    have HF3 := hid HF3
    clear HF HF2
    go_enter Try.func36, Try.ntmps36
    go_wp2_with fail
    refine HF3.out.mono ?_
    rintro e w1 ⟨rfl, hx1⟩
    have HX := hid hx1
    clear hx1 HF3
    go_wp2_with fail
    refine (HT.out _ _ (cell_one _ _ _)).mono ?_
    rintro e w2 ⟨rfl, rfl⟩
    go_wp2_with fail
    go_ret
    exact ⟨rfl, HQ.out _ (HX.out.trans ((Ext.refl _ _).alloc _))⟩
  | true =>
    rw [ht] at HT
    have hnow := isT_iff ht
    simp only [Bool.not_true, Bool.false_eq_true, if_false]
    have HU := (show Hid (∀ W, Ext (fun _ => False) w W → Calls Try.prog 49 #[.pointer (some ⟨mb, 0, none⟩)] W (QuietPost (.bool (full L.q)) W)) from fun W hW => full_run mb L F W (hM.quiet hW) (by omega))
    by_cases hi : mIdx L.q.ms id < L.ms.length
    · have e1 : foundV L (mIdx L.q.ms id) = .pointer (some ⟨L.ms[mIdx L.q.ms id].b, 0, none⟩) := by unfold foundV; rw [List.getElem?_eq_getElem hi]; rfl
      have e2 : L.q.ms[mIdx L.q.ms id]? = some L.ms[mIdx L.q.ms id].m := by
        show (L.ms.map (·.m))[mIdx L.q.ms id]? = _
        rw [List.getElem?_map, List.getElem?_eq_getElem hi]; rfl
      rw [e1] at HF
      rw [e2]
      dsimp only
      have hrm := hrl _ (List.mem_of_getElem? e2)
      generalize mIdx L.q.ms id = a at hi HF e2 hrm ⊢
      have HM := hid hM
      clear e1 hrl hM
      cases hw : L.ms[a].m.waits with
      | false =>
        simp only [Bool.not_false, if_true]
        clear hml hdl hrm e2
        go_enter Try.func36, Try.ntmps36
        go_wp2_with fail
        refine HF.out.mono ?_
        rintro e w1 ⟨rfl, hx1⟩
        have hz := (HM.out.quiet hx1).mails _ (List.getElem_mem hi)
        obtain ⟨-, -, -, c3, -⟩ := hz.cells
        rw [hw] at c3
        have hzb := hz.blt
        have HX := hid hx1
        clear hx1 HF hz HU
        go_wp2_with fail
        refine (HT.out _ _ (cell_one _ _ _)).mono ?_
        rintro e w2 ⟨rfl, rfl⟩
        go_wp2_with fail
        go_ret
        exact ⟨rfl, HQ.out _ (HX.out.trans ((Ext.refl _ _).alloc _))⟩
      | true =>
        simp only [Bool.not_true, Bool.false_eq_true, if_false]
        cases hu : full L.q with
        | true =>
          rw [hu] at HU
          simp only [if_true]
          clear hml hdl hrm e2
          go_enter Try.func36, Try.ntmps36
          go_wp2_with fail
          refine HF.out.mono ?_
          rintro e w1 ⟨rfl, hx1⟩
          have hz := (HM.out.quiet hx1).mails _ (List.getElem_mem hi)
          obtain ⟨-, -, -, c3, -⟩ := hz.cells
          rw [hw] at c3
          have hzb := hz.blt
          have HX := hid hx1
          clear hx1 HF hz
          go_wp2_with fail
          refine (HT.out _ _ (cell_one _ _ _)).mono ?_
          rintro e w2 ⟨rfl, rfl⟩
          have HX2 := hid (HX.out.trans ((Ext.refl _ _).alloc (.cells #[.int .i64 now] 3)))
          clear HX
          go_wp2_with fail
          refine (HU.out _ HX2.out).mono ?_
          rintro e w3 ⟨rfl, hx3⟩
          have HX3 := hid (HX2.out.trans hx3)
          clear hx3 HX2 HU
          go_wp2_with fail
          go_ret
          exact ⟨rfl, HQ.out _ HX3.out⟩
        | false =>
          rw [hu] at HU
          simp only [Bool.false_eq_true, if_false]
          have HE := (show Hid (∀ L2 F2 W, Mg W mb L2 F2 → Calls Try.prog 51 #[.pointer (some ⟨mb, 0, none⟩), .int .i64 now] W (fun e w' => e = .returned (.tuple #[]) ∧ EndsPost mb L2 F2 now W e w')) from fun L2 F2 W h => ends_run mb L2 F2 now hnow W h)
          have Hdl := hid hdl
          clear hml hdl e2 HQ
          go_enter Try.func36, Try.ntmps36
          go_wp2_with fail
          refine HF.out.mono ?_
          rintro e w1 ⟨rfl, hx1⟩
          have hz := (HM.out.quiet hx1).mails _ (List.getElem_mem hi)
          obtain ⟨-, -, -, c3, -⟩ := hz.cells
          rw [hw] at c3
          have hzb := hz.blt
          have HX := hid hx1
          clear hx1 HF hz
          go_wp2_with fail
          refine (HT.out _ _ (cell_one _ _ _)).mono ?_
          rintro e w2 ⟨rfl, rfl⟩
          have HX2 := hid (HX.out.trans ((Ext.refl _ _).alloc (.cells #[.int .i64 now] 3)))
          clear HX
          go_wp2_with fail
          refine (HU.out _ HX2.out).mono ?_
          rintro e w3 ⟨rfl, hx3⟩
          have hM3 := HM.out.quiet (HX2.out.trans hx3)
          have hz := hM3.mails _ (List.getElem_mem hi)
          obtain ⟨-, -, s2, s3, s4⟩ := hz.cells
          have sf := hz.free 3
          have sg := hz.free 4
          have hzl := hz.blt
          obtain ⟨xr, cr, hzv, xr1, xr2⟩ := row_shape hz.row
          rw [hzv] at s2
          -- the message is in hand again
          have I0 : AgI w ((w3.setCell ⟨L.ms[a].b, 3, none⟩ (.bool false)).setCell ⟨L.ms[a].b, 4, none⟩ (.int .i64 0)) mb L F a L.ms[a].m now 0 (turned L a (midA L.lm now L.q.ds L.ms[a].m 0)) F := by
            have e0 : midA L.lm now L.q.ds L.ms[a].m 0 = { L.ms[a].m with waits := false, due := 0 } := by simp [midA, againF]
            have hc := hM3.toCore.waits a hi false 0 (by omega)
            have hFb := (hM3.fm _ (List.getElem_mem hi)).1
            refine ⟨⟨by rw [e0]; exact hc, ?_⟩, ?_, fun k hk => .inl hk, fun _ h => h, rfl, ?_⟩
            · have hr := row_keep (w' := (w3.setCell ⟨L.ms[a].b, 3, none⟩ (.bool false)).setCell ⟨L.ms[a].b, 4, none⟩ (.int .i64 0)) hM3.mrow fun g hg => by
                obtain ⟨cur, hrr⟩ := row_type hM3.mrow g hg
                have : g ≠ L.ms[a].b := neT hrr hz.cell (by decide)
                exact (Below.heap_setCell _ _ _ _ this).trans (Below.heap_setCell _ _ _ _ this)
              have el : (turned L a (midA L.lm now L.q.ds L.ms[a].m 0)).ms.map mPtr = L.ms.map mPtr := by
                rw [turned_set _ _ hi]
                exact map_set_same _ _ _ _ (by rw [List.getElem?_eq_getElem hi]; intro y hy; injection hy with hy; subst hy; rfl)
              rw [el, turned_length]
              exact hr
            · exact ((((HX2.out.trans hx3).mono (G := F) fun _ f => f.elim).setCell _ _ _ hFb).setCell _ _ _ hFb)
            · rw [turned_set _ _ hi]
              simp [Lq.q, againF, List.map_set]
          have J0 := hid I0
          have Hzv := hid hzv
          clear hM3 hx3 hz I0 HX2 HU hzb c3 hzv
          go_wp2_with fail
          go_loopg [42] L.ms[a].m.rs.length (fun gg ix wr => ∃ k, ix = .int .i64 (k : Nat) ∧ k + gg = L.ms[a].m.rs.length ∧ ∃ L1 F1, Hid (AgI w wr mb L F a L.ms[a].m now k L1 F1))
          case atStart => exact ⟨0, rfl, by omega, _, _, J0⟩
          case round =>
            obtain ⟨k, rfl, hk, L1, F1, HI⟩ := hrel
            have Hk := hid hk
            have hkn : k ≤ L.ms[a].m.rs.length := by omega
            clear hk J0 s2 s3 s4 sf sg hzl
            by_cases hlt : k < L.ms[a].m.rs.length
            · have hz := HI.out.mail hi
              obtain ⟨-, -, d2, -, -⟩ := hz.cells
              have hzl := hz.blt
              obtain ⟨gr, cg, f1, hgo, -, -, hgl, d0, d1, dfz⟩ := hz.rc k (by dsimp only; rw [midA_length _ _ _ _ _ hkn]; exact hlt)
              dsimp only at d0 d1 d2 f1 hgo hzl
              rw [midA_at _ _ _ _ _ hlt] at d0 d1
              rw [midA_length _ _ _ _ _ hkn] at f1
              have f2 := f1
              rw [Hzv.out] at f2
              injection f2 with f3 f4 f5
              subst f3
              rw [Hzv.out] at d2
              clear f1 f4 f5
              cases hs : decide (L.ms[a].m.rs[k].st = 3) with
              | true =>
                have hs := of_decide_eq_true hs
                rw [hs] at d1
                have HQu := hid (queue_run mb L1 F1 L.ms[a].m.rs[k].dest now gr (k * 2) wr HI.out.mg (by have := HI.out.dlen hkn; have := Hdl.out; omega) d0 (fun W L' F' hM' hms' hx' => by
                  have ha' : a < L'.ms.length := by rw [hms']; exact HI.out.alt hi
                  have hz' := hM'.mails _ (List.getElem_mem ha')
                  have e : L'.ms[a] = { L.ms[a] with m := midA L.lm now L.q.ds L.ms[a].m k } := by
                    rw [← turned_at hi (by rw [turned_length]; exact hi)]
                    simp only [hms', HI.out.ms]
                  rw [e] at hz'
                  obtain ⟨g2, c2, f6, hg2, -, -, -, -, d6, dz6⟩ := hz'.rc k (by dsimp only; rw [midA_length _ _ _ _ _ hkn]; exact hlt)
                  rw [hgo] at hg2
                  injection hg2 with hg2
                  subst hg2
                  exact ⟨⟨_, d6⟩, dz6 _⟩))
                have Hs := hid hs
                have Hgo := hid hgo
                clear hs hz hgo dfz
                go_wp2_with fail
                refine HQu.out.mono ?_
                rintro e w5 hq
                have HJ := hid (HI.out.turn hi hlt Hs.out Hgo.out hq)
                have he := hq.1
                subst he
                clear hq HQu HI
                go_wp2_with fail
                go_roundg (gk - 1)
                case measure => have := Hk.out; omega
                case rel => exact ⟨k + 1, by go_num, by have := Hk.out; omega, HJ.out⟩
              | false =>
                have hs := of_decide_eq_false hs
                have HJ := hid (HI.out.same hlt hs)
                have hne : ((L.ms[a].m.rs[k].st : Int) == 3) = false := by simpa using (show ¬ (L.ms[a].m.rs[k].st : Int) = 3 by omega)
                clear hs hz hgo dfz HI
                go_wp2_with fail
                go_roundg (gk - 1)
                case measure => have := Hk.out; omega
                case rel => exact ⟨k + 1, by go_num, by have := Hk.out; omega, L1, F1, HJ.out⟩
            · obtain rfl : k = L.ms[a].m.rs.length := by omega
              go_wp2_with fail
              refine (HE.out _ _ _ HI.out.mg).mono ?_
              rintro e w5 ⟨rfl, v4, hM4, hX4⟩
              have HP : Hid (StepPost mb F { L.q with ds := (L.ms[a].m.rs.foldl (againTo L.q.lm now) (L.q.ds, [])).1, ms := endsM L.q.lm now (L.q.ms.set a { L.ms[a].m with waits := false, due := 0, rs := (L.ms[a].m.rs.foldl (againTo L.q.lm now) (L.q.ds, [])).2 }) } w w5) := by
                refine ⟨_, F1, hM4, fun k hk => ?_, HI.out.ext.grow HI.out.grow hX4, ?_⟩
                · rcases HI.out.grow k hk with f | f
                  · exact .inl f
                  · exact .inr ⟨f.1, Nat.lt_of_lt_of_le f.2 hX4.size⟩
                · rw [endedL_q, HI.out.lm, HI.out.q]
                  simp [midA, againF, Lq.q]
              clear hM4 hX4 HE HI
              go_wp2_with fail
              go_ret
              exact ⟨rfl, HP.out⟩
    · have e1 : foundV L (mIdx L.q.ms id) = .pointer none := by unfold foundV; rw [List.getElem?_eq_none (by omega)]; rfl
      have e2 : L.q.ms[mIdx L.q.ms id]? = none := by
        show (L.ms.map (·.m))[mIdx L.q.ms id]? = _
        rw [List.getElem?_map, List.getElem?_eq_none (by omega)]; rfl
      rw [e1] at HF
      rw [e2]
      dsimp only
      clear hM hml hdl hrl e1 e2 hi HU
      go_enter Try.func36, Try.ntmps36
      go_wp2_with fail
      refine HF.out.mono ?_
      rintro e w1 ⟨rfl, hx1⟩
      have HX := hid hx1
      clear hx1 HF
      go_wp2_with fail
      refine (HT.out _ _ (cell_one _ _ _)).mono ?_
      rintro e w2 ⟨rfl, rfl⟩
      go_wp2_with fail
      go_ret
      exact ⟨rfl, HQ.out _ (HX.out.trans ((Ext.refl _ _).alloc _))⟩
end Go.Proofs.Ytnakafmlenngnaa.Qm
