/- Next. -/
import Derived.Test.YtnakafmlenngnaaQy
import Derived.Test.YtnakafmlenngnaaQo
import Derived.Deep.RegionLaw
import Derived.BigRegion
namespace Go.Proofs.Ytnakafmlenngnaa.Qm
open Go.RowKit Go.Proofs.Ytnakafmlenngnaa.Wi

section
variable (P : Program) (w : World) (a : Addr) (m : Mode)
@[go_sem] theorem run_store_func (f : Fn) (x y : Array Value) : (store a (.func f x y) m).run P w = stored P w a (.func f x y) m := run_store P w a _ m rfl
end

theorem next_none {q : Qs} (h : ∀ k, k < q.ds.length → hit q k = false) : next q = none := by
  have e : turnsTo q = q.ds.length := by
    unfold turnsTo
    have : (List.range q.ds.length).findIdx (hit q) = (List.range q.ds.length).length := by
      rw [List.findIdx_eq_length]
      intro x hx
      exact h x (List.mem_range.1 hx)
    simpa using this
  unfold next
  rw [e]
  split
  · rfl
  · rw [if_neg (Nat.lt_irrefl _)]
theorem next_some {q : Qs} {k : Nat} (hk : k < q.ds.length) (hh : hit q k = true) (hno : ∀ j, j < k → hit q j = false) {d : Ds} (hd : q.ds[spot q k]? = some d) {m : Ml} (hm : q.ms[sIdx q.ms d.name]? = some m) :
    next q = some (begin_ q (spot q k) d (sIdx q.ms d.name) m) := by
  have e : turnsTo q = k := by
    unfold turnsTo
    rw [List.findIdx_eq (by simpa using hk)]
    refine ⟨by simpa using hh, fun j hj => by simpa using hno j hj⟩
  unfold next
  rw [e, hd]
  simp only [hk, if_true, hm]

def NextPost (mb : Nat) (F : Nat → Prop) (q : Qs) (w : World) (e : Ending) (w' : World) : Prop :=
  (next q = none ∧ e = .returned (.tuple #[.agg #[.string ByteArray.empty, .string ByteArray.empty, .slice none 0 0], .bool false]) ∧ StepPost mb F q w w') ∨
  ∃ j q' v, next q = some (j, q') ∧ e = .returned (.tuple #[.agg #[.string j.id, .string j.dest, v], .bool true]) ∧ JobStep mb F j q' v w w'

theorem q_spot (L : Lq) (k : Nat) : spot L.q k = (L.turn + k) % L.ds.length := by simp [spot, Lq.q]

theorem hit_at (L : Lq) (k : Nat) (hi : spot L.q k < L.ds.length) : hit L.q k = (decide (sIdx L.q.ms L.ds[spot L.q k].d.name < L.ms.length) && decide (L.ds[spot L.q k].d.f < L.ds[spot L.q k].d.s)) := by
  unfold hit
  have e : L.q.ds[spot L.q k]? = some L.ds[spot L.q k].d := by
    show (L.ds.map (·.d))[spot L.q k]? = _
    rw [List.getElem?_map, List.getElem?_eq_getElem hi]; rfl
  rw [e]
  have : L.q.ms.length = L.ms.length := by simp [Lq.q]
  rw [← this]

theorem Core.dest_at {w : World} {mb : Nat} {L : Lq} {F : Nat → Prop} (h : Core w mb L F) (k : Nat) (hk : k < L.ds.length) : ∃ g cap, L.dv = .slice (some ⟨g, 0, none⟩) L.ds.length cap ∧ w.cell? ⟨g, k, none⟩ = some (.pointer (some ⟨L.ds[k].b, 0, none⟩)) := by
  obtain ⟨g, cap, e, h1, h2, h3, h4, h5⟩ := row_at h.drow k (by simpa using hk)
  exact ⟨g, cap, e, by rw [h4]; simp [dPtr]⟩

theorem hold5 {w W W' : World} {tb zb g jb o : Nat} {v1 v2 v3 v4 v5 : Value} (h : W.cell? ⟨tb, 0, none⟩ = some v1 ∧ W.cell? ⟨zb, 2, none⟩ = some v2 ∧ W.cell? ⟨g, o, none⟩ = some v3 ∧ W.cell? ⟨g, o + 1, none⟩ = some v4 ∧ W.cell? ⟨jb, 2, none⟩ = some v5 ∧ Ext (fun _ => False) w W)
    (h1 : tb < w.heap.size) (h2 : zb < w.heap.size) (h3 : g < w.heap.size) (h4 : jb < w.heap.size) (hx : Ext (fun _ => False) W W') :
    W'.cell? ⟨tb, 0, none⟩ = some v1 ∧ W'.cell? ⟨zb, 2, none⟩ = some v2 ∧ W'.cell? ⟨g, o, none⟩ = some v3 ∧ W'.cell? ⟨g, o + 1, none⟩ = some v4 ∧ W'.cell? ⟨jb, 2, none⟩ = some v5 ∧ Ext (fun _ => False) w W' := by
  obtain ⟨a1, a2, a3, a4, a5, a6⟩ := h
  have hs := a6.size
  exact ⟨(hx.cell (by omega) (fun f => f) _).trans a1, (hx.cell (by omega) (fun f => f) _).trans a2, (hx.cell (by omega) (fun f => f) _).trans a3, (hx.cell (by omega) (fun f => f) _).trans a4, (hx.cell (by omega) (fun f => f) _).trans a5, a6.trans hx⟩

theorem job_cells {w w6 : World} {mb jb : Nat} {v1 v2 v3 v4 : Value} (hx : Ext (fun _ => False) w.drew w6) (hm : mb < w.heap.size) (hj : jb < w.heap.size) (h1 : w.cell? ⟨mb, 10, none⟩ = some v1) (h2 : w.cell? ⟨jb, 0, none⟩ = some v2) (h3 : w.cell? ⟨jb, 1, none⟩ = some v3) (h4 : w.cell? ⟨jb, 2, none⟩ = some v4) :
    w6.cell? ⟨mb, 10, none⟩ = some v1 ∧ w6.cell? ⟨jb, 0, none⟩ = some v2 ∧ w6.cell? ⟨jb, 1, none⟩ = some v3 ∧ w6.cell? ⟨jb, 2, none⟩ = some v4 := by
  have hx' : Ext (fun _ => False) w w6 := (Ext.refl _ _).drew.trans hx
  exact ⟨(hx'.cell hm (fun f => f) _).trans h1, (hx'.cell hj (fun f => f) _).trans h2, (hx'.cell hj (fun f => f) _).trans h3, (hx'.cell hj (fun f => f) _).trans h4⟩

theorem took_no {w1 w3 : World} {b i l s c f : Nat} (h1 : Win w1 b i l s c f) (h3 : Win w3 b i l s c f) (ho : Only b w1 w3) : Ext (fun _ => False) w1 w3 :=
  ⟨ho.os, ho.tape, ho.output, by rw [ho.size]; exact Nat.le_refl _, fun k _ _ => by
    by_cases e : k = b
    · rw [e]; exact h3.trans h1.symm
    · exact ho.block k e⟩

theorem two_boxes {wq W : World} {lm : Lm} {z : LD} (hz : DestAt wq lm z) (hW : Ext (fun _ => False) ((wq.alloc (.cells #[.pointer (some ⟨z.b, 0, none⟩)] 99)).alloc (.cells #[.func (.func 52) #[] #[.pointer (some ⟨wq.heap.size, 0, none⟩)]] 102)) W) :
    Boxes W wq.heap.size (wq.heap.size + 1) z.b z.d.name := by
  have hzl := heap_lt hz.cell
  have e1 : ((wq.alloc (.cells #[.pointer (some ⟨z.b, 0, none⟩)] 99)).alloc (.cells #[.func (.func 52) #[] #[.pointer (some ⟨wq.heap.size, 0, none⟩)]] 102)).heap[wq.heap.size]? = some (.cells #[.pointer (some ⟨z.b, 0, none⟩)] 99 (0, 0)) := (Below.heap_alloc _ _ _ (by simp)).trans (MapKept.heap_alloc wq _).1
  have e2 : ((wq.alloc (.cells #[.pointer (some ⟨z.b, 0, none⟩)] 99)).alloc (.cells #[.func (.func 52) #[] #[.pointer (some ⟨wq.heap.size, 0, none⟩)]] 102)).heap[wq.heap.size + 1]? = some (.cells #[.func (.func 52) #[] #[.pointer (some ⟨wq.heap.size, 0, none⟩)]] 102 (0, 0)) := by
    have e : (wq.alloc (.cells #[.pointer (some ⟨z.b, 0, none⟩)] 99)).heap.size = wq.heap.size + 1 := by simp
    rw [← e]
    exact (MapKept.heap_alloc _ _).1
  exact Boxes.quiet ⟨e1, e2, .pointer (some ⟨z.wb, 0, none⟩), .int .i64 z.d.rev, (Below.heap_alloc _ _ _ (by simp; omega)).trans ((Below.heap_alloc _ _ _ hzl).trans hz.cell)⟩ hW

set_option maxHeartbeats 16000000 in
set_option maxRecDepth 100000 in
set_option linter.unusedSimpArgs false in
theorem next_run (mb : Nat) (L : Lq) (F : Nat → Prop) (w : World) (hM : Mg w mb L F) (_hml : L.ms.length ≤ 50000) (hdl : L.ds.length ≤ 50000) (hjl : L.jobs.length ≤ 50000) :
    Calls Try.prog 29 #[.pointer (some ⟨mb, 0, none⟩)] w (NextPost mb F L.q w) := by
  obtain ⟨xd, cd, hdv, xd1, xd2⟩ := row_shape hM.drow
  obtain ⟨xm, cm, hmv, xm1, xm2⟩ := row_shape hM.mrow
  have HM := (show Hid (∀ W, Ext (fun _ => False) w W → Mg W mb L F) from fun W hW => hM.quiet hW)
  have ht := hM.turn
  have hmbl := hM.mblt
  have hlt := hid hM.lt
  have ha0 : Ext (fun _ => False) w (w.alloc resO) := (Ext.refl _ _).alloc _
  clear hM
  go_enter Try.func29, Try.ntmps29
  obtain ⟨-, -, -, -, -, -, -, t7, -, -, -⟩ := (HM.out _ (Ext.refl _ w)).tops
  rw [hdv] at t7
  go_wp2_with fail
  go_loopg [17] L.ds.length (fun gg ix wr => ∃ k, ix = .int .i64 (k : Nat) ∧ k + gg = L.ds.length ∧ Hid (∀ j, j < k → hit L.q j = false) ∧ Hid (Ext (fun _ => False) (w.alloc resO) wr))
  case atStart => exact ⟨0, rfl, by omega, fun j hj => absurd hj (Nat.not_lt_zero _), Ext.refl _ _⟩
  case round =>
    obtain ⟨k, rfl, hk, hno, hxr⟩ := hrel
    have Hk := hid hk
    have hkn : k ≤ L.ds.length := by omega
    clear hk t7
    by_cases hlk : k < L.ds.length
    · have hxw := ha0.trans hxr.out
      obtain ⟨-, -, -, -, -, -, t6, t7, -, t9, -⟩ := (HM.out _ hxw).tops
      rw [hdv] at t7
      rw [hmv] at t6
      have hil : spot L.q k < L.ds.length := by rw [q_spot]; exact Nat.mod_lt _ (by omega)
      obtain ⟨gd, cd', e1, cdk⟩ := (HM.out _ hxw).dest_at _ hil
      rw [hdv] at e1
      injection e1 with e1 e2 e3
      subst e1
      clear e2 e3
      have hmod : ((L.turn : Int) + k) % (L.ds.length : Int) = ((spot L.q k : Nat) : Int) := by rw [q_spot]; simp
      have hsum : IntKind.i64.wrap ((L.turn : Int) + k) = (L.turn : Int) + k := IntWalk.i64_in _ (by omega)
      generalize hi : spot L.q k = i at hil cdk hmod
      have hz : Hid (spot L.q k = i) := hi
      have Hmod := hid hmod
      clear hi hxw hmod
      go_wp2_with fail
      go_quiet (fail)
      clear hsum
      rw [Hmod.out]
      have hxq : Ext (fun _ => False) wr (wr.drewN nq) := (Ext.refl _ _).drewN nq
      generalize wr.drewN nq = wq at hxq ⊢
      have hxwq := ha0.trans (hxr.out.trans hxq)
      clear Hmod t6 t7 t9 cdk
      obtain ⟨-, -, -, -, -, -, t6, t7, -, t9, -⟩ := (HM.out _ hxwq).tops
      obtain ⟨gd', cd', e1, cdk⟩ := (HM.out _ hxwq).dest_at _ hil
      have hmq := (HM.out _ hxwq).mblt
      rw [hdv] at t7 e1
      injection e1 with e1 e2 e3
      injection e1 with e1
      injection e1 with e1 e4 e5
      subst e1
      clear e2 e3 e4 e5
      rw [hmv] at t6
      have HXQ := hid (hxr.out.trans hxq)
      have hzd := (HM.out _ hxwq).dests _ (List.getElem_mem hil)
      have hzl := heap_lt hzd.cell
      have HB := (show Hid (∀ W, Ext (fun _ => False) ((wq.alloc (.cells #[.pointer (some ⟨L.ds[i].b, 0, none⟩)] 99)).alloc (.cells #[.func (.func 52) #[] #[.pointer (some ⟨wq.heap.size, 0, none⟩)]] 102)) W → Boxes W wq.heap.size (wq.heap.size + 1) L.ds[i].b L.ds[i].d.name) from fun W hW => two_boxes hzd hW)
      have HV := (show Hid (∀ W, Ext (fun _ => False) ((wq.alloc (.cells #[.pointer (some ⟨L.ds[i].b, 0, none⟩)] 99)).alloc (.cells #[.func (.func 52) #[] #[.pointer (some ⟨wq.heap.size, 0, none⟩)]] 102)) W →
          Calls Try.prog 53 #[.slice xm L.ms.length cm, .func (.func 54) #[] #[.pointer (some ⟨wq.heap.size + 1, 0, none⟩)]] W fun e w' => (∃ r : Int, e = .returned (.int .i64 r) ∧ ((sIdx L.q.ms L.ds[i].d.name < L.ms.length ∧ r = (sIdx L.q.ms L.ds[i].d.name : Nat)) ∨ (r = -1 ∧ ¬ sIdx L.q.ms L.ds[i].d.name < L.ms.length))) ∧ Ext (fun _ => False) W w') from fun W hW =>
        serve_idx mb L F wq.heap.size (wq.heap.size + 1) L.ds[i].b L.ds[i].d.name xm cm hmv W (HM.out W (hxwq.trans ((((Ext.refl _ _).alloc _).alloc _).trans hW))) (HB.out W hW))
      have Hhit := (show Hid (hit L.q k = (decide (sIdx L.q.ms L.ds[i].d.name < L.ms.length) && decide (L.ds[i].d.f < L.ds[i].d.s))) from by
        have := hit_at L k (by rw [hz.out]; exact hil)
        simp only [hz.out] at this
        exact this)
      clear hxwq hxq hzd
      go_wp2_with fail
      refine (HV.out _ (Ext.refl _ _)).mono ?_
      rintro e w1 ⟨⟨r, rfl, hr⟩, hx1⟩
      have HX1 := hid (HXQ.out.trans ((((Ext.refl (fun _ => False) wq).alloc _).alloc _).trans hx1))
      rcases hr with ⟨hsl, rfl⟩ | ⟨rfl, hsl⟩
      · generalize ha : sIdx L.q.ms L.ds[i].d.name = a at hsl
        have Ha := hid ha
        clear ha HV
        have hM1 := HM.out w1 (ha0.trans HX1.out)
        have hB1 := HB.out w1 hx1
        obtain ⟨b1, b2⟩ := hB1.cells
        have hzd := hM1.dests _ (List.getElem_mem hil)
        obtain ⟨z0, z1, z2⟩ := hzd.cells
        have HT := hid (take_any L.ds[i].wb L.lm.ini L.lm.lim L.ds[i].d.s L.ds[i].d.c L.ds[i].d.f w1 hzd.st hzd.win)
        have HW1 := hid hzd.win
        have HM1 := hid hM1
        have HB1 := hid hB1
        clear hM1 hB1 hzd hx1 HB
        go_wp2_with fail
        refine HT.out.mono ?_
        rintro e w3 ⟨rfl, hw3, ho3⟩
        by_cases hfs : L.ds[i].d.f < L.ds[i].d.s
        · have hmod2 : ((i : Int) + 1) % (L.ds.length : Int) = (((i + 1) % L.ds.length : Nat) : Int) := by simp
          have Hmod2 := hid hmod2
          have htb : takeB L.ds[i].d.s L.ds[i].d.f = true := by unfold takeB; simpa using hfs
          have htf : Wi.takeF L.ds[i].d.s L.ds[i].d.f = L.ds[i].d.f + 1 := by unfold Wi.takeF; rw [if_pos hfs]
          rw [htf] at hw3
          rw [htb]
          obtain ⟨hM4, hX4, s9, f9, s7⟩ := took_mg HM1.out i hil hfs hw3 ho3
          rw [hdv] at s7
          have HM4 := hid hM4
          have HX4 := hid hX4
          have hml3 : mb < w3.heap.size := by have := HM1.out.mblt; rw [ho3.size]; exact this
          clear htb htf hmod2 hM4 hX4 hw3 ho3 HT HW1
          go_upto_region 10 with fail
          rw [Hmod2.out]
          generalize (w3.setCell ⟨mb, 9, none⟩ (.int .i64 ((i + 1) % L.ds.length : Nat))) = w4 at HM4 HX4 ⊢
          clear s9 f9 s7 hml3 Hmod2 b1 b2 z0 z1 z2 t6 t7 t9 cdk
          have hnb : ¬ F wq.heap.size ∧ ¬ F (wq.heap.size + 1) := by
            have := (ha0.trans HXQ.out).size
            exact ⟨fun f => by have := hlt.out _ f; omega, fun f => by have := hlt.out _ f; omega⟩
          have HNI := hid (NextI.start (w := w) (w4 := w4) hlt.out HX1.out HB1.out hnb HM4.out HX4.out hil rfl rfl hsl)
          obtain ⟨gm, cm', e1, -, -, -, cmk, -⟩ := HM4.out.mail_at a hsl
          obtain ⟨-, -, -, -, -, -, t6, -, -, -, t10⟩ := HM4.out.tops
          have hm4l := HM4.out.mblt
          have hm4f := HM4.out.toCore.free 10
          change L.mv = _ at e1
          change w4.cell? _ = some L.mv at t6
          rw [hmv] at e1 t6
          injection e1 with e1 e2 e3
          subst e1
          clear e2 e3
          change w4.cell? _ = some (.pointer (some ⟨L.ms[a].b, 0, none⟩)) at cmk
          have hzm := HM4.out.mails _ (List.getElem_mem (show a < (tookL L i).ms.length from hsl))
          change MailAt w4 L.ms[a] at hzm
          obtain ⟨c0, -, c2, -, -⟩ := hzm.cells
          have hzbl := hzm.blt
          have hb4 : Boxes w4 wq.heap.size (wq.heap.size + 1) L.ds[i].b L.ds[i].d.name := by
            have := HNI.out.bx
            exact ⟨(Below.heap_alloc w4 _ _ (by have := HX4.out.size; have := heap_lt HB1.out.d; omega)).symm.trans this.d, (Below.heap_alloc w4 _ _ (by have := HX4.out.size; have := heap_lt HB1.out.t; omega)).symm.trans this.t, by
              obtain ⟨x, y, e⟩ := this.n
              exact ⟨x, y, (Below.heap_alloc w4 _ _ (by have := HX4.out.size; obtain ⟨_, _, e⟩ := HB1.out.n; have := heap_lt e; omega)).symm.trans e⟩⟩
          obtain ⟨b1, b2⟩ := hb4.cells
          obtain ⟨_, _, hbn⟩ := hb4.n
          have z0 : w4.cell? ⟨L.ds[i].b, 0, none⟩ = some (.string L.ds[i].d.name) := by simp [World.cell?, hbn]
          have hbl1 := heap_lt hb4.d
          have hbl2 := heap_lt hb4.t
          have hbl3 := heap_lt hbn
          obtain ⟨xr, cr, hzv, xr1, xr2⟩ := row_shape hzm.row
          rw [hzv] at c2
          have Hzv := hid hzv
          clear hzm hb4 hbn hzv
          go_upto_region 11 with fail
          go_wp2_with fail
          go_region
          have HN5 := hid (HNI.out.quiet (Ext.refl _ _).drew)
          generalize hw5 : (w4.alloc (.cells #[.string L.ms[a].m.id, .string L.ds[i].d.name, .slice none 0 0] 49)).drew = w5 at HN5 ⊢
          have hxw5 : Ext (fun _ => False) w4 w5 := by rw [← hw5]; exact ((Ext.refl _ _).alloc _).drew
          have c2' := (hxw5.cell hzbl (fun f => f) 2).trans c2
          clear hw5 hxw5 c0 c2 cmk t6 b1 b2 z0 hbl1 hbl2 hbl3 hzbl HNI HX4 HB1 HM1
          go_wp2_with fail
          go_loopg [88] L.ms[a].m.rs.length (fun gg ix wy => ∃ r vj, ix = .int .i64 (r : Nat) ∧ r + gg = L.ms[a].m.rs.length ∧ Hid (NextI w wy mb (tookL L i) F wq.heap.size (wq.heap.size + 1) L.ds[i].b w4.heap.size a L.ds[i].d.name L.ms[a] r r vj))
          case atStart => exact ⟨0, _, rfl, by omega, HN5⟩
          case round =>
            obtain ⟨r, vj, rfl, hr, HN⟩ := hrel
            have Hr := hid hr
            have hrn : r ≤ L.ms[a].m.rs.length := by omega
            clear hr HN5 c2'
            by_cases hrl : r < L.ms[a].m.rs.length
            · obtain ⟨g, cg, e1, hgo, -, -, hgl, d0, d1, dfz⟩ := (HN.out.mailz hsl rfl).rc r (by rw [midM_length _ _ _ (by omega)]; exact hrl)
              obtain ⟨-, -, d2, -, -⟩ := (HN.out.mailz hsl rfl).cells
              have hzbl := (HN.out.mailz hsl rfl).blt
              rw [midM_at _ _ _ hrl] at d0 d1
              dsimp only at e1 hgo d2 hzbl
              have hgo' := hid hgo
              rw [Hzv.out] at d2 e1
              injection e1 with e1 e2 e3
              subst e1
              clear e2 e3 hgo
              obtain ⟨b1, b2⟩ := HN.out.bx.cells
              have hbl2 := heap_lt HN.out.bx.t
              obtain ⟨-, -, j2, j2f⟩ := HN.out.jcells
              have hjl' := heap_lt HN.out.jc
              obtain ⟨xj, cj, hvj, j3, j4⟩ := row_shape HN.out.row
              rw [hvj] at j2
              have HG := (show Hid (∀ W, Ext (fun _ => False) wr W → Calls Try.prog 52 #[.agg #[.string L.ms[a].m.rs[r].dest, .int .i64 (L.ms[a].m.rs[r].st : Nat)], .pointer (some ⟨wq.heap.size, 0, none⟩)] W (QuietPost (.bool (goes L.ds[i].d.name L.ms[a].m.rs[r])) W)) from fun W hW => (HN.out.bx.quiet hW).goes _)
              have htk : takes L.ds[i].d.name L.ms[a].m r hrl = (goes L.ds[i].d.name L.ms[a].m.rs[r] && decide ((Qm.takeF L.ds[i].d.name (L.ms[a].m.rs.take r)).2.length < 50)) := rfl
              have Htk := hid htk
              have h50 := (takeF_length L.ds[i].d.name L.ms[a].m.rs r (by omega)).2
              clear htk
              generalize hjsl : (Qm.takeF L.ds[i].d.name (L.ms[a].m.rs.take r)).2.length = js at j2 Htk h50 j3 hvj
              have Hjs := hid hjsl
              have Hvj := hid hvj
              clear hjsl hvj
              cases hgs : goes L.ds[i].d.name L.ms[a].m.rs[r] with
              | false =>
                rw [hgs] at HG Htk
                have Hno := hid (HN.out.no hrl (by rw [Htk.out]; rfl))
                generalize L.ms[a].m.rs[r].dest = rd at d0 HG
                generalize L.ms[a].m.rs[r].st = rs at d1 HG
                clear hgs Htk
                go_wp2_with fail
                first
                  | (go_region_law (first | (go_simp; go_at_call 52; refine (HG.out _ (by exact (Ext.refl _ _).drew)).mono ?_; rintro e wz ⟨rfl, hxz⟩)))
                  | fail
                all_goals have HNz := hid (Hno.out.quiet ((Ext.refl _ _).drew.trans hxz))
                all_goals clear hxz HG
                all_goals go_wp2_with fail
                all_goals go_roundg (gk - 1)
                all_goals first
                  | (have := Hr.out; omega)
                  | exact ⟨r + 1, vj, by go_num, by have := Hr.out; omega, HNz.out⟩
              | true =>
                rw [hgs] at HG Htk
                by_cases hl5 : js < 50
                · have hd5 : decide ((js : Int) < 50) = true := by simp; omega
                  have Hyes := (show Hid (takes L.ds[i].d.name L.ms[a].m r hrl = true) from by show _ = _; rw [Htk.out]; simpa using hl5)
                  generalize L.ms[a].m.rs[r].dest = rd at d0 HG
                  generalize L.ms[a].m.rs[r].st = rs at d1 HG
                  clear hgs Htk
                  go_wp2_with fail
                  have hS0 : wr.drew.cell? ⟨wq.heap.size + 1, 0, none⟩ = some (.func (.func 52) #[] #[.pointer (some ⟨wq.heap.size, 0, none⟩)]) ∧ wr.drew.cell? ⟨L.ms[a].b, 2, none⟩ = some (.slice (some ⟨g, 0, none⟩) L.ms[a].m.rs.length cr) ∧ wr.drew.cell? ⟨g, r * 2, none⟩ = some (.string rd) ∧ wr.drew.cell? ⟨g, r * 2 + 1, none⟩ = some (.int .i64 (rs : Nat)) ∧ wr.drew.cell? ⟨w4.heap.size, 2, none⟩ = some (.slice xj js cj) ∧ Ext (fun _ => False) wr wr.drew := ⟨b2, d2, d0, d1, j2, (Ext.refl _ _).drew⟩
                  first
                    | (go_region_held3 (fun w' => w'.cell? ⟨wq.heap.size + 1, 0, none⟩ = some (.func (.func 52) #[] #[.pointer (some ⟨wq.heap.size, 0, none⟩)]) ∧ w'.cell? ⟨L.ms[a].b, 2, none⟩ = some (.slice (some ⟨g, 0, none⟩) L.ms[a].m.rs.length cr) ∧ w'.cell? ⟨g, r * 2, none⟩ = some (.string rd) ∧ w'.cell? ⟨g, r * 2 + 1, none⟩ = some (.int .i64 (rs : Nat)) ∧ w'.cell? ⟨w4.heap.size, 2, none⟩ = some (.slice xj js cj) ∧ Ext (fun _ => False) wr w') (assumption)
                        ((go_at_call 52; refine (HG.out _ ?_).mono ?_; (apply And.right; apply And.right; apply And.right; apply And.right; apply And.right; assumption); rintro e wz ⟨rfl, hxz⟩; have hs' := hold5 (by assumption) hbl2 hzbl hgl hjl' hxz)))
                    | fail
                  obtain ⟨-, k2, -, k4, -, kx⟩ := hs'
                  have kf : wz.frozen? ⟨g, r * 2 + 1, none⟩ = false := (kx.free hgl (fun f => f) _).trans (dfz _)
                  have HN2 := hid ((HN.out.quiet kx).fly hsl rfl hrl Hyes.out g hgo'.out)
                  clear hxz hS0 HG b1 b2 d0 d1 d2 j2 j2f
                  go_upto_region 17 with fail
                  generalize (wz.setCell ⟨g, r * 2 + 1, none⟩ (.int .i64 2)) = w6 at HN2 ⊢
                  obtain ⟨-, -, j6, j6f⟩ := HN2.out.jcells
                  have hj6l := heap_lt HN2.out.jc
                  have HO6 := (show Hid (w6.ownsRow w.heap.size 3 1 (.slice xj js cj) js (intsC (Qm.takeF L.ds[i].d.name (L.ms[a].m.rs.take r)).2)) from by rw [← Hvj.out, ← Hjs.out]; exact HN2.out.row)
                  have h6s := HN2.out.ext.size
                  rw [Hvj.out] at j6
                  obtain ⟨i3, i31, i32, i33, i34⟩ := info3
                  clear k2 k4 kf kx
                  go_wp2_with (first
                    | (at_builtin; refine wpList_append_own_at _ rfl (.tmp 114) (.tmp 116) 30 rfl w.heap.size 3 i3 (.int .i64 0) 1 8 Try.underlying30 i31 i32 i33 i34 rfl (by decide) (.slice xj js cj) js (intsC (Qm.takeF L.ds[i].d.name (L.ms[a].m.rs.take r)).2) rfl (HO6.out.alloc _) ⟨w6.heap.size, 0, none⟩ 1 1 [.int .i64 (r : Nat)] rfl rfl ?c1 ?c2 ?c3 ?c4 ?c5 ?_))
                  case c1 => exact new1 _ _ rfl
                  case c2 => intro u hu; simp at hu; subst hu; rfl
                  case c3 => unfold maxLen; omega
                  case c4 => omega
                  case c5 => simp; omega
                  intro v' wA hown hgr _ hbk
                  obtain ⟨hN3, k1, k2⟩ := HN2.out.put hrl Hyes.out (by rw [Hjs.out]; exact hown) (by rw [Hvj.out]; exact hgr) (by rw [Hvj.out]; simpa using hbk)
                  obtain ⟨x3, p3, rfl, y3, y4⟩ := row_shape hown
                  rw [Hvj.out] at k1
                  have HN3 := hid hN3
                  clear hN3 hown hgr hbk HO6 HN2
                  go_wp2_with fail
                  go_roundg (gk - 1)
                  case measure => have := Hr.out; omega
                  case rel => exact ⟨r + 1, _, by go_num, by have := Hr.out; omega, HN3.out⟩
                · have hd5 : decide ((js : Int) < 50) = false := by simp; omega
                  have Hno := (show Hid (NextI w wr mb (tookL L i) F wq.heap.size (wq.heap.size + 1) L.ds[i].b w4.heap.size a L.ds[i].d.name L.ms[a] (r + 1) (r + 1) vj) from HN.out.no hrl (by rw [Htk.out]; simpa using hl5))
                  generalize L.ms[a].m.rs[r].dest = rd at d0 HG
                  generalize L.ms[a].m.rs[r].st = rs at d1 HG
                  clear hgs Htk
                  go_wp2_with fail
                  have hS0 : wr.drew.cell? ⟨wq.heap.size + 1, 0, none⟩ = some (.func (.func 52) #[] #[.pointer (some ⟨wq.heap.size, 0, none⟩)]) ∧ wr.drew.cell? ⟨L.ms[a].b, 2, none⟩ = some (.slice (some ⟨g, 0, none⟩) L.ms[a].m.rs.length cr) ∧ wr.drew.cell? ⟨g, r * 2, none⟩ = some (.string rd) ∧ wr.drew.cell? ⟨g, r * 2 + 1, none⟩ = some (.int .i64 (rs : Nat)) ∧ wr.drew.cell? ⟨w4.heap.size, 2, none⟩ = some (.slice xj js cj) ∧ Ext (fun _ => False) wr wr.drew := ⟨b2, d2, d0, d1, j2, (Ext.refl _ _).drew⟩
                  first
                    | (go_region_held3 (fun w' => w'.cell? ⟨wq.heap.size + 1, 0, none⟩ = some (.func (.func 52) #[] #[.pointer (some ⟨wq.heap.size, 0, none⟩)]) ∧ w'.cell? ⟨L.ms[a].b, 2, none⟩ = some (.slice (some ⟨g, 0, none⟩) L.ms[a].m.rs.length cr) ∧ w'.cell? ⟨g, r * 2, none⟩ = some (.string rd) ∧ w'.cell? ⟨g, r * 2 + 1, none⟩ = some (.int .i64 (rs : Nat)) ∧ w'.cell? ⟨w4.heap.size, 2, none⟩ = some (.slice xj js cj) ∧ Ext (fun _ => False) wr w') (assumption)
                        ((go_at_call 52; refine (HG.out _ ?_).mono ?_; (apply And.right; apply And.right; apply And.right; apply And.right; apply And.right; assumption); rintro e wz ⟨rfl, hxz⟩; have hs' := hold5 (by assumption) hbl2 hzbl hgl hjl' hxz)))
                    | fail
                  have HNz := hid (Hno.out.quiet hs'.2.2.2.2.2)
                  clear hs' hxz HG hS0
                  go_wp2_with fail
                  go_roundg (gk - 1)
                  case measure => have := Hr.out; omega
                  case rel => exact ⟨r + 1, vj, by go_num, by have := Hr.out; omega, HNz.out⟩
            · obtain rfl : r = L.ms[a].m.rs.length := by omega
              obtain ⟨-, -, -, -, -, -, -, -, -, -, t10'⟩ := HN.out.mg.tops
              have hmbw := HN.out.mg.mblt
              change wr.cell? _ = some L.jv at t10'
              obtain ⟨j0, j1, j2, j2f⟩ := HN.out.jcells
              have hjl' := heap_lt HN.out.jc
              obtain ⟨xj, cj, hvj, j3, j4⟩ := row_shape HN.out.row
              have hrow := HN.out.row
              rw [List.take_length] at hvj j3 hrow
              have h50 := (takeF_length L.ds[i].d.name L.ms[a].m.rs _ (Nat.le_refl _)).2
              rw [List.take_length] at h50
              obtain ⟨xv, cv, hjv, jv1, jv2⟩ := row_shape HN.out.mg.jrow
              change L.jv = .slice xv L.jobs.length cv at hjv
              rw [hjv] at t10'
              have HC := (show Hid (∀ W, Ext (fun _ => False) wr W → Calls Try.prog 56 #[.slice xj (Qm.takeF L.ds[i].d.name L.ms[a].m.rs).2.length cj] W (RowPost 3 1 (Qm.takeF L.ds[i].d.name L.ms[a].m.rs).2.length (intsC (Qm.takeF L.ds[i].d.name L.ms[a].m.rs).2) W)) from fun W hW => by
                rw [← hvj]
                exact clone56_run vj _ _ w.heap.size W (row_keep hrow fun g hg => hW.block g (row_lt hrow g hg) fun f => f) (by intro u hu; obtain ⟨x, -, rfl⟩ := List.mem_map.1 hu; rfl) (by omega))
              have HJ := (show Hid (∀ w6 vc xa nv ca, vc = Value.slice xa nv ca → Ext (fun _ => False) wr w6 → w6.ownsRow wr.heap.size 3 1 vc (Qm.takeF L.ds[i].d.name L.ms[a].m.rs).2.length (intsC (Qm.takeF L.ds[i].d.name L.ms[a].m.rs).2) →
                  JobRuns w w6 mb F ⟨L.ms[a].m.id, L.ds[i].d.name, (Qm.takeF L.ds[i].d.name L.ms[a].m.rs).2⟩ { (turned (tookL L i) a { L.ms[a].m with rs := (Qm.takeF L.ds[i].d.name L.ms[a].m.rs).1 }).q with jobs := (tookL L i).q.jobs ++ [⟨L.ms[a].m.id, L.ds[i].d.name, (Qm.takeF L.ds[i].d.name L.ms[a].m.rs).2⟩] } vj vc (.slice xv L.jobs.length cv) L.jobs.length w4.heap.size) from fun w6 vc xa nv ca hv hx hc => by
                rw [← hjv]
                exact HN.out.jobruns hlt.out hx hc hjl hv)
              have HB := (show Hid (begin_ L.q i L.ds[i].d a L.ms[a].m = _) from begin_q L i a hil hsl)
              have HP : Hid (∀ W, JobStep mb F ⟨L.ms[a].m.id, L.ds[i].d.name, (Qm.takeF L.ds[i].d.name L.ms[a].m.rs).2⟩ { (turned (tookL L i) a { L.ms[a].m with rs := (Qm.takeF L.ds[i].d.name L.ms[a].m.rs).1 }).q with jobs := (tookL L i).q.jobs ++ [⟨L.ms[a].m.id, L.ds[i].d.name, (Qm.takeF L.ds[i].d.name L.ms[a].m.rs).2⟩] } vj w W →
                  NextPost mb F L.q w (.returned (.tuple #[.agg #[.string L.ms[a].m.id, .string L.ds[i].d.name, vj], .bool true])) W) := by
                show ∀ _, _
                intro W hW
                refine .inr ⟨_, _, vj, ?_, rfl, hW⟩
                have hkq : k < L.q.ds.length := by simpa [Lq.q] using hlk
                have hhk : hit L.q k = true := by rw [Hhit.out, Ha.out]; simp [hsl, hfs]
                have hdq : L.q.ds[spot L.q k]? = some L.ds[i].d := by
                  rw [hz.out]
                  show (L.ds.map (·.d))[i]? = _
                  rw [List.getElem?_map, List.getElem?_eq_getElem hil]; rfl
                have hmq : L.q.ms[sIdx L.q.ms L.ds[i].d.name]? = some L.ms[a].m := by
                  rw [Ha.out]
                  show (L.ms.map (·.m))[a]? = _
                  rw [List.getElem?_map, List.getElem?_eq_getElem hsl]; rfl
                rw [next_some hkq hhk hno.out hdq hmq, hz.out, Ha.out]
                exact congrArg some HB.out
              rw [hvj] at j2 HP HJ
              have Hvj := hid hvj
              have Hjv := hid hjv
              generalize (Qm.takeF L.ds[i].d.name L.ms[a].m.rs).2 = js at HC HJ HP h50 j3 j2
              clear hvj hjv hrow
              go_upto_region 19 with fail
              go_wp2_with fail
              have hS0 : wr.drew.cell? ⟨mb, 10, none⟩ = some (.slice xv L.jobs.length cv) ∧ wr.drew.cell? ⟨w4.heap.size, 0, none⟩ = some (.string L.ms[a].m.id) ∧ wr.drew.cell? ⟨w4.heap.size, 1, none⟩ = some (.string L.ds[i].d.name) ∧ wr.drew.cell? ⟨w4.heap.size, 2, none⟩ = some (.slice xj js.length cj) := ⟨t10', j0, j1, j2⟩
              refine Till.region 17 (fun u => u.cell? ⟨mb, 10, none⟩ = some (.slice xv L.jobs.length cv) ∧ u.cell? ⟨w4.heap.size, 0, none⟩ = some (.string L.ms[a].m.id) ∧ u.cell? ⟨w4.heap.size, 1, none⟩ = some (.string L.ds[i].d.name) ∧ u.cell? ⟨w4.heap.size, 2, none⟩ = some (.slice xj js.length cj)) (by kernel_rfl) ?_
              refine Till.take 0 (.pointer (some ⟨mb, 0, none⟩)) rfl (by kernel_rfl) (by kernel_rfl) (by kernel_rfl) (by kernel_rfl) (fun _ _ _ h => h) (by rfl) (by intro u hu; obtain ⟨k1, k2, k3, k4⟩ := hu; go_simp) hS0 ?_
              try simp only [Act.put, List.setIfInBounds_toArray, List.set_cons_zero, List.set_cons_succ]
              refine Till.take 1 (.pointer (some ⟨mb, 0, none⟩)) rfl (by kernel_rfl) (by kernel_rfl) (by kernel_rfl) (by kernel_rfl) (fun _ _ _ h => h) (by rfl) (by intro u hu; obtain ⟨k1, k2, k3, k4⟩ := hu; go_simp) hS0 ?_
              try simp only [Act.put, List.setIfInBounds_toArray, List.set_cons_zero, List.set_cons_succ]
              refine Till.take 2 (.pointer (some ⟨mb, 0, none⟩)) rfl (by kernel_rfl) (by kernel_rfl) (by kernel_rfl) (by kernel_rfl) (fun _ _ _ h => h) (by rfl) (by intro u hu; obtain ⟨k1, k2, k3, k4⟩ := hu; go_simp) hS0 ?_
              try simp only [Act.put, List.setIfInBounds_toArray, List.set_cons_zero, List.set_cons_succ]
              refine Till.take 3 (.pointer (some ⟨mb, 10, none⟩)) rfl (by kernel_rfl) (by kernel_rfl) (by kernel_rfl) (by kernel_rfl) (fun _ _ _ h => h) (by rfl) (by intro u hu; obtain ⟨k1, k2, k3, k4⟩ := hu; go_simp) hS0 ?_
              try simp only [Act.put, List.setIfInBounds_toArray, List.set_cons_zero, List.set_cons_succ]
              refine Till.take 4 (.slice xv L.jobs.length cv) rfl (by kernel_rfl) (by kernel_rfl) (by kernel_rfl) (by kernel_rfl) (fun _ _ _ h => h) (by rfl) (by intro u hu; obtain ⟨k1, k2, k3, k4⟩ := hu; go_simp) hS0 ?_
              try simp only [Act.put, List.setIfInBounds_toArray, List.set_cons_zero, List.set_cons_succ]
              refine Till.take 5 (.pointer (some ⟨w4.heap.size, 0, none⟩)) rfl (by kernel_rfl) (by kernel_rfl) (by kernel_rfl) (by kernel_rfl) (fun _ _ _ h => h) (by rfl) (by intro u hu; obtain ⟨k1, k2, k3, k4⟩ := hu; go_simp) hS0 ?_
              try simp only [Act.put, List.setIfInBounds_toArray, List.set_cons_zero, List.set_cons_succ]
              refine Till.take 6 (.string L.ms[a].m.id) rfl (by kernel_rfl) (by kernel_rfl) (by kernel_rfl) (by kernel_rfl) (fun _ _ _ h => h) (by rfl) (by intro u hu; obtain ⟨k1, k2, k3, k4⟩ := hu; go_simp) hS0 ?_
              try simp only [Act.put, List.setIfInBounds_toArray, List.set_cons_zero, List.set_cons_succ]
              refine Till.take 7 (.pointer (some ⟨w4.heap.size, 1, none⟩)) rfl (by kernel_rfl) (by kernel_rfl) (by kernel_rfl) (by kernel_rfl) (fun _ _ _ h => h) (by rfl) (by intro u hu; obtain ⟨k1, k2, k3, k4⟩ := hu; go_simp) hS0 ?_
              try simp only [Act.put, List.setIfInBounds_toArray, List.set_cons_zero, List.set_cons_succ]
              refine Till.take 8 (.string L.ds[i].d.name) rfl (by kernel_rfl) (by kernel_rfl) (by kernel_rfl) (by kernel_rfl) (fun _ _ _ h => h) (by rfl) (by intro u hu; obtain ⟨k1, k2, k3, k4⟩ := hu; go_simp) hS0 ?_
              try simp only [Act.put, List.setIfInBounds_toArray, List.set_cons_zero, List.set_cons_succ]
              refine Till.take 9 (.pointer (some ⟨w4.heap.size, 2, none⟩)) rfl (by kernel_rfl) (by kernel_rfl) (by kernel_rfl) (by kernel_rfl) (fun _ _ _ h => h) (by rfl) (by intro u hu; obtain ⟨k1, k2, k3, k4⟩ := hu; go_simp) hS0 ?_
              try simp only [Act.put, List.setIfInBounds_toArray, List.set_cons_zero, List.set_cons_succ]
              refine Till.take 10 (.slice xj js.length cj) rfl (by kernel_rfl) (by kernel_rfl) (by kernel_rfl) (by kernel_rfl) (fun _ _ _ h => h) (by rfl) (by intro u hu; obtain ⟨k1, k2, k3, k4⟩ := hu; go_simp) hS0 ?_
              try simp only [Act.put, List.setIfInBounds_toArray, List.set_cons_zero, List.set_cons_succ]
              refine Till.step 11 rfl (by kernel_rfl) ?_
              intro K HK
              go_simp
              go_at_call 56
              refine (HC.out _ (Ext.refl _ _).drew).mono ?_
              rintro e w6 ⟨vc, rfl, hrc, hx6⟩
              obtain ⟨xa, ca, hvc, va1, va2⟩ := row_shape hrc
              obtain ⟨x2, c2, wA, hrun, y1, y2, hstep, g1, g2, ⟨g3, g4, g5⟩, ⟨g6, g7, g8, g9⟩, n1, n2, n3, n4⟩ := HJ.out w6 vc xa _ ca hvc ((Ext.refl _ _).drew.trans hx6) hrc
              obtain ⟨m1, m2, m3, m4⟩ := job_cells hx6 hmbw hjl' t10' j0 j1 j2
              have HP2 := hid (HP.out _ hstep)
              subst hvc
              clear hrc hx6 hstep HJ HC HP HN
              refine HK.out _ _ (fun _ => ⟨m1, m2, m3, m4⟩) ?_
              try simp only [Act.put, List.setIfInBounds_toArray, List.set_cons_zero, List.set_cons_succ]
              refine Till.step 12 rfl (by kernel_rfl) ?_
              intro K HK
              go_simp
              refine HK.out _ _ (fun _ => ⟨m1, m2, m3, m4⟩) ?_
              try simp only [Act.put, List.setIfInBounds_toArray, List.set_cons_zero, List.set_cons_succ]
              refine Till.step 13 rfl (by kernel_rfl) ?_
              intro K HK
              go_simp
              refine HK.out _ _ (fun _ => ⟨Go.Lib.cell?_alloc_some _ m1, Go.Lib.cell?_alloc_some _ m2, Go.Lib.cell?_alloc_some _ m3, Go.Lib.cell?_alloc_some _ m4⟩) ?_
              try simp only [Act.put, List.setIfInBounds_toArray, List.set_cons_zero, List.set_cons_succ]
              refine Till.step 14 rfl (by kernel_rfl) ?_
              intro K HK
              refine step_append_run rfl (.tmp 124) (.tmp 133) #[60, 60] rfl _ _ _ _ rfl rfl hrun ?_
              refine HK.out _ _ (fun _ => ⟨g1, g3, g4, g5⟩) ?_
              try simp only [Act.put, List.setIfInBounds_toArray, List.set_cons_zero, List.set_cons_succ]
              refine Till.step 15 rfl (by kernel_rfl) ?_
              intro K HK
              go_simp
              refine HK.out _ _ (fun _ => ⟨g1, g3, g4, g5⟩) ?_
              try simp only [Act.put, List.setIfInBounds_toArray, List.set_cons_zero, List.set_cons_succ]
              refine Till.step 16 rfl (by kernel_rfl) ?_
              intro K HK
              go_simp
              refine HK.out _ _ (fun _ => ⟨g1, g3, g4, g5⟩) ?_
              try simp only [Act.put, List.setIfInBounds_toArray, List.set_cons_zero, List.set_cons_succ]
              refine Till.step 17 rfl (by kernel_rfl) ?_
              intro K HK
              go_simp
              refine HK.out _ _ (fun h => absurd rfl h) ?_
              try simp only [Act.put, List.setIfInBounds_toArray, List.set_cons_zero, List.set_cons_succ]
              refine Till.done (by kernel_rfl) ?_
              clear HK m1 m2 m3 m4 hrun hS0
              go_wp2_with fail
              refine bodyPost_ret (v := .tuple #[.agg #[.string L.ms[a].m.id, .string L.ds[i].d.name, .slice xj js.length cj], .bool true]) (by simp [results, Try.results29, go_sem, g6, g7, g8]) rfl ?_
              exact HP2.out
        · have htb : takeB L.ds[i].d.s L.ds[i].d.f = false := by unfold takeB; simpa using hfs
          have htf : Wi.takeF L.ds[i].d.s L.ds[i].d.f = L.ds[i].d.f := by unfold Wi.takeF; rw [if_neg hfs]
          rw [htf] at hw3
          rw [htb]
          have HX3 := hid (HX1.out.trans (took_no HW1.out hw3 ho3))
          have Hh : Hid (hit L.q k = false) := by show _ = _; rw [Hhit.out, decide_eq_false hfs]; simp
          clear Hhit hsl hw3 ho3 htb htf HT HW1 HM1 HB1
          go_wp2_with fail
          go_roundg (gk - 1)
          case measure => have := Hk.out; omega
          case rel => exact ⟨k + 1, by go_num, by have := Hk.out; omega, fun j hj => by
                        by_cases f : j = k
                        · subst f; exact Hh.out
                        · exact hno.out j (by omega), HX3.out⟩
      · have Hh : Hid (hit L.q k = false) := by show _ = _; rw [Hhit.out, decide_eq_false hsl]; rfl
        clear Hhit HV hsl hx1
        go_wp2_with fail
        go_roundg (gk - 1)
        case measure => have := Hk.out; omega
        case rel => exact ⟨k + 1, by go_num, by have := Hk.out; omega, fun j hj => by
                      by_cases f : j = k
                      · subst f; exact Hh.out
                      · exact hno.out j (by omega), HX1.out⟩
    · obtain rfl : k = L.ds.length := by omega
      have hr0 : wr.heap[w.heap.size]? = some resO := (hxr.out.block _ (by simp) fun f => f).trans (MapKept.heap_alloc w resO).1
      have r0 : wr.cell? ⟨w.heap.size, 0, none⟩ = some (.string ByteArray.empty) := by unfold World.cell?; rw [hr0]; rfl
      have r1 : wr.cell? ⟨w.heap.size, 1, none⟩ = some (.string ByteArray.empty) := by unfold World.cell?; rw [hr0]; rfl
      have r2 : wr.cell? ⟨w.heap.size, 2, none⟩ = some (.slice none 0 0) := by unfold World.cell?; rw [hr0]; rfl
      have rf : ∀ o, wr.frozen? ⟨w.heap.size, o, none⟩ = false := fun o => by unfold World.frozen?; rw [hr0]; rfl
      have HS : Hid (∀ w', w' = (((wr.setCell ⟨w.heap.size, 0, none⟩ (.string ByteArray.empty)).setCell ⟨w.heap.size, 1, none⟩ (.string ByteArray.empty)).setCell ⟨w.heap.size, 2, none⟩ (.slice none 0 0)) → NextPost mb F L.q w (.returned (.tuple #[.agg #[.string ByteArray.empty, .string ByteArray.empty, .slice none 0 0], .bool false])) w') := by
        show ∀ _, _
        rintro w' rfl
        refine .inl ⟨next_none fun j hj => hno.out j (by simpa [Lq.q] using hj), rfl, ?_⟩
        have hmg := HM.out _ (Ext.refl _ w)
        have hx := (((ha0.trans hxr.out).setCell_new w.heap.size 0 (.string ByteArray.empty) (Nat.le_refl _)).setCell_new w.heap.size 1 (.string ByteArray.empty) (Nat.le_refl _)).setCell_new w.heap.size 2 (.slice none 0 0) (Nat.le_refl _)
        exact StepPost.quiet hmg hx
      clear hr0 hxr hno HM
      go_wp2_with fail
      refine bodyPost_ret (v := .tuple #[.agg #[.string ByteArray.empty, .string ByteArray.empty, .slice none 0 0], .bool false]) (by simp [results, Try.results29, go_sem, r0, r1, r2]; rfl) rfl ?_
      exact HS.out _ rfl
end Go.Proofs.Ytnakafmlenngnaa.Qm
