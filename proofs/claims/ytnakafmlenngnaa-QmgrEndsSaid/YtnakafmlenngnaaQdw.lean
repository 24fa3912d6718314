/- Done, where there is such a job. -/
import Derived.Test.YtnakafmlenngnaaQds
namespace Go.Proofs.Ytnakafmlenngnaa.Qm
open Go.RowKit Go.Proofs.Ytnakafmlenngnaa.Wi

theorem erase_map {α β : Type} (f : α → β) (l : List α) (b : Nat) : (l.eraseIdx b).map f = (l.map f).eraseIdx b := by
  simp [List.eraseIdx_eq_take_drop_succ, List.map_take, List.map_drop]

theorem turned_q (L : Lq) (a : Nat) (M : Ml) (ha : a < L.ms.length) : (turned L a M).q = { L.q with ms := L.q.ms.set a M } := by
  rw [turned_set L a ha]
  simp [Lq.q, List.map_set]
theorem off_q (L : Lq) (n : ByteArray) : ({ L with ms := L.ms.map (offL n) } : Lq).q = { L.q with ms := L.q.ms.map (offM n) } := by
  simp [Lq.q, offL, Function.comp_def]
theorem setD_q (L : Lq) (i : Nat) (hi : i < L.ds.length) (d : Ds) : ({ L with ds := L.ds.set i { L.ds[i] with d := d } } : Lq).q = { L.q with ds := L.q.ds.set i d } := by
  simp [Lq.q, List.map_set]

/-- Behind a destination that lives. -/
theorem done_q_live {L L7 L8 : Lq} {a b i : Nat} {g : Bool} {now : Int} {j : Jb} {res : List Int} {m : Ml} {v : Value} (h7 : L7.q = { L.q with ds := mkD L.lm L.q.ds j.dest, jobs := L.q.jobs.eraseIdx b }) (hi : i < L7.ds.length) (hdi : dIdx L.q.ds j.dest = i)
    (h8 : ({ L7 with ds := L7.ds.set i { L7.ds[i] with d := doneD L7.lm g L7.ds[i].d } } : Lq) = L8) (ha : a < L8.ms.length) (hl : res.length = j.rs.length) (hs : (doneD L7.lm g L7.ds[i].d).s ≠ 0) :
    (endedL (turned L8 a (setK j res m j.rs.length)) now v).q = doneAt L.q a b m j res g now L7.ds[i].d := by
  have hlm : L7.lm = L.lm := congrArg Qs.lm h7
  have hlm8 : L8.lm = L.lm := by rw [← h8]; exact hlm
  rw [endedL_q, turned_q L8 a _ ha, setK_all _ _ _ hl]
  have e8 : L8.q = { L7.q with ds := L7.q.ds.set i (doneD L7.lm g L7.ds[i].d) } := by rw [← h8]; exact setD_q L7 i hi _
  rw [e8, h7]
  unfold doneAt
  rw [if_neg (by rw [show L.q.lm = L.lm from rfl, ← hlm]; exact hs), hdi]
  rw [show (turned L8 a { m with rs := (j.rs.zip res).foldl settle m.rs }).lm = L.lm from hlm8, hlm]
  rfl

/-- .. that is dead. -/
theorem done_q_dead {L L7 L8 : Lq} {a b i : Nat} {g : Bool} {now : Int} {j : Jb} {res : List Int} {m : Ml} {v : Value} (h7 : L7.q = { L.q with ds := mkD L.lm L.q.ds j.dest, jobs := L.q.jobs.eraseIdx b }) (hi : i < L7.ds.length) (hdi : dIdx L.q.ds j.dest = i)
    (h8 : ({ L7 with ds := L7.ds.set i { L7.ds[i] with d := doneD L7.lm g L7.ds[i].d } } : Lq) = L8) (ha : a < L8.ms.length) (hl : res.length = j.rs.length) (hs : (doneD L7.lm g L7.ds[i].d).s = 0) (hi8 : i < L8.ds.length) (L9 : Lq)
    (h9 : L9 = { turned L8 a (setK j res m j.rs.length) with ds := L8.ds.set i { L8.ds[i] with d := { L8.ds[i].d with rev := now + L8.lm.minb } } }) :
    (endedL { L9 with ms := L9.ms.map (offL (doneD L7.lm g L7.ds[i].d).name) } now v).q = doneAt L.q a b m j res g now L7.ds[i].d := by
  have hlm : L7.lm = L.lm := congrArg Qs.lm h7
  have hlm8 : L8.lm = L.lm := by rw [← h8]; exact hlm
  have hlm9 : L9.lm = L.lm := by rw [h9]; exact hlm8
  have hd8 : L8.ds[i].d = doneD L7.lm g L7.ds[i].d := by subst h8; simp
  have e9 : L9.q = { (turned L8 a (setK j res m j.rs.length)).q with ds := L8.q.ds.set i { doneD L7.lm g L7.ds[i].d with rev := now + L8.lm.minb } } := by
    rw [h9, ← hd8]
    simp [Lq.q, List.map_set, turned]
  have e8 : L8.q = { L7.q with ds := L7.q.ds.set i (doneD L7.lm g L7.ds[i].d) } := by rw [← h8]; exact setD_q L7 i hi _
  rw [endedL_q, off_q, e9, turned_q L8 a _ ha, setK_all _ _ _ hl, e8, h7]
  unfold doneAt
  rw [if_pos (by rw [show L.q.lm = L.lm from rfl, ← hlm]; exact hs), hdi]
  rw [show ({ L9 with ms := L9.ms.map (offL (doneD L7.lm g L7.ds[i].d).name) } : Lq).lm = L.lm from hlm9, hlm, hlm8]
  simp only [List.set_set]
  rfl

theorem JBox.ext {w W W' : World} {j : Jb} {v : Value} {F : Nat → Prop} (h : W.heap[w.heap.size]? = some (.cells #[.string j.id, .string j.dest, v] 49 (0, 0))) (hx : Ext F W W') (hF : ¬ F w.heap.size) : W'.heap[w.heap.size]? = some (.cells #[.string j.id, .string j.dest, v] 49 (0, 0)) :=
  (hx.block _ (heap_lt h) hF).trans h

set_option maxHeartbeats 8000000 in
set_option maxRecDepth 100000 in
theorem done_ok_run (mb : Nat) (L : Lq) (F : Nat → Prop) (j : Jb) (y : Option Addr) (c : Nat) (rx : Option Addr) (rc : Nat) (res : List Int) (g : Bool) (now : Int) (w : World) (hM : Mg w mb L F) (hml : L.ms.length ≤ 50000) (hdl : L.ds.length ≤ 50000) (hy : IntsL w y j.rs) (hyF : ∀ b o, y = some ⟨b, o, none⟩ → ¬ F b) (hr : ResL w rx res) (hrF : ∀ b o, rx = some ⟨b, o, none⟩ → ¬ F b) (hb : doneOk j res now = true)
    (a : Nat) (hai : mIdx L.q.ms j.id = a) (ha : a < L.ms.length) (b : Nat) (hbi : jIdx L.q.jobs j = b) (hbj : b < L.jobs.length) (hgood : ∀ r ∈ j.rs, r < L.ms[a].m.rs.length) :
    Calls Try.prog 30 #[.pointer (some ⟨mb, 0, none⟩), .agg #[.string j.id, .string j.dest, .slice y j.rs.length c], .slice rx res.length rc, .bool g, .int .i64 now] w fun e w' => e = .returned (.int .i64 0) ∧ ∃ d, (mkD L.lm L.q.ds j.dest)[dIdx L.q.ds j.dest]? = some d ∧ StepPost mb F (doneAt L.q a b L.ms[a].m j res g now d) w w' := by
  obtain ⟨ht, ho, hl⟩ := done_pre rc hr hb
  have hxa : Ext (fun _ => False) w ((w.alloc (.cells #[.string j.id, .string j.dest, .slice y j.rs.length c] 49)).alloc (.cells #[.int .i64 now] 3)) := ((Ext.refl _ _).alloc _).alloc _
  have HT := hid ht
  have HO := hid (ho _ hxa)
  rw [hl] at HO ⊢
  have HF := (show Hid (∀ W, Ext (fun _ => False) w W → Calls Try.prog 48 #[.pointer (some ⟨mb, 0, none⟩), .string j.id] W (QuietPost (foundV L (mIdx L.q.ms j.id)) W)) from fun W hW => find_run mb L F j.id W (hM.quiet hW))
  have HA := (show Hid (∀ W, Ext (fun _ => False) w W → Calls Try.prog 59 #[.pointer (some ⟨mb, 0, none⟩), .agg #[.string j.id, .string j.dest, .slice y j.rs.length c]] W (QuietPost (.int .i64 (airV L j)) W)) from fun W hW => airV_run mb L F j y c W (hM.quiet hW) (hy.quiet hW))
  have e1 : foundV L a = .pointer (some ⟨L.ms[a].b, 0, none⟩) := by unfold foundV; rw [List.getElem?_eq_getElem ha]; rfl
  have e2 : airV L j = (b : Nat) := by unfold airV; rw [hbi, if_pos hbj]
  rw [hai, e1] at HF
  rw [e2] at HA
  have HM := hid hM
  have HY := hid hy
  have HR := hid hr
  have hnow : 0 ≤ now ∧ now ≤ 1000000000 := by
    rw [doneOk_eq] at hb
    simp only [Bool.and_eq_true] at hb
    exact isT_iff hb.1.1
  have Hl := hid hl
  clear hM hy hr hb ht ho hl e1 e2
  go_enter Try.func30, Try.ntmps30
  go_upto_region 4 with (first | (go_at_call 44; refine (HT.out _ _ ?_).mono ?_; (go_simp); rintro e w1 ⟨rfl, rfl⟩) | (go_at_call 58; refine HO.out.mono ?_; rintro e w1 ⟨rfl, rfl⟩))
  have hB := JBox.start w j (.slice y j.rs.length c) (.int .i64 now) 3
  generalize ((w.alloc (.cells #[.string j.id, .string j.dest, .slice y j.rs.length c] 49)).alloc (.cells #[.int .i64 now] 3)) = w1 at hB ⊢
  have hS0 : w1.drew.cell? ⟨w.heap.size, 0, none⟩ = some (.string j.id) ∧ w1.drew.cell? ⟨w.heap.size, 1, none⟩ = some (.string j.dest) ∧ w1.drew.cell? ⟨w.heap.size, 2, none⟩ = some (.slice y j.rs.length c) ∧ JBox w w1.drew j (.slice y j.rs.length c) := by
    have := hB.quiet (Ext.refl _ _).drew
    obtain ⟨a, b, c⟩ := this.cells
    exact ⟨a, b, c, this⟩
  clear hxa HT HO hB
  go_cut [12, 13] (fun u v wx => u = .pointer (some ⟨L.ms[a].b, 0, none⟩) ∧ v = .int .i64 (b : Nat) ∧ Hid (JBox w wx j (.slice y j.rs.length c)))
  case first =>
    go_wp2_with fail
    go_region_held3 (fun w' => w'.cell? ⟨w.heap.size, 0, none⟩ = some (.string j.id) ∧ w'.cell? ⟨w.heap.size, 1, none⟩ = some (.string j.dest) ∧ w'.cell? ⟨w.heap.size, 2, none⟩ = some (.slice y j.rs.length c) ∧ JBox w w' j (.slice y j.rs.length c)) (assumption)
      (first
        | (go_at_call 48; refine (HF.out _ ?_).mono ?_; (refine JBox.here (j := j) (v := .slice y j.rs.length c) ?_; apply And.right; apply And.right; apply And.right; assumption); rintro e wz ⟨rfl, hxz⟩; have hs' := holdJ (by assumption) hxz)
        | (go_at_call 59; refine (HA.out _ ?_).mono ?_; (refine JBox.here (j := j) (v := .slice y j.rs.length c) ?_; apply And.right; apply And.right; apply And.right; assumption); rintro e wz ⟨rfl, hxz⟩; have hs' := holdJ (by assumption) hxz))
    all_goals go_wp2_with fail
    all_goals go_meet
    all_goals exact ⟨rfl, rfl, by apply And.right; apply And.right; apply And.right; assumption⟩
  case rest =>
    obtain ⟨rfl, rfl, HJ⟩ := hcut
    clear HF HA hS0
    have hMx := HM.out.quiet HJ.out.2
    obtain ⟨-, -, -, -, -, -, -, -, -, -, t10⟩ := hMx.tops
    have hmbl := hMx.mblt
    obtain ⟨xv, cv, hjv, jv1, jv2⟩ := row_shape hMx.jrow
    rw [hjv] at t10
    have HD := (show Hid (Calls Try.prog 60 #[.slice xv L.jobs.length cv, .int .i64 (b : Nat), .int .i64 ((b : Int) + 1)] wc (DelPost L.jv L.jobs b wc)) from by
      rw [← hjv]
      exact del60_run L.jv L.jobs _ b wc hMx.jrow rfl hbj fun z hz => by
        obtain ⟨x, cp, e, -⟩ := row_shape (hMx.jobs z hz)
        rw [e]; rfl)
    have HMx := hid hMx
    have hb0 : ((b : Int) < 0) = False := by simp
    clear hMx hjv
    go_wp2_with fail
    refine HD.out.mono ?_
    rintro e w5 ⟨v5, rfl, hrow5, hv5, hx5⟩
    obtain ⟨hM6, hX6, s10, f10⟩ := HMx.out.setJobs (L.jobs.eraseIdx b) v5 (List.eraseIdx_sublist _ _) hx5 (by rw [List.length_eraseIdx, if_pos hbj]; exact hrow5) hv5
    obtain ⟨x5, c5, rfl, y1, y2⟩ := row_shape hrow5
    have hml5 : mb < w5.heap.size := Nat.lt_of_lt_of_le hmbl hx5.size
    have hwF : ¬ F w.heap.size := fun f => by have := HM.out.lt _ f; omega
    have hX6' := (HJ.out.2.mono (G := F) fun _ f => f.elim).trans hX6
    have hB6 := JBox.ext HJ.out.1 hX6 hwF
    have HM6 := hid hM6
    have HX6 := hid hX6'
    have HB6 := hid hB6
    clear hrow5 hv5 hx5 hM6 hX6 hX6' hB6 HD t10 HMx HJ
    go_upto_region 8 with fail
    generalize (w5.setCell ⟨mb, 10, none⟩ (.slice x5 (L.jobs.length - 1) c5)) = w6 at HM6 HX6 HB6 ⊢
    clear s10 f10 hml5
    have b1 : w6.cell? ⟨w.heap.size, 1, none⟩ = some (.string j.dest) := by unfold World.cell?; rw [HB6.out]; rfl
    have HDe := hid (dest_run mb _ F j.dest w6 HM6.out (by show L.ds.length ≤ _; omega))
    go_wp2_with fail
    refine HDe.out.mono ?_
    rintro e w7 ⟨L7, F7, z, hz, rfl, hM7, hG7, hX7, hS7, hq7, hms7⟩
    change L7.ds[dIdx L.q.ds j.dest]? = some z at hz
    have hq7' : L7.q = { L.q with ds := mkD L.lm L.q.ds j.dest, jobs := L.q.jobs.eraseIdx b } := by
      rw [hq7]
      simp [Lq.q, erase_map]
    generalize hdi : dIdx L.q.ds j.dest = i at hz
    obtain ⟨hi7, rfl⟩ := List.getElem?_eq_some_iff.1 hz
    have hzm := hM7.dests _ (List.getElem_mem hi7)
    obtain ⟨-, c1, -⟩ := hzm.cells
    have HDn := hid (done_any L7.ds[i].wb L7.lm.ini L7.lm.lim L7.ds[i].d.s L7.ds[i].d.c L7.ds[i].d.f g w7 hzm.st hzm.win)
    have hB7 := JBox.ext HB6.out hX7 hwF
    have hwF7 : ¬ F7 w.heap.size := fun f => by
      rcases hG7 _ f with q | q
      · exact hwF q
      · have := heap_lt HB6.out; omega
    have HZ := hid (And.intro hM7 (And.intro hG7 (And.intro hX7 (And.intro hq7' hms7))))
    have HB7 := hid hB7
    have Hdi := hid hdi
    clear hz hM7 hG7 hX7 hS7 hq7 hq7' hms7 hzm hB7 HDe b1 HM6 hdi
    unfold dPtr
    go_wp2_with fail
    refine HDn.out.mono ?_
    rintro e w8 ⟨rfl, hw8, ho8⟩
    obtain ⟨hM7, hG7, hX7, hq7, hms7⟩ := HZ.out
    change L7.ms = L.ms at hms7
    obtain ⟨hM8, hX8⟩ := hM7.doneW i hi7 g hw8 ho8
    have hB8 := JBox.ext HB7.out hX8 hwF7
    -- everything so far
    have hXF : Ext F w w8 := (HX6.out.trans hX7).grow (F' := F7) (fun k hk => by
      rcases hG7 k hk with q | q
      · exact .inl q
      · exact .inr ⟨Nat.le_trans HX6.out.size q.1, Nat.lt_of_lt_of_le q.2 (Nat.le_refl _)⟩) hX8
    have hGF : Grow F w w8 F7 := fun k hk => by
      rcases hG7 k hk with q | q
      · exact .inl q
      · exact .inr ⟨Nat.le_trans HX6.out.size q.1, Nat.lt_of_lt_of_le q.2 hX8.size⟩
    generalize hL8 : ({ L7 with ds := L7.ds.set i { L7.ds[i] with d := doneD L7.lm g L7.ds[i].d } } : Lq) = L8 at hM8
    have hms8 : L8.ms = L.ms := by rw [← hL8]; exact hms7
    have ha8 : a < L8.ms.length := by rw [hms8]; exact ha
    have hza : L8.ms[a] = L.ms[a] := by simp only [hms8]
    have J0 : Hid (Mg w8 mb (turned L8 a (setK j res L.ms[a].m 0)) F7 ∧ Ext F7 w8 w8) := by
      refine ⟨?_, Ext.refl _ _⟩
      rw [setK_zero, ← hza, turned_self L8 a ha8]
      exact hM8
    have hb2 : w8.cell? ⟨w.heap.size, 2, none⟩ = some (.slice y j.rs.length c) := by unfold World.cell?; rw [hB8]; rfl
    have HXF := hid hXF
    have HGF := hid hGF
    have HL8 := hid hL8
    have Hms8 := hid hms8
    have Hza := hid hza
    have hB8' := hid hB8
    clear hM8 hX8 hw8 ho8 hB8 hXF hGF hL8 hms8 hza hM7 hG7 hX7 hq7 hms7 c1 HDn HB7 HB6 HX6
    go_wp2_with fail
    go_loopg [71] j.rs.length (fun gg ix wr => ∃ k, ix = .int .i64 (k : Nat) ∧ k + gg = j.rs.length ∧ Hid (Mg wr mb (turned L8 a (setK j res L.ms[a].m k)) F7 ∧ Ext F7 w8 wr))
    case atStart => exact ⟨0, rfl, by omega, J0⟩
    case round =>
      obtain ⟨k, rfl, hk, HI⟩ := hrel
      have Hk := hid hk
      have hkn : k ≤ j.rs.length := by omega
      clear hk J0 hb2
      by_cases hlt : k < j.rs.length
      · have hXr := HXF.out.grow HGF.out HI.out.2
        have hk2 : k < res.length := by rw [Hl.out]; exact hlt
        have hjl : j.rs.length ≤ 9223372036854775807 := HY.out.1
        obtain ⟨yb, yo, rfl, hyb, hyc⟩ := HY.out.2 k hlt
        have c0 := (hXr.cell hyb (hyF yb yo rfl) _).trans hyc
        obtain ⟨rb, ro, rfl, hrb, hrc⟩ := HR.out.2 k hk2
        have c1 := (hXr.cell hrb (hrF rb ro rfl) _).trans hrc
        dsimp only at c0 c1
        have er : j.rs.getD k 0 = j.rs[k] := by simp [List.getD_eq_getElem?_getD, hlt]
        have es : res.getD k 0 = res[k] := by simp [List.getD_eq_getElem?_getD, hk2]
        rw [er] at c0
        rw [es] at c1
        have hrg := hgood j.rs[k] (List.getElem_mem hlt)
        have hnx := setK_next j res L.ms[a].m k hlt hk2
        have Hnx := hid hnx
        clear er es hnx hyc hrc hXr
        generalize j.rs[k] = r at c0 hrg Hnx
        generalize res[k] = rv at c1 Hnx
        have hrM : r < (setK j res L.ms[a].m k).rs.length := by rw [setK_length]; exact hrg
        have hmz := turned_mail HI.out.1 ha8
        obtain ⟨gr, cg, e1, hgo, -, -, hgl, -, d1, dfz⟩ := hmz.rc r hrM
        obtain ⟨-, -, d2, -, -⟩ := hmz.cells
        dsimp only at e1 hgo d1 d2
        rw [setK_length] at e1
        rw [Hza.out] at d2 e1
        have hgo' := hgo
        rw [e1] at d2
        have hlen8 : k < j.rs.length := hlt
        have df := dfz (r * 2 + 1)
        have hne1 : ¬ gr = rb := fun e => by
          have hFg : F7 gr := by
            have := (HI.out.1.fm _ (List.getElem_mem (show a < (turned L8 a (setK j res L.ms[a].m k)).ms.length by rw [turned_length]; exact ha8))).2 gr
            rw [turned_at ha8 (by rw [turned_length]; exact ha8)] at this
            exact this hgo
          rcases HGF.out gr hFg with q | q
          · exact hrF rb ro rfl (by rw [← e]; exact q)
          · omega
        have hne2 : ¬ rb = gr := fun e => hne1 e.symm
        have hp0 := HI.out.1.putSt ha8 r 0 gr hrM hgo
        have hp3 := hp0.1.putSt ha8 r 3 gr (by rw [setSt_length]; exact hrM) hgo
        have H0 := (show Hid (rv ≠ 1 → Mg (wr.setCell ⟨gr, r * 2 + 1, none⟩ (.int .i64 0)) mb (turned L8 a (setK j res L.ms[a].m (k + 1))) F7 ∧ Ext F7 w8 (wr.setCell ⟨gr, r * 2 + 1, none⟩ (.int .i64 0))) from fun hne => by
          rw [Hnx.out, if_neg hne]
          exact ⟨hp0.1, HI.out.2.trans hp0.2⟩)
        have H3 := (show Hid (rv = 1 → Mg ((wr.setCell ⟨gr, r * 2 + 1, none⟩ (.int .i64 0)).setCell ⟨gr, r * 2 + 1, none⟩ (.int .i64 3)) mb (turned L8 a (setK j res L.ms[a].m (k + 1))) F7 ∧ Ext F7 w8 ((wr.setCell ⟨gr, r * 2 + 1, none⟩ (.int .i64 0)).setCell ⟨gr, r * 2 + 1, none⟩ (.int .i64 3))) from fun hne => by
          rw [Hnx.out, if_pos hne]
          have := hp3.1
          dsimp only at this
          rw [setSt_twice] at this
          exact ⟨this, (HI.out.2.trans hp0.2).trans hp3.2⟩)
        clear hp0 hp3 hmz dfz hgo hgo' Hnx HI
        generalize L.ms[a].m.rs.length = mlen at d2 hrg hgood
        by_cases hv : rv = 1
        · subst hv
          have H3' := hid (H3.out rfl)
          clear H0 H3
          go_wp2_with fail
          go_roundg (gk - 1)
          case measure => have := Hk.out; omega
          case rel => exact ⟨k + 1, by go_num, by have := Hk.out; omega, H3'.out⟩
        · have H0' := hid (H0.out hv)
          clear H0
          have hvb : (rv == 1) = false := by simpa using hv
          clear H3
          go_wp2_with fail
          go_roundg (gk - 1)
          case measure => have := Hk.out; omega
          case rel => exact ⟨k + 1, by go_num, by have := Hk.out; omega, H0'.out⟩
      · obtain rfl : k = j.rs.length := by omega
        have hi8 : i < L8.ds.length := by rw [← HL8.out]; simpa using hi7
        have hz8 : L8.ds[i] = { L7.ds[i] with d := doneD L7.lm g L7.ds[i].d } := by
          have := HL8.out
          subst this
          simp
        have hzd := HI.out.1.dests _ (List.getElem_mem (show i < (turned L8 a (setK j res L.ms[a].m j.rs.length)).ds.length from hi8))
        change DestAt wr L8.lm L8.ds[i] at hzd
        rw [hz8] at hzd
        obtain ⟨z0, z1, z2⟩ := hzd.cells
        obtain ⟨st1, -⟩ := hzd.st
        have hlim := HI.out.1.lim
        have HDd := hid (dead_run _ _ _ _ _ _ wr (by have := hlim.2.2.2.2.1; change L8.lm.lim ≤ 1000 at this; omega) hzd.win)
        have HE := (show Hid (∀ L2 F2 W, Mg W mb L2 F2 → Calls Try.prog 51 #[.pointer (some ⟨mb, 0, none⟩), .int .i64 now] W (fun e w' => e = .returned (.tuple #[]) ∧ EndsPost mb L2 F2 now W e w')) from fun L2 F2 W h => ends_run mb L2 F2 now hnow W h)
        dsimp only at z0 z1 z2 HDd
        obtain ⟨-, -, -, t3, -⟩ := HI.out.1.tops
        change wr.cell? _ = some (.int .i64 L8.lm.minb) at t3
        obtain ⟨-, -, -, -, -, q6, q7, q8, -, -⟩ := hlim
        change 1 ≤ L8.lm.minb at q6
        change L8.lm.minb ≤ L8.lm.maxb at q7
        change L8.lm.maxb ≤ 1000000 at q8
        have hmbr := HI.out.1.mblt
        have zf : wr.frozen? ⟨L7.ds[i].b, 2, none⟩ = false := hzd.free 2
        clear hzd st1
        cases hs0 : decide ((doneD L7.lm g L7.ds[i].d).s = 0) with
        | false =>
          rw [hs0] at HDd
          go_wp2_with fail
          refine HDd.out.mono ?_
          rintro e w9 ⟨rfl, rfl⟩
          go_wp2_with fail
          refine (HE.out _ _ _ HI.out.1).mono ?_
          rintro e w10 ⟨rfl, v4, hM4, hX4⟩
          have HP : Hid (StepPost mb F (doneAt L.q a b L.ms[a].m j res g now L7.ds[i].d) w w10) := by
            have hx := HI.out.2.trans hX4
            refine ⟨_, F7, hM4, fun k hk => ?_, HXF.out.grow HGF.out hx, done_q_live HZ.out.2.2.2.1 hi7 Hdi.out HL8.out ha8 Hl.out (by simpa using hs0)⟩
            rcases HGF.out k hk with q | q
            · exact .inl q
            · exact .inr ⟨q.1, Nat.lt_of_lt_of_le q.2 hx.size⟩
          clear hM4 hX4 HE HDd
          go_wp2_with fail
          go_ret
          refine ⟨rfl, L7.ds[i].d, ?_, HP.out⟩
          rw [Hdi.out, show mkD L.lm L.q.ds j.dest = L7.q.ds from (congrArg Qs.ds HZ.out.2.2.2.1).symm]
          simp [Lq.q, hi7]
        | true =>
          rw [hs0] at HDd
          go_wp2_with fail
          refine HDd.out.mono ?_
          rintro e w9 ⟨rfl, rfl⟩
          have hR := HI.out.1.setRev i hi8 (now + L8.lm.minb) (by omega)
          change Mg (wr.setCell ⟨L8.ds[i].b, 2, none⟩ (.int .i64 (now + L8.lm.minb))) mb { turned L8 a (setK j res L.ms[a].m j.rs.length) with ds := L8.ds.set i { L8.ds[i] with d := { L8.ds[i].d with rev := now + L8.lm.minb } } } F7 ∧ Ext F7 wr (wr.setCell ⟨L8.ds[i].b, 2, none⟩ (.int .i64 (now + L8.lm.minb))) at hR
          have hzb : L8.ds[i].b = L7.ds[i].b := by rw [hz8]
          rw [hzb] at hR
          generalize hL9 : ({ turned L8 a (setK j res L.ms[a].m j.rs.length) with ds := L8.ds.set i { L8.ds[i] with d := { L8.ds[i].d with rev := now + L8.lm.minb } } } : Lq) = L9 at hR
          have hml9 : L9.ms.length ≤ 50000 := by
            rw [← hL9]
            show (turned L8 a _).ms.length ≤ _
            rw [turned_length, Hms8.out]
            exact hml
          have HOf := hid (off_run mb L9 F7 (doneD L7.lm g L7.ds[i].d).name _ hR.1 hml9)
          have HXR := hid hR.2
          have HL9 := hid hL9
          clear hR hL9
          go_wp2_with fail
          refine HOf.out.mono ?_
          rintro e w11 ⟨rfl, hM11, hX11⟩
          have HE2 := hid (HE.out _ _ _ hM11)
          have HX11 := hid hX11
          clear hM11 hX11 HE HOf
          go_wp2_with fail
          refine HE2.out.mono ?_
          rintro e w10 ⟨rfl, v4, hM4, hX4⟩
          have HP : Hid (StepPost mb F (doneAt L.q a b L.ms[a].m j res g now L7.ds[i].d) w w10) := by
            have hx := ((HI.out.2.trans HXR.out).trans HX11.out).trans hX4
            refine ⟨_, F7, hM4, fun k hk => ?_, HXF.out.grow HGF.out hx, done_q_dead HZ.out.2.2.2.1 hi7 Hdi.out HL8.out ha8 Hl.out (by simpa using hs0) hi8 L9 HL9.out.symm⟩
            rcases HGF.out k hk with q | q
            · exact .inl q
            · exact .inr ⟨q.1, Nat.lt_of_lt_of_le q.2 hx.size⟩
          clear hM4 hX4 HE2 HDd
          go_wp2_with fail
          go_ret
          refine ⟨rfl, L7.ds[i].d, ?_, HP.out⟩
          rw [Hdi.out, show mkD L.lm L.q.ds j.dest = L7.q.ds from (congrArg Qs.ds HZ.out.2.2.2.1).symm]
          simp [Lq.q, hi7]

/-- What Done needs of a job that is under way: its recipients are of the message. -/
def JobFits (q : Qs) (j : Jb) : Prop := ∀ m, q.ms[mIdx q.ms j.id]? = some m → jIdx q.jobs j < q.jobs.length → ∀ r ∈ j.rs, r < m.rs.length

/-- Done, whatever comes. -/
theorem done_run (mb : Nat) (L : Lq) (F : Nat → Prop) (j : Jb) (y : Option Addr) (c : Nat) (rx : Option Addr) (rc : Nat) (res : List Int) (g : Bool) (now : Int) (w : World) (hM : Mg w mb L F) (hml : L.ms.length ≤ 50000) (hdl : L.ds.length ≤ 50000) (hy : IntsL w y j.rs) (hyF : ∀ b o, y = some ⟨b, o, none⟩ → ¬ F b) (hr : ResL w rx res) (hrF : ∀ b o, rx = some ⟨b, o, none⟩ → ¬ F b) (hfit : JobFits L.q j) :
    Calls Try.prog 30 #[.pointer (some ⟨mb, 0, none⟩), .agg #[.string j.id, .string j.dest, .slice y j.rs.length c], .slice rx res.length rc, .bool g, .int .i64 now] w fun e w' => e = .returned (.int .i64 (done L.q j res g now).1) ∧ StepPost mb F (done L.q j res g now).2 w w' := by
  unfold done
  cases hb : doneOk j res now with
  | false =>
    refine (done_bad_run _ j y c rx rc res g now w hr hb).mono ?_
    rintro e w' ⟨rfl, hx1⟩
    exact ⟨rfl, StepPost.quiet hM hx1⟩
  | true =>
    simp only [Bool.not_true, Bool.false_eq_true, if_false]
    by_cases h1 : mIdx L.q.ms j.id < L.ms.length
    · by_cases h2 : jIdx L.q.jobs j < L.jobs.length
      · have hm : L.q.ms[mIdx L.q.ms j.id]? = some L.ms[mIdx L.q.ms j.id].m := by
          show (L.ms.map (·.m))[mIdx L.q.ms j.id]? = _
          rw [List.getElem?_map, List.getElem?_eq_getElem h1]; rfl
        have h2' : jIdx L.q.jobs j < L.q.jobs.length := by simpa [Lq.q] using h2
        refine (done_ok_run mb L F j y c rx rc res g now w hM hml hdl hy hyF hr hrF hb _ rfl h1 _ rfl h2 (hfit _ hm h2')).mono ?_
        rintro e w' ⟨rfl, d, hd, hs⟩
        rw [hm, show (mkD L.q.lm L.q.ds j.dest)[dIdx L.q.ds j.dest]? = some d from hd]
        simp only [h2', if_true]
        exact ⟨trivial, hs⟩
      · have h2' : ¬ jIdx L.q.jobs j < L.q.jobs.length := by simpa [Lq.q] using h2
        refine (done_none_run mb L F j y c rx rc res g now w hM hy hr hb (.inr h2)).mono ?_
        rintro e w' ⟨rfl, hx1⟩
        cases L.q.ms[mIdx L.q.ms j.id]? with
        | none => exact ⟨rfl, StepPost.quiet hM hx1⟩
        | some m =>
          cases (mkD L.q.lm L.q.ds j.dest)[dIdx L.q.ds j.dest]? with
          | none => exact ⟨rfl, StepPost.quiet hM hx1⟩
          | some d =>
            simp only [h2', if_false]
            exact ⟨trivial, StepPost.quiet hM hx1⟩
    · refine (done_none_run mb L F j y c rx rc res g now w hM hy hr hb (.inl h1)).mono ?_
      rintro e w' ⟨rfl, hx1⟩
      have hm : L.q.ms[mIdx L.q.ms j.id]? = none := by
        show (L.ms.map (·.m))[mIdx L.q.ms j.id]? = _
        rw [List.getElem?_map, List.getElem?_eq_none (by omega)]; rfl
      rw [hm]
      exact ⟨rfl, StepPost.quiet hM hx1⟩
end Go.Proofs.Ytnakafmlenngnaa.Qm
