/- Add, where it adds. -/
import Derived.Test.YtnakafmlenngnaaQadd
namespace Go.Proofs.Ytnakafmlenngnaa.Qm
open Go.RowKit Go.Proofs.Ytnakafmlenngnaa.Wi

theorem size0 {d : ByteArray} (h : d.toList.isEmpty = true) : d.size = 0 := by
  rw [isEmpty_tl] at h; simpa only [decide_eq_true_eq] using h
theorem size1 {d : ByteArray} (h : d.toList.isEmpty = false) : ¬ d.size = 0 := by
  rw [isEmpty_tl] at h; simpa only [decide_eq_false_iff_not] using h

theorem step_append_run {P : Program} {ops : Array Oper} {o : Oper} {a : Act} {w : World} {K : Act → World → Prop} {Q : Exit → Act → World → Prop} {E : Prop} (hgd : o.guard = none) (s x : Operand) (ts : Array TypeId)
    (ho : o.op = .call { callee := .builtin .append, args := #[s, x], argTypes := ts }) (v u r : Value) (w' : World) (hs : a.eval s = v) (hx : a.eval x = u) (hrun : (Builtin.append_ ts o.type #[v, u]).run P w = .ok r w')
    (h : K (a.put o.dst r) w') : if Region.wanted o (yielded ops a.tmps) = true then Oper.wp P o a w K Q else E := by
  have hw : Region.wanted o (yielded ops a.tmps) = true := by simp [Region.wanted, hgd]
  rw [if_pos hw]
  unfold Oper.wp
  simp [execOp, ho, resolve, invoke, builtin, hs, hx, hrun, Result.andThen]
  exact h

theorem AddI.xcells {w wr : World} {mb : Nat} {L : Lq} {F : Nat → Prop} {xb : Nat} {id : ByteArray} {came now : Int} {D : List ByteArray} {kd kr : Nat} {L1 : Lq} {F1 : Nat → Prop} {vo : Value} (h : AddI w wr mb L F xb id came now D kd kr L1 F1 vo) :
    wr.cell? ⟨xb, 2, none⟩ = some vo ∧ wr.frozen? ⟨xb, 2, none⟩ = false := by
  have := h.xc
  simp [World.cell?, World.frozen?, this]

/-- The append of a recipient, in its region. -/
theorem AddI.runs {w wr : World} {mb : Nat} {L : Lq} {F : Nat → Prop} {xb : Nat} {id : ByteArray} {came now : Int} {D : List ByteArray} {k : Nat} {L1 : Lq} {F1 : Nat → Prop} {vo : Value} (h : AddI w wr mb L F xb id came now D (k + 1) k L1 F1 vo) (hk : k < 200)
    {d : ByteArray} {st : Nat} (hst : (addF L.lm now L.q.ds (D.take (k + 1))).2 = (addF L.lm now L.q.ds (D.take k)).2 ++ [⟨d, st⟩]) :
    ∃ x c wA, (Builtin.append_ #[91, 91] 91 #[vo, .slice (some ⟨wr.heap.size, 0, none⟩) 1 1]).run Try.prog ((wr.alloc (.cells #[.string d, .int .i64 (st : Nat)] 95)).drew) = .ok (.slice x (k + 1) c) wA ∧ k + 1 ≤ c ∧ c ≤ 9223372036854775807 ∧
      AddI w (wA.setCell ⟨xb, 2, none⟩ (.slice x (k + 1) c)) mb L F xb id came now D (k + 1) (k + 1) L1 F1 (.slice x (k + 1) c) ∧ wA.cell? ⟨xb, 2, none⟩ = some vo ∧ wA.frozen? ⟨xb, 2, none⟩ = false := by
  obtain ⟨i, j1, j2, j3, j4⟩ := info95
  have hE : Ext (fun _ => False) wr wr.drew := (Ext.refl _ _).drew
  have e : ((wr.alloc (.cells #[.string d, .int .i64 (st : Nat)] 95)).drew) = (wr.drew.alloc (.cells #[.string d, .int .i64 (st : Nat)] 95)) := rfl
  have hd := h.quiet hE
  obtain ⟨v', wA, hr, hown, hg, -, hb⟩ := run_append_own_at (P := Try.prog) (wr.drew.alloc (.cells #[.string d, .int .i64 (st : Nat)] 95)) w.heap.size 91 91 95 i _ 2 24 Try.underlying91 j1 j2 j3 j4 rfl (by decide) vo k _ (hd.row.alloc _) ⟨wr.heap.size, 0, none⟩ 1 1 [.string d, .int .i64 (st : Nat)] rfl
    (fun j u hu => by
      have ec := (MapKept.heap_alloc wr.drew (.cells #[.string d, .int .i64 (st : Nat)] 95)).1
      have ea : (⟨wr.heap.size, 0, none⟩ : Addr).add j = ⟨wr.drew.heap.size, j, none⟩ := by
        unfold Addr.add
        by_cases h0 : j = 0
        · subst h0; rfl
        · simp [h0]
      rw [ea]
      unfold World.cell?
      simp only [ec]
      simpa using hu)
    (fun u hu => by simp at hu; rcases hu with rfl | rfl <;> rfl) (by unfold maxLen; omega) (by omega) (by have := h.ext.size; show _ ≤ (wr.alloc _).heap.size; simp; omega)
  obtain ⟨x, c, rfl, q1, q2⟩ := row_shape hown
  rw [← e] at hr
  obtain ⟨hI, f1, f2⟩ := hd.append hst hown hg (by simpa using hb)
  exact ⟨x, c, wA, hr, q1, q2, hI, f1, f2⟩

def addedQ (q : Qs) (id : ByteArray) (came : Int) (D : List ByteArray) (now : Int) : Qs :=
  { q with ds := (addF q.lm now q.ds D).1, ms := endsM q.lm now (q.ms ++ [⟨id, came, (addF q.lm now q.ds D).2, false, 0⟩]) }

set_option maxHeartbeats 8000000 in
set_option maxRecDepth 100000 in
theorem add_in_run (mb : Nat) (L : Lq) (F : Nat → Prop) (id : ByteArray) (came now : Int) (x : Option Addr) (D : List ByteArray) (c : Nat) (w : World) (hM : Mg w mb L F) (hml : L.ms.length ≤ 50000) (hdl : L.ds.length ≤ 50000) (hx : StrsAt w x D) (hxF : ∀ b o, x = some ⟨b, o, none⟩ → ¬ F b) (hb : addOk id came D now = true)
    (hf : ¬ mIdx L.q.ms id < L.ms.length) (hfull : full L.q = false) :
    Calls Try.prog 28 #[.pointer (some ⟨mb, 0, none⟩), .string id, .int .i64 came, .slice x D.length c, .int .i64 now] w fun e w' => e = .returned (.int .i64 0) ∧ StepPost mb F (addedQ L.q id came D now) w w' := by
  obtain ⟨ht0, hl0, hs0⟩ := add_pre c hx hb
  obtain ⟨h1, h2, h3, h4, h5, -, -⟩ := addOk_true hb
  rw [Bool.and_eq_true] at h3
  have hcame := isT_iff h3.1
  have hnow := isT_iff h3.2
  have HT := hid ht0
  have HL := hid (hl0 _ ((Ext.refl _ _).alloc (.cells #[.int .i64 came, .int .i64 now] 3)))
  have HS := hid (hs0 _ ((Ext.refl _ _).alloc (.cells #[.int .i64 came, .int .i64 now] 3)))
  have HF := hid (find_run mb L F id _ (hM.quiet ((Ext.refl _ _).alloc (.cells #[.int .i64 came, .int .i64 now] 3))))
  have HU := (show Hid (∀ W, Ext (fun _ => False) (w.alloc (.cells #[.int .i64 came, .int .i64 now] 3)) W → Calls Try.prog 49 #[.pointer (some ⟨mb, 0, none⟩)] W (QuietPost (.bool false) W)) from fun W hW => by
    rw [← hfull]
    exact full_run mb L F W (hM.quiet (((Ext.refl _ _).alloc _).trans hW)) (by omega))
  have e : foundV L (mIdx L.q.ms id) = .pointer none := by unfold foundV; rw [List.getElem?_eq_none (by omega)]; rfl
  rw [e] at HF
  have hn := hx.1
  have HM := hid hM
  have HX := hid hx
  have HXF := hid hxF
  have hD : D.length ≤ 200 := by omega
  clear hM hx hxF hb hf e hfull h3 ht0 hl0 hs0
  go_enter Try.func28, Try.ntmps28
  go_upto_region 16 with (first | (go_at_call 44; refine (HT.out _ _ ?_ ?_).mono ?_; (go_simp); (go_simp); rintro e w1 ⟨rfl, rfl⟩) | (go_at_call 47; refine HL.out.mono ?_; rintro e w1 ⟨rfl, rfl⟩) | (go_at_call 47; refine HS.out.mono ?_; rintro e w1 ⟨rfl, rfl⟩) | (go_at_call 48; refine HF.out.mono ?_; rintro e w1 ⟨rfl, hx1⟩) | (go_at_call 49; refine (HU.out _ hx1).mono ?_; rintro e w2 ⟨rfl, hx2⟩))
  have hxw := ((Ext.refl (fun _ => False) w).alloc (.cells #[.int .i64 came, .int .i64 now] 3)).trans (hx1.trans hx2)
  have J0 : Hid (AddI w (w2.alloc (.cells #[.string id, .int .i64 came, .slice none 0 0, .bool false, .int .i64 0] 93)) mb L F w2.heap.size id came now D 0 0 L F (.slice none 0 0)) := by
    have hx3 := hxw.alloc (.cells #[.string id, .int .i64 came, .slice none 0 0, .bool false, .int .i64 0] 93)
    exact ⟨HM.out.quiet hx3, hx3.mono fun _ f => f.elim, Grow.refl _ _ _, fun _ f => f, rfl, rfl, (MapKept.heap_alloc w2 _).1, World.ownsRow_nil _ _ _ _, ⟨fun f => by have := (HM.out.quiet hxw).lt _ f; omega, hxw.size⟩, fun g hg => by cases hg⟩
  generalize w2.heap.size = xb at J0 ⊢
  clear hx1 hx2 hxw HT HL HS HF HU h1 h2 h4 h5
  go_wp2_with fail
  go_loopg [56] D.length (fun gg ix wr => ∃ k L1 F1 vo, ix = .int .i64 (k : Nat) ∧ k + gg = D.length ∧ Hid (AddI w wr mb L F xb id came now D k k L1 F1 vo))
  case atStart => exact ⟨0, L, F, _, rfl, by omega, J0⟩
  case round =>
    obtain ⟨k, L1, F1, vo, rfl, hk, HI⟩ := hrel
    have Hk := hid hk
    have hkn : k ≤ D.length := by omega
    clear hk J0
    by_cases hlt : k < D.length
    · obtain ⟨b, o, rfl, hbl, hcx⟩ := HX.out.2 k hlt
      have c0 := (HI.out.ext.cell hbl (HXF.out b o rfl) (o + k)).trans hcx
      generalize hdk : D[k] = d at c0
      have Hdk := hid hdk
      clear hcx hdk
      have hA1 := HI.out.quiet ((Ext.refl _ wr).alloc (.cells #[.string d, .int .i64 0] 95))
      have hp1 : (wr.alloc (.cells #[.string d, .int .i64 0] 95)).heap[wr.heap.size]? = some (.cells #[.string d, .int .i64 0] 95 (0, 0)) := (MapKept.heap_alloc wr _).1
      have HA := hid hA1
      have HP := hid hp1
      have hge := HI.out.ext.size
      clear hA1 hp1
      go_upto_if 63 with (fail)
      go_cut [] (fun wx => ∃ L2 F2 st, Hid (AddI w wx mb L F xb id came now D (k + 1) k L2 F2 vo ∧ wx.heap[wr.heap.size]? = some (.cells #[.string d, .int .i64 (st : Nat)] 95 (0, 0)) ∧ (addF L.lm now L.q.ds (D.take (k + 1))).2 = (addF L.lm now L.q.ds (D.take k)).2 ++ [⟨d, st⟩]))
      case first =>
        cases he : d.toList.isEmpty with
        | true =>
          have Hes := hid (size0 he)
          go_wp2_with fail
          go_meet
          obtain ⟨h1, h2⟩ := HA.out.empty hlt (by rw [Hdk.out]; exact Hes.out)
          rw [Hdk.out] at h2
          exact ⟨L1, F1, 0, h1, HP.out, h2⟩
        | false =>
          have Hes := hid (size1 he)
          have HQ : Hid (Calls Try.prog 50 #[.pointer (some ⟨mb, 0, none⟩), .pointer (some ⟨wr.heap.size, 0, none⟩), .int .i64 now] (wr.alloc (.cells #[.string d, .int .i64 0] 95)) (QueuePost mb L1 F1 d now wr.heap.size (0 + 1) (wr.alloc (.cells #[.string d, .int .i64 0] 95)))) := by
            show Calls _ _ _ _ _
            have hpn : ¬ F1 wr.heap.size := fun f => by have := HI.out.mg.lt _ f; omega
            refine queue_run mb L1 F1 d now wr.heap.size 0 _ HA.out.mg (by have := HI.out.dlen hkn; omega) (by unfold World.cell?; rw [HP.out]; rfl) fun W L' F' hW hms hX => ?_
            have e := (hX.block wr.heap.size (by simp) hpn).trans HP.out
            exact ⟨⟨.int .i64 0, by simp [World.cell?, e]⟩, by simp [World.frozen?, e]⟩
          go_wp2_with fail
          refine HQ.out.mono ?_
          rintro e w3 hq
          obtain ⟨L2, F2, h1, h2, h3⟩ := HA.out.queued hlt (by rw [Hdk.out]; exact Hes.out) (pb := wr.heap.size) (by simp) (fun f => by have := HI.out.mg.lt _ f; omega) hge (fun e => by have := heap_lt HI.out.xc; omega) (fun e => by have := row_lt HI.out.row _ e; omega) (by rw [Hdk.out]; exact HP.out) (by rw [Hdk.out]; exact hq)
          obtain rfl := hq.1
          rw [Hdk.out] at h2 h3
          have HR := hid (And.intro h1 (And.intro h2 h3))
          clear h1 h2 h3 hq HQ
          go_wp2_with fail
          go_meet
          exact ⟨L2, F2, _, HR.out⟩
      case rest =>
        obtain ⟨L2, F2, st, HR⟩ := hcut
        obtain ⟨hI, hpc, hst⟩ := HR.out
        obtain ⟨xs, cs, wA, hrun, y1, y2, hI2, g1, g2⟩ := hI.runs (by omega) hst
        obtain ⟨x2, xf⟩ := hI.xcells
        have p0 : wc.cell? ⟨wr.heap.size, 0, none⟩ = some (.string d) := by unfold World.cell?; rw [hpc]; rfl
        have p1 : wc.cell? ⟨wr.heap.size, 1, none⟩ = some (.int .i64 (st : Nat)) := by unfold World.cell?; rw [hpc]; rfl
        have HI2 := hid hI2
        obtain ⟨xo, co, rfl, y3, y4⟩ := row_shape hI.row
        have x2a := Go.Lib.cell?_alloc_some (.cells #[.string d, .int .i64 (st : Nat)] 95) x2
        clear HA HP HR hI hpc hst hI2 c0 HX HXF HI
        go_wp2_with fail
        go_region_law (first | ((with_reducible refine step_append_run ?_ (.tmp 71) (.tmp 73) #[91, 91] ?_ _ _ _ _ ?_ ?_ hrun ?_); any_goals rfl))
        all_goals go_wp2_with fail
        all_goals go_roundg (gk - 1)
        all_goals first
          | (have := Hk.out; omega)
          | exact ⟨k + 1, L2, F2, _, by go_num, by have := Hk.out; omega, HI2⟩
    · obtain rfl : k = D.length := by omega
      obtain ⟨xm, cm, hv, y1, y2⟩ := row_shape HI.out.mg.mrow
      obtain ⟨-, -, -, -, -, -, t6, -⟩ := HI.out.mg.tops
      have tf := HI.out.mg.toCore.free 6
      have tl := HI.out.mg.mblt
      rw [hv] at t6
      have HO := (show Hid (wr.ownsRow 0 89 1 (.slice xm L1.ms.length cm) L1.ms.length (L1.ms.map mPtr)) from by rw [← hv]; exact HI.out.mg.mrow)
      have HV := (show Hid (L1.mv = .slice xm L1.ms.length cm) from hv)
      have hlen : L1.ms.length ≤ 50000 := by rw [HI.out.ms]; exact hml
      have HE := (show Hid (∀ L2 F2 W, Mg W mb L2 F2 → Calls Try.prog 51 #[.pointer (some ⟨mb, 0, none⟩), .int .i64 now] W (fun e w' => e = .returned (.tuple #[]) ∧ EndsPost mb L2 F2 now W e w')) from fun L2 F2 W h => ends_run mb L2 F2 now hnow W h)
      obtain ⟨i, j1, j2, j3, j4⟩ := info89
      clear hv HX HXF
      go_wp2_with (first
        | (at_builtin; refine wpList_append_own_at _ rfl (.tmp 82) (.tmp 84) 84 rfl 0 89 i (.pointer none) 1 8 Try.underlying84 j1 j2 j3 j4 rfl (by decide) (.slice xm L1.ms.length cm) L1.ms.length (L1.ms.map mPtr) rfl (HO.out.alloc _) ⟨wr.heap.size, 0, none⟩ 1 1 [.pointer (some ⟨xb, 0, none⟩)] rfl rfl ?c1 ?c2 ?c3 ?c4 ?c5 ?_))
      case c1 => exact new1 _ _ rfl
      case c2 => intro u hu; simp at hu; subst hu; rfl
      case c3 => unfold maxLen; omega
      case c4 => omega
      case c5 => exact Nat.zero_le _
      intro v' wA hown hg _ hb
      obtain ⟨L2, F2, hM2, hG2, hX2, hlm2, hq2, g1, g2⟩ := HI.out.finish hcame hown (by rw [HV.out]; exact hg) (by rw [HV.out]; simpa using hb)
      obtain ⟨x2, c2, rfl, z1, z2⟩ := row_shape hown
      have HR := hid (And.intro hM2 (And.intro hG2 (And.intro hX2 (And.intro hlm2 hq2))))
      rw [HV.out] at g1
      clear hM2 hG2 hX2 hlm2 hq2 hown hg hb HO
      go_wp2_with fail
      refine (HE.out L2 F2 _ HR.out.1).mono ?_
      rintro e w4 ⟨rfl, v4, hM4, hX4⟩
      have HP : Hid (StepPost mb F (addedQ L.q id came D now) w w4) := by
        obtain ⟨hM2, hG2, hX2, hlm2, hq2⟩ := HR.out
        refine ⟨endedL L2 now v4, F2, hM4, hG2.trans (Grow.refl _ _ _) hX2.size hX4.size, hX2.grow hG2 hX4, ?_⟩
        rw [endedL_q, hq2, hlm2]
        rfl
      clear hM4 hX4 HR HE
      go_wp2_with fail
      go_ret
      exact ⟨rfl, HP.out⟩

theorem StepPost.quiet {mb : Nat} {L : Lq} {F : Nat → Prop} {w w' : World} (h : Mg w mb L F) (hx : Ext (fun _ => False) w w') : StepPost mb F L.q w w' :=
  ⟨L, F, h.quiet hx, Grow.refl _ _ _, hx.mono fun _ f => f.elim, rfl⟩

/-- Add, whatever comes. -/
theorem add_run (mb : Nat) (L : Lq) (F : Nat → Prop) (id : ByteArray) (came now : Int) (x : Option Addr) (D : List ByteArray) (c : Nat) (w : World) (hM : Mg w mb L F) (hml : L.ms.length ≤ 50000) (hdl : L.ds.length ≤ 50000) (hx : StrsAt w x D) (hxF : ∀ b o, x = some ⟨b, o, none⟩ → ¬ F b) :
    Calls Try.prog 28 #[.pointer (some ⟨mb, 0, none⟩), .string id, .int .i64 came, .slice x D.length c, .int .i64 now] w fun e w' => e = .returned (.int .i64 (add L.q id came D now).1) ∧ StepPost mb F (add L.q id came D now).2 w w' := by
  unfold add
  cases hb : addOk id came D now with
  | false =>
    refine (add_bad_run _ id came now x D c w hx hb).mono ?_
    rintro e w' ⟨rfl, hx1⟩
    exact ⟨rfl, StepPost.quiet hM hx1⟩
  | true =>
    by_cases hf : mIdx L.q.ms id < L.ms.length
    · have hf' : mIdx L.q.ms id < L.q.ms.length := by simpa [Lq.q] using hf
      refine (add_there_run mb L F id came now x D c w hM hx hb hf).mono ?_
      rintro e w' ⟨rfl, hx1⟩
      simp only [Bool.not_true, Bool.false_eq_true, if_false, hf', if_true]
      exact ⟨trivial, StepPost.quiet hM hx1⟩
    · have hf' : ¬ mIdx L.q.ms id < L.q.ms.length := by simpa [Lq.q] using hf
      cases hfull : full L.q with
      | true =>
        refine (add_full_run mb L F id came now x D c w hM hml hx hb hf hfull).mono ?_
        rintro e w' ⟨rfl, hx1⟩
        simp only [Bool.not_true, Bool.false_eq_true, if_false, hf', if_true]
        exact ⟨trivial, StepPost.quiet hM hx1⟩
      | false =>
        refine (add_in_run mb L F id came now x D c w hM hml hdl hx hxF hb hf hfull).mono ?_
        rintro e w' ⟨rfl, hx1⟩
        simp only [Bool.not_true, Bool.false_eq_true, if_false, hf']
        exact ⟨trivial, hx1⟩
end Go.Proofs.Ytnakafmlenngnaa.Qm
