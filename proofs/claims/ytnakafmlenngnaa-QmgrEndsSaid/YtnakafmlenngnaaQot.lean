/- Size, Flight, Drop; two jobs, two lists of integers: the same? -/
import Derived.Test.YtnakafmlenngnaaQwh
import Derived.Test.YtnakafmlenngnaaQag
import Derived.Test.YtnakafmlenngnaaQdo
import Derived.LaidEqlPtr
namespace Go.Proofs.Ytnakafmlenngnaa.Qm
open Go.RowKit Go.Proofs.Ytnakafmlenngnaa.Wi

theorem size_q_run (mb : Nat) (L : Lq) (F : Nat → Prop) (n : ByteArray) (w : World) (h : Mg w mb L F) :
    Calls Try.prog 33 #[.pointer (some ⟨mb, 0, none⟩), .string n] w (QuietPost (.int .i64 (ofD L.q n (0 : Int) fun d => (d.s : Int))) w) := by
  obtain ⟨-, -, -, -, -, -, -, -, t8, -, -⟩ := h.tops
  have hlk := run_lookup_s (P := Try.prog) w L.mp _ n (.pointer none) Try.underlying83 Try.underlying9 (fun w => by kernel_rfl) h.map
  rw [look_dIdx, ← q_dIdx] at hlk
  unfold ofD
  by_cases hi : dIdx L.q.ds n < L.ds.length
  · have e2 : L.q.ds[dIdx L.q.ds n]? = some L.ds[dIdx L.q.ds n].d := by
      show (L.ds.map (·.d))[dIdx L.q.ds n]? = _
      rw [List.getElem?_map, List.getElem?_eq_getElem hi]; rfl
    rw [List.getElem?_eq_getElem hi] at hlk
    simp only [Option.map_some, Option.getD_some, dPtr] at hlk
    rw [e2]
    dsimp only
    have hz := h.dests _ (List.getElem_mem hi)
    obtain ⟨-, z1, -⟩ := hz.cells
    have hlim := h.lim.2.2.2.2.1
    have HD := hid (size_run _ _ _ _ _ _ w (by have := hz.st.1; omega) hz.win)
    generalize L.ds[dIdx L.q.ds n] = z at hlk z1 HD ⊢
    clear h hz hi e2
    go_enter Try.func33, Try.ntmps33
    go_wp2_with fail
    refine HD.out.mono ?_
    rintro e w1 ⟨rfl, rfl⟩
    go_wp2_with fail
    go_ret
    exact ⟨rfl, Ext.refl _ _⟩
  · have e2 : L.q.ds[dIdx L.q.ds n]? = none := by
      show (L.ds.map (·.d))[dIdx L.q.ds n]? = _
      rw [List.getElem?_map, List.getElem?_eq_none (by omega)]; rfl
    rw [List.getElem?_eq_none (by omega)] at hlk
    simp only [Option.map_none, Option.getD_none] at hlk
    rw [e2]
    dsimp only
    clear h hi e2
    go_enter Try.func33, Try.ntmps33
    go_wp2_with fail
    go_ret
    exact ⟨rfl, Ext.refl _ _⟩

theorem flight_q_run (mb : Nat) (L : Lq) (F : Nat → Prop) (n : ByteArray) (w : World) (h : Mg w mb L F) :
    Calls Try.prog 34 #[.pointer (some ⟨mb, 0, none⟩), .string n] w (QuietPost (.int .i64 (ofD L.q n (0 : Int) fun d => (d.f : Int))) w) := by
  obtain ⟨-, -, -, -, -, -, -, -, t8, -, -⟩ := h.tops
  have hlk := run_lookup_s (P := Try.prog) w L.mp _ n (.pointer none) Try.underlying83 Try.underlying9 (fun w => by kernel_rfl) h.map
  rw [look_dIdx, ← q_dIdx] at hlk
  unfold ofD
  by_cases hi : dIdx L.q.ds n < L.ds.length
  · have e2 : L.q.ds[dIdx L.q.ds n]? = some L.ds[dIdx L.q.ds n].d := by
      show (L.ds.map (·.d))[dIdx L.q.ds n]? = _
      rw [List.getElem?_map, List.getElem?_eq_getElem hi]; rfl
    rw [List.getElem?_eq_getElem hi] at hlk
    simp only [Option.map_some, Option.getD_some, dPtr] at hlk
    rw [e2]
    dsimp only
    have hz := h.dests _ (List.getElem_mem hi)
    obtain ⟨-, z1, -⟩ := hz.cells
    have HD := hid (flight_run _ _ _ _ _ _ w hz.win)
    generalize L.ds[dIdx L.q.ds n] = z at hlk z1 HD ⊢
    clear h hz hi e2
    go_enter Try.func34, Try.ntmps34
    go_wp2_with fail
    refine HD.out.mono ?_
    rintro e w1 ⟨rfl, rfl⟩
    go_wp2_with fail
    go_ret
    exact ⟨rfl, Ext.refl _ _⟩
  · have e2 : L.q.ds[dIdx L.q.ds n]? = none := by
      show (L.ds.map (·.d))[dIdx L.q.ds n]? = _
      rw [List.getElem?_map, List.getElem?_eq_none (by omega)]; rfl
    rw [List.getElem?_eq_none (by omega)] at hlk
    simp only [Option.map_none, Option.getD_none] at hlk
    rw [e2]
    dsimp only
    clear h hi e2
    go_enter Try.func34, Try.ntmps34
    go_wp2_with fail
    go_ret
    exact ⟨rfl, Ext.refl _ _⟩

theorem cell_new2' (W : World) (o : Obj) (v : Value) (T : Nat) : ((W.alloc o).alloc (.cells #[v] T)).cell? ⟨W.heap.size + 1, 0, none⟩ = some v := by
  have e : (W.alloc o).heap.size = W.heap.size + 1 := by simp
  have := (MapKept.heap_alloc (W.alloc o) (.cells #[v] T)).1
  rw [e] at this
  simp only [World.cell?, this]
  rfl

/-! ### Drop -/
theorem info93 : ∃ i, Try.prog.info? 93 = some i ∧ i.size ≠ 0 :=
  by
  have h : (Try.prog.info? 93).map (fun i => i.size) = some 5 := by kernel_rfl
  cases hi : Try.prog.info? 93 with
  | none => rw [hi] at h; cases h
  | some i =>
    rw [hi] at h
    simp only [Option.map_some, Option.some.injEq] at h
    exact ⟨i, rfl, by omega⟩
set_option maxRecDepth 100000 in
theorem drop1_run (b c a : Nat) (w : World) (h : w.heap[b]? = some (.cells #[.pointer (some ⟨a, 0, none⟩)] 89 (0, 0))) {x y : Array Value} {s t : TypeId} (h1 : w.heap[c]? = some (.cells x s (0, 0))) (h2 : w.heap[a]? = some (.cells y t (0, 0))) :
    Calls Try.prog 65 #[.pointer (some ⟨c, 0, none⟩), .pointer (some ⟨b, 0, none⟩)] w fun e w' => e = .returned (.bool (decide (c = a))) ∧ w = w' := by
  have c0 : w.cell? ⟨b, 0, none⟩ = some (.pointer (some ⟨a, 0, none⟩)) := by simp [World.cell?, h]
  obtain ⟨i, i1, i2⟩ := info93
  have he : (binOp .eql 89 (.pointer (some ⟨a, 0, none⟩)) (.pointer (some ⟨c, 0, none⟩))).run Try.prog w = .ok (.bool (decide (c = a))) w := by
    by_cases hc : c = a
    · subst hc
      rw [decide_eq_true rfl]
      exact run_eql_ptr_same w _ Try.underlying89 i1
    · rw [decide_eq_false hc]
      exact run_eql_ptr_other w Try.underlying89 i1 i2 (fun e => hc (congrArg Addr.block e).symm) h2 h1
  clear h h1 h2 i1 i2
  generalize decide (c = a) = bb at he ⊢
  go_enter Try.func65, Try.ntmps65
  go_wp2_with fail
  go_ret
  exact ⟨rfl, rfl⟩

theorem keepAt_one {α : Type} : ∀ (l : List α) (k a : Nat), k ≤ a → keepAt (fun j => decide (j = a)) k l = l.eraseIdx (a - k)
  | [], k, a, _ => by simp [keepAt]
  | x :: l, k, a, h => by
    unfold keepAt
    by_cases hk : k = a
    · subst hk
      simp only [decide_true, if_true, Nat.sub_self, List.eraseIdx_zero, List.tail_cons]
      exact keepAt_all _ _ _ fun j h1 h2 => by simp; omega
    · have e : a - k = (a - (k + 1)) + 1 := by omega
      rw [e, List.eraseIdx_cons_succ, if_neg (by simpa using hk), keepAt_one l (k + 1) a (by omega)]
      try rfl

theorem dropL_run (mb : Nat) (L : Lq) (F : Nat → Prop) (a : Nat) (ha : a < L.ms.length) (b : Nat) (w : World) (h : Mg w mb L F) (hfb : ¬ F b) (hb : w.heap[b]? = some (.cells #[.pointer (some ⟨L.ms[a].b, 0, none⟩)] 89 (0, 0))) :
    Calls Try.prog 64 #[L.mv, .func (.func 65) #[] #[.pointer (some ⟨b, 0, none⟩)]] w fun e w' => ∃ v, e = .returned v ∧ Mg (w'.setCell ⟨mb, 6, none⟩ v) mb { L with ms := L.ms.eraseIdx a, mv := v } F ∧ Ext F w w' ∧ Core w' mb { L with ms := L.ms.eraseIdx a } F ∧ (∃ x n c, v = .slice x n c ∧ n ≤ c ∧ c ≤ 9223372036854775807) := by
  let I : Nat → World → Prop := fun _ W => Core W mb L F ∧ Ext F w W
  have hI0 : I 0 w := ⟨h.toCore, Ext.refl _ _⟩
  have := del64 65 #[.pointer (some ⟨b, 0, none⟩)] (enters_of Try.func65 (by kernel_rfl) rfl) L.mv L.ms.length (L.ms.map mPtr) (fun k => decide (k = a)) I w
    (row_lower h.mrow 0 (Nat.le_refl _)) (fun k hk => ⟨some ⟨(L.ms[k]'(by simpa using hk)).b, 0, none⟩, by simp [mPtr]⟩) hI0 (fun bb hbb k W W' hW ht ho => ?_) (fun k W hk hW => ?_)
  · rw [keepAt_map, keepAt_one _ 0 a (Nat.zero_le _), Nat.sub_zero, List.length_map] at this
    refine this.mono ?_
    rintro e w' ⟨v, rfl, hr, hv, hc, hx⟩
    have hc2 : Core w' mb { L with ms := L.ms.eraseIdx a } F := hc.fewer _ (List.eraseIdx_sublist _ _)
    have hc3 : Core (w'.setCell ⟨mb, 6, none⟩ v) mb { L with ms := L.ms.eraseIdx a, mv := v } F := hc2.setMv v fun g hg => h.fr.1 g (by rw [← hv]; exact hg)
    obtain ⟨x, c, e, q1, q2⟩ := row_shape hr
    refine ⟨v, rfl, ⟨hc3, ?_⟩, hx, hc2, ⟨x, _, c, e, q1, q2⟩⟩
    refine row_keep hr fun g hg => Below.heap_setCell _ _ _ _ ?_
    obtain ⟨cur, hcg⟩ := row_type hr g hg
    exact neT hcg hc2.top (by decide)
  · refine ⟨hW.1.off89 (by rw [ho.size]; exact Nat.le_refl _) fun k hk hne => ho.block k fun e => ?_, ?_⟩
    · subst e
      obtain ⟨cur, hc⟩ := ht
      exact hne cur hc
    · exact ⟨ho.os.trans hW.2.os, ho.tape.trans hW.2.tape, ho.output.trans hW.2.output, by rw [ho.size]; exact hW.2.size, fun i hi hf => (ho.block i fun e => hf (by rw [e]; exact h.fr.1 bb hbb)).trans (hW.2.block i hi hf)⟩
  · have hk1 : k < L.ms.length := by simpa using hk
    have e : (L.ms.map mPtr)[k] = .pointer (some ⟨L.ms[k].b, 0, none⟩) := by simp [mPtr]
    rw [e]
    refine (drop1_run b L.ms[k].b L.ms[a].b W ((hW.2.block b (heap_lt hb) hfb).trans hb) (hW.1.mails _ (List.getElem_mem hk1)).cell (hW.1.mails _ (List.getElem_mem ha)).cell).mono ?_
    rintro e w' ⟨rfl, rfl⟩
    refine ⟨?_, hW, fun _ _ => rfl⟩
    congr 2
    rw [Bool.eq_iff_iff, decide_eq_true_iff, decide_eq_true_iff]
    refine ⟨fun hbb => ?_, fun hka => by subst hka; rfl⟩
    rcases Nat.lt_trichotomy k a with f | f | f
    · exact absurd hbb (List.pairwise_iff_getElem.1 h.msep k a hk1 ha f).1
    · exact f
    · exact absurd hbb.symm (List.pairwise_iff_getElem.1 h.msep a k ha hk1 f).1

theorem drop_facts {w1 : World} {mb : Nat} {L' : Lq} {F : Nat → Prop} (hc : Core w1 mb L' F) :
    w1.cell? ⟨mb, 6, none⟩ = some L'.mv ∧ w1.frozen? ⟨mb, 6, none⟩ = false ∧ mb < w1.heap.size := by
  obtain ⟨-, -, -, -, -, -, c6, -⟩ := hc.tops
  exact ⟨c6, hc.free 6, hc.mblt⟩

set_option maxHeartbeats 8000000 in
set_option maxRecDepth 100000 in
theorem drop_run (mb : Nat) (L : Lq) (F : Nat → Prop) (id : ByteArray) (w : World) (hM : Mg w mb L F) :
    Calls Try.prog 37 #[.pointer (some ⟨mb, 0, none⟩), .string id] w fun e w' => e = .returned (.int .i64 (drop L.q id).1) ∧ StepPost mb F (drop L.q id).2 w w' := by
  have HF := hid (find_run mb L F id w hM)
  have HQ := (show Hid (∀ W, Ext (fun _ => False) w W → StepPost mb F L.q w W) from fun W hW => StepPost.quiet hM hW)
  unfold drop
  by_cases hi : mIdx L.q.ms id < L.ms.length
  · have e1 : foundV L (mIdx L.q.ms id) = .pointer (some ⟨L.ms[mIdx L.q.ms id].b, 0, none⟩) := by unfold foundV; rw [List.getElem?_eq_getElem hi]; rfl
    have e2 : L.q.ms[mIdx L.q.ms id]? = some L.ms[mIdx L.q.ms id].m := by
      show (L.ms.map (·.m))[mIdx L.q.ms id]? = _
      rw [List.getElem?_map, List.getElem?_eq_getElem hi]; rfl
    rw [e1] at HF
    rw [e2]
    dsimp only
    generalize mIdx L.q.ms id = a at hi HF e2 ⊢
    have HM := hid hM
    have HH := (show Hid (∀ W g, Ext (fun _ => False) w W → W.cell? ⟨g, 0, none⟩ = some (.int .i64 2) → Calls Try.prog 63 #[.pointer (some ⟨L.ms[a].b, 0, none⟩), .slice (some ⟨g, 0, none⟩) 1 1] W fun e w' => e = .returned (.bool (hasIn [2] L.ms[a].m.rs)) ∧ Ext (fun _ => False) W w') from fun W g hW hc => by
      refine has_run L.ms[a] (some ⟨g, 0, none⟩) 1 1 [2] W ((hM.quiet hW).mails _ (List.getElem_mem hi)) ⟨by omega, fun k hk => ⟨g, 0, rfl, ?_, ?_⟩⟩ rfl
      · rcases Nat.lt_or_ge g W.heap.size with f | f
        · exact f
        · simp [World.cell?, Array.getElem?_eq_none f] at hc
      · obtain rfl : k = 0 := by omega
        exact hc)
    clear e1 hM
    cases hw : hasIn [2] L.ms[a].m.rs with
    | true =>
      rw [hw] at HH
      simp only [if_true]
      clear e2
      go_enter Try.func37, Try.ntmps37
      go_wp2_with fail
      refine HF.out.mono ?_
      rintro e w1 ⟨rfl, hx1⟩
      have HX := hid hx1
      clear hx1 HF
      go_wp2_with fail
      refine (HH.out _ _ ((HX.out.alloc _).alloc _) (cell_new2' _ _ _ _)).mono ?_
      rintro e w2 ⟨rfl, hx2⟩
      have HX2 := hid (((HX.out.alloc _).alloc _).trans hx2)
      clear hx2 HX HH
      go_wp2_with fail
      go_ret
      exact ⟨rfl, HQ.out _ HX2.out⟩
    | false =>
      rw [hw] at HH
      simp only [Bool.false_eq_true, if_false]
      have HD := (show Hid (∀ W b, Ext (fun _ => False) w W → ¬ F b → W.heap[b]? = some (.cells #[.pointer (some ⟨L.ms[a].b, 0, none⟩)] 89 (0, 0)) → Calls Try.prog 64 #[L.mv, .func (.func 65) #[] #[.pointer (some ⟨b, 0, none⟩)]] W fun e w' => ∃ v, e = .returned v ∧ Mg (w'.setCell ⟨mb, 6, none⟩ v) mb { L with ms := L.ms.eraseIdx a, mv := v } F ∧ Ext F W w' ∧ Core w' mb { L with ms := L.ms.eraseIdx a } F ∧ (∃ x n c, v = .slice x n c ∧ n ≤ c ∧ c ≤ 9223372036854775807)) from fun W b hW hf hb =>
        dropL_run mb L F a hi b W (HM.out.quiet hW) hf hb)
      obtain ⟨xm, cm, hmv, xm1, xm2⟩ := row_shape HM.out.mrow
      rw [hmv] at HD
      clear e2 HQ
      go_enter Try.func37, Try.ntmps37
      go_wp2_with fail
      refine HF.out.mono ?_
      rintro e w1 ⟨rfl, hx1⟩
      have HX := hid hx1
      clear hx1 HF
      go_wp2_with fail
      refine (HH.out _ _ ((HX.out.alloc _).alloc _) (cell_new2' _ _ _ _)).mono ?_
      rintro e w2 ⟨rfl, hx2⟩
      have hx3 := (((HX.out.alloc _).alloc _).trans hx2)
      have hb1 : w2.heap[w1.heap.size]? = some (.cells #[.pointer (some ⟨L.ms[a].b, 0, none⟩)] 89 (0, 0)) := (hx2.block _ (by simp; omega) fun f => f).trans ((Below.heap_alloc _ _ _ (by simp)).trans (MapKept.heap_alloc w1 _).1)
      have hnf : ¬ F w1.heap.size := fun f => by have := HM.out.lt _ f; have := HX.out.size; omega
      have HD2 := hid (HD.out w2 w1.heap.size hx3 hnf hb1)
      obtain ⟨-, -, -, -, -, -, t6, -⟩ := (HM.out.quiet hx3).tops
      have hmbl := (HM.out.quiet hx3).mblt
      rw [hmv] at t6
      have HX3 := hid hx3
      clear hx2 HX HH HD hb1 hnf hx3
      go_wp2_with fail
      refine HD2.out.mono ?_
      rintro e w3 ⟨v, rfl, hm, hx, hc, x, n, c, rfl, q1, q2⟩
      obtain ⟨d6, df, dl⟩ := drop_facts hc
      have HP : Hid (StepPost mb F { L.q with ms := L.q.ms.eraseIdx a } w (w3.setCell ⟨mb, 6, none⟩ (.slice x n c))) := by
        refine ⟨_, F, hm, fun k hk => .inl hk, ((HX3.out.mono fun _ f => f.elim).trans hx).setCell mb 6 _ HM.out.fb.1, ?_⟩
        simp [Lq.q, List.eraseIdx_eq_take_drop_succ, List.map_take, List.map_drop]
      clear hm hx hc HD2 HX3 t6 hmbl
      go_wp2_with fail
      go_ret
      exact ⟨rfl, HP.out⟩
  · have e1 : foundV L (mIdx L.q.ms id) = .pointer none := by unfold foundV; rw [List.getElem?_eq_none (by omega)]; rfl
    have e2 : L.q.ms[mIdx L.q.ms id]? = none := by
      show (L.ms.map (·.m))[mIdx L.q.ms id]? = _
      rw [List.getElem?_map, List.getElem?_eq_none (by omega)]; rfl
    rw [e1] at HF
    rw [e2]
    dsimp only
    clear hM e1 e2 hi
    go_enter Try.func37, Try.ntmps37
    go_wp2_with fail
    refine HF.out.mono ?_
    rintro e w1 ⟨rfl, hx1⟩
    have HX := hid hx1
    clear hx1 HF
    go_wp2_with fail
    go_ret
    exact ⟨rfl, HQ.out _ (HX.out.trans ((Ext.refl _ _).alloc _))⟩
/-! ### The same? -/
theorem sameints_run (x y : Option Addr) (n m c d : Nat) (f g : Nat → Int) (w : World) (h : IntsAt w x n f) (k : IntsAt w y m g) :
    Calls Try.prog 40 #[.slice x n c, .slice y m d] w (QuietPost (.bool (decide (n = m ∧ ∀ i, i < n → f i = g i))) w) := by
  have hn := h.1
  have hm := k.1
  obtain ⟨bb, hbb⟩ : ∃ bb, bb = decide (n = m ∧ ∀ i, i < n → f i = g i) := ⟨_, rfl⟩
  rw [← hbb]
  have HB : Hid ((n = m → (∀ i, i < n → f i = g i) → bb = true) ∧ (∀ i, i < n → f i ≠ g i → bb = false) ∧ (n ≠ m → bb = false)) := by
    show _ ∧ _ ∧ _
    subst hbb
    exact ⟨fun e q => decide_eq_true ⟨e, q⟩, fun i hi he => decide_eq_false fun q => he (q.2 i hi), fun e => decide_eq_false fun q => e q.1⟩
  clear hbb
  by_cases hnm : n = m
  · subst hnm
    have H := hid h
    have K := hid k
    clear h k
    go_enter Try.func40, Try.ntmps40
    go_wp2_with fail
    go_loopg [5] n (fun gg ix wr => ∃ i : Nat, ix = .int .i64 i ∧ i + gg = n ∧ Hid ((∀ j, j < i → f j = g j) ∧ Ext (fun _ => False) w wr))
    case atStart => exact ⟨0, rfl, by omega, fun j hj => absurd hj (Nat.not_lt_zero _), Ext.refl _ _⟩
    case round =>
      obtain ⟨i, rfl, hi, HI⟩ := hrel
      have Hi := hid hi
      have hin : i ≤ n := by omega
      clear hi
      by_cases hlt : i < n
      · obtain ⟨b1, o1, rfl, hb1, hc1⟩ := H.out.2 i hlt
        obtain ⟨b2, o2, rfl, hb2, hc2⟩ := K.out.2 i hlt
        have c1 := (HI.out.2.cell hb1 (fun f => f) _).trans hc1
        have c2 := (HI.out.2.cell hb2 (fun f => f) _).trans hc2
        clear hc1 hc2
        by_cases he : f i = g i
        · have hne : (f i != g i) = false := by simp [he]
          rw [he] at c1
          clear hne
          go_wp2_with fail
          go_quiet (fail)
          go_wp2_with fail
          have HJ := (show Hid ((∀ j, j < i + 1 → f j = g j) ∧ Ext (fun _ => False) w (wr.drewN nq)) from ⟨fun j hj => by
            rcases Nat.lt_or_ge j i with q | q
            · exact HI.out.1 j q
            · obtain rfl : j = i := by omega
              exact he, HI.out.2.drewN nq⟩)
          go_roundg (gk - 1)
          case measure => have := Hi.out; omega
          case rel => exact ⟨i + 1, by go_num, by have := Hi.out; omega, HJ.out⟩
        · have hne : (f i == g i) = false := by simpa using he
          have hd : bb = false := HB.out.2.1 i hlt he
          have Hd := hid hd
          clear hd
          go_wp2_with fail
          go_quiet (fail)
          go_wp2_with fail
          go_ret
          exact ⟨by rw [Hd.out]; rfl, HI.out.2.drewN _⟩
      · obtain rfl : i = n := by omega
        have hd : bb = true := HB.out.1 (by trivial) HI.out.1
        have Hd := hid hd
        clear hd
        go_wp2_with fail
        go_ret
        exact ⟨by rw [Hd.out]; rfl, HI.out.2⟩
  · have hd : bb = false := HB.out.2.2 hnm
    rw [hd]
    have hne : ((n : Int) == (m : Int)) = false := by simpa using (show ¬ (n : Int) = m by omega)
    clear h k
    go_enter Try.func40, Try.ntmps40
    go_wp2_with fail
    go_ret
    exact ⟨rfl, Ext.refl _ _⟩

def sameJ (a b : Jb) : Bool := decide (a.id = b.id) && decide (a.dest = b.dest) && decide (a.rs = b.rs)
def jV (j : Jb) (y : Option Addr) (c : Nat) : Value := .agg #[.string j.id, .string j.dest, .slice y j.rs.length c]

theorem samejob_run (a b : Jb) (x y : Option Addr) (c d : Nat) (w : World) (h : IntsL w x a.rs) (k : IntsL w y b.rs) :
    Calls Try.prog 35 #[jV a x c, jV b y d] w (QuietPost (.bool (sameJ a b)) w) := by
  have hl1 := h.1
  have hl2 := k.1
  have hs : decide (a.rs.length = b.rs.length ∧ ∀ i, i < a.rs.length → ((a.rs.getD i 0 : Nat) : Int) = ((b.rs.getD i 0 : Nat) : Int)) = decide (a.rs = b.rs) := by
    rw [Bool.eq_iff_iff, decide_eq_true_iff, decide_eq_true_iff]
    refine ⟨fun ⟨e, q⟩ => List.ext_getElem e fun i h1 h2 => ?_, fun e => by rw [e]; exact ⟨rfl, fun _ _ => rfl⟩⟩
    have := q i h1
    simp [List.getD_eq_getElem?_getD, h1, h2] at this
    omega
  have HS := (show Hid (∀ W, Ext (fun _ => False) w W → Calls Try.prog 40 #[.slice x a.rs.length c, .slice y b.rs.length d] W (QuietPost (.bool (decide (a.rs = b.rs))) W)) from fun W hW => by
    have := sameints_run x y a.rs.length b.rs.length c d _ _ W (h.quiet hW) (k.quiet hW)
    rw [hs] at this
    exact this)
  have hxa : Ext (fun _ => False) w ((w.alloc (.cells #[.string a.id, .string a.dest, .slice x a.rs.length c] 49)).alloc (.cells #[.string b.id, .string b.dest, .slice y b.rs.length d] 49)) := ((Ext.refl _ _).alloc _).alloc _
  have HX := hid hxa
  unfold sameJ jV
  clear h k hs hxa
  rw [← tl_beq, ← tl_beq]
  generalize decide (a.rs = b.rs) = bb at HS ⊢
  generalize a.id = ai at HX ⊢
  generalize b.id = bi at HX ⊢
  generalize a.dest = ad at HX ⊢
  generalize b.dest = bd at HX ⊢
  generalize a.rs.length = al at HX HS hl1 ⊢
  generalize b.rs.length = bl at HX HS hl2 ⊢
  cases h1 : (ai.toList == bi.toList) with
  | false =>
    simp only [Bool.false_and]
    go_enter Try.func35, Try.ntmps35
    go_wp2_with fail
    go_ret
    exact ⟨rfl, HX.out⟩
  | true =>
    cases h2 : (ad.toList == bd.toList) with
    | false =>
      simp only [Bool.false_and, Bool.and_false]
      go_enter Try.func35, Try.ntmps35
      go_wp2_with fail
      go_ret
      exact ⟨rfl, HX.out⟩
    | true =>
      simp only [Bool.true_and]
      go_enter Try.func35, Try.ntmps35
      go_wp2_with fail
      refine (HS.out _ HX.out).mono ?_
      rintro e w1 ⟨rfl, hx1⟩
      have HX1 := hid (HX.out.trans hx1)
      clear hx1 HX HS
      go_wp2_with fail
      go_ret
      exact ⟨rfl, HX1.out⟩
end Go.Proofs.Ytnakafmlenngnaa.Qm
