/- Equality of addresses, of ranges; a region whose calls may make memory, walked in the text's order. -/
import Derived.Test.YtpmmaickjolimaaGreatDoorK03
namespace Go.Proofs.YtpmmaickjolimaaGreatDoor.Ci
open Go.RowKit

set_option maxHeartbeats 4000000 in
set_option maxRecDepth 100000 in
theorem eq_arr16 (x0 x1 x2 x3 x4 x5 x6 x7 x8 x9 x10 x11 x12 x13 x14 x15 y0 y1 y2 y3 y4 y5 y6 y7 y8 y9 y10 y11 y12 y13 y14 y15 : Nat) (w : World) : (Op.equalIn 10000 23 (.agg #[.int .u8 (x0 : Nat), .int .u8 (x1 : Nat), .int .u8 (x2 : Nat), .int .u8 (x3 : Nat), .int .u8 (x4 : Nat), .int .u8 (x5 : Nat), .int .u8 (x6 : Nat), .int .u8 (x7 : Nat), .int .u8 (x8 : Nat), .int .u8 (x9 : Nat), .int .u8 (x10 : Nat), .int .u8 (x11 : Nat), .int .u8 (x12 : Nat), .int .u8 (x13 : Nat), .int .u8 (x14 : Nat), .int .u8 (x15 : Nat)]) (.agg #[.int .u8 (y0 : Nat), .int .u8 (y1 : Nat), .int .u8 (y2 : Nat), .int .u8 (y3 : Nat), .int .u8 (y4 : Nat), .int .u8 (y5 : Nat), .int .u8 (y6 : Nat), .int .u8 (y7 : Nat), .int .u8 (y8 : Nat), .int .u8 (y9 : Nat), .int .u8 (y10 : Nat), .int .u8 (y11 : Nat), .int .u8 (y12 : Nat), .int .u8 (y13 : Nat), .int .u8 (y14 : Nat), .int .u8 (y15 : Nat)])).run Tryz.prog w = .ok (decide ([x0, x1, x2, x3, x4, x5, x6, x7, x8, x9, x10, x11, x12, x13, x14, x15] = [y0, y1, y2, y3, y4, y5, y6, y7, y8, y9, y10, y11, y12, y13, y14, y15])) w := by
  have u5 := Tryz.underlying5
  have a5 := Tryz.isAgg5
  have z5 := Tryz.sizeOf5
  rw [show (10000 : Nat) = 9999 + 1 from rfl, Op.equalIn]
  simp only [Sem.run_bind, run_underlying Tryz.underlying23, Result.andThen_ok]
  simp only [Std.Legacy.Range.forIn_eq_forIn_range', Std.Legacy.Range.size, Nat.sub_zero, Nat.add_sub_cancel, Nat.div_one, List.range'_succ, List.range'_zero, List.forIn_cons, List.forIn_nil]
  go_simp
  by_cases h0 : x0 = y0
  case neg => simp [h0]; intros; omega
  subst h0
  by_cases h1 : x1 = y1
  case neg => simp [h1]; intros; omega
  subst h1
  by_cases h2 : x2 = y2
  case neg => simp [h2]; intros; omega
  subst h2
  by_cases h3 : x3 = y3
  case neg => simp [h3]; intros; omega
  subst h3
  by_cases h4 : x4 = y4
  case neg => simp [h4]; intros; omega
  subst h4
  by_cases h5 : x5 = y5
  case neg => simp [h5]; intros; omega
  subst h5
  by_cases h6 : x6 = y6
  case neg => simp [h6]; intros; omega
  subst h6
  by_cases h7 : x7 = y7
  case neg => simp [h7]; intros; omega
  subst h7
  by_cases h8 : x8 = y8
  case neg => simp [h8]; intros; omega
  subst h8
  by_cases h9 : x9 = y9
  case neg => simp [h9]; intros; omega
  subst h9
  by_cases h10 : x10 = y10
  case neg => simp [h10]; intros; omega
  subst h10
  by_cases h11 : x11 = y11
  case neg => simp [h11]; intros; omega
  subst h11
  by_cases h12 : x12 = y12
  case neg => simp [h12]; intros; omega
  subst h12
  by_cases h13 : x13 = y13
  case neg => simp [h13]; intros; omega
  subst h13
  by_cases h14 : x14 = y14
  case neg => simp [h14]; intros; omega
  subst h14
  by_cases h15 : x15 = y15
  case neg => simp [h15]; intros; omega
  subst h15
  simp

theorem eq_arr (l m : List Nat) (hl : l.length = 16) (hm : m.length = 16) (w : World) : (Op.equalIn 10000 23 (.agg (l.map u8V).toArray) (.agg (m.map u8V).toArray)).run Tryz.prog w = .ok (decide (l = m)) w := by
  match l, hl, m, hm with
  | [x0, x1, x2, x3, x4, x5, x6, x7, x8, x9, x10, x11, x12, x13, x14, x15], _, [y0, y1, y2, y3, y4, y5, y6, y7, y8, y9, y10, y11, y12, y13, y14, y15], _ => exact eq_arr16 x0 x1 x2 x3 x4 x5 x6 x7 x8 x9 x10 x11 x12 x13 x14 x15 y0 y1 y2 y3 y4 y5 y6 y7 y8 y9 y10 y11 y12 y13 y14 y15 w

/-- Cells written over, from a place on. -/
theorem heap_setCells (b : Nat) (t : TypeId) : ∀ (vs : List Value) (o : Nat) (w : World) (cs : List Value), w.heap[b]? = some (.cells cs.toArray t (0, 0)) → o + vs.length ≤ cs.length →
    (w.setCells b o vs).heap[b]? = some (.cells (cs.take o ++ vs ++ cs.drop (o + vs.length)).toArray t (0, 0))
  | [], o, w, cs, h, _ => by
    rw [World.setCells, h]
    simp
  | v :: vs, o, w, cs, h, hl => by
    rw [List.length_cons] at hl
    have h2 : (w.setCell ⟨b, o, none⟩ v).heap[b]? = some (.cells (cs.set o v).toArray t (0, 0)) := by
      rw [heap_setCell_same w _ _ _ _ _ h, List.setIfInBounds_toArray]
    rw [World.setCells, heap_setCells b t vs (o + 1) _ (cs.set o v) h2 (by rw [List.length_set]; omega)]
    have e1 : (cs.set o v).take (o + 1) = cs.take o ++ [v] := by
      rw [List.take_set, List.take_succ_eq_append_getElem (by omega), List.set_append_right _ _ (by rw [List.length_take]; omega)]
      simp [List.length_take, Nat.min_eq_left (by omega : o ≤ cs.length)]
    have e2 : (cs.set o v).drop (o + 1 + vs.length) = cs.drop (o + (v :: vs).length) := by
      rw [List.drop_set_of_lt (by omega), List.length_cons]
      congr 1; omega
    rw [e1, e2]
    simp
theorem heap_setCells_whole {b : Nat} {t : TypeId} {vs cs : List Value} {w : World} (h : w.heap[b]? = some (.cells cs.toArray t (0, 0))) (hl : vs.length = cs.length) :
    (w.setCells b 0 vs).heap[b]? = some (.cells vs.toArray t (0, 0)) := by
  rw [heap_setCells b t vs 0 w cs h (by omega), hl]
  simp
theorem heap_setCells_other (b k : Nat) (hk : k ≠ b) : ∀ (vs : List Value) (o : Nat) (w : World), (w.setCells b o vs).heap[k]? = w.heap[k]?
  | [], _, _ => rfl
  | v :: vs, o, w => by rw [World.setCells, heap_setCells_other b k hk vs, heap_setCell_other _ _ _ _ hk]
theorem there_of {w : World} {b o n : Nat} {t : TypeId} {cs : List Value} (h : w.heap[b]? = some (.cells cs.toArray t (0, 0))) (hl : o + n ≤ cs.length) : w.there b o n := fun j hj => by
  constructor
  · simp [World.cell?, h, (by omega : o + j < cs.length)]
  · simp [World.frozen?, h]
theorem range_of {w : World} {b o : Nat} {t : TypeId} {cs vs : List Value} (h : w.heap[b]? = some (.cells cs.toArray t (0, 0))) (hl : ∀ j v, vs[j]? = some v → cs[o + j]? = some v) : w.rangeAt b o vs := fun j v hv => by
  simp [World.cell?, h, hl j v hv]

theorem alloc_second (w : World) (o p : Obj) : ((w.alloc o).alloc p).heap[w.heap.size + 1]? = some p := by
  have := heap_alloc_new (w.alloc o) p
  rw [World.size_alloc] at this
  exact this
theorem size_setCells (b : Nat) : ∀ (vs : List Value) (o : Nat) (w : World), (w.setCells b o vs).heap.size = w.heap.size
  | [], _, _ => rfl
  | v :: vs, o, w => by rw [World.setCells, size_setCells b vs, World.size_setCell]

/-- A world behind w, in which all that was there is as it was. -/
structure Aft (w : World) where
  wd : World
  bel : Bel w wd
instance (w : World) : Inhabited (Aft w) := ⟨⟨w, Bel.refl w⟩⟩
theorem wp_region_aft {P : Program} {id : Nat} {Q : Exit → Act → World → Prop} {a : Act} {w : World} {l : List Oper} (hm : P.follows .mixedOrders = true) (hB : Region.lexB .any l.toArray = true)
    (h : wpQuiet P l.toArray (fun w' => ∃ p : Aft w, w' = p.wd) (fun a' => ∀ w', (∃ p : Aft w, w' = p.wd) → Q .normal a' w') l a) : (Code.region id l.toArray true).wp P Q a w :=
  wp_region_quiet (C := fun w' => ∃ p : Aft w, w' = p.wd) hm hB ⟨⟨w.drew, (Bel.refl w).drew⟩, rfl⟩ (by simpa using h)
theorem Calls.aft {P : Program} {f : FuncId} {args : Array Value} {w : World} {p : Aft w} {v : Value} (h : Calls P f args p.wd fun e w' => e = .returned v ∧ Bel p.wd w') :
    Calls P f args p.wd fun e w'' => e = .returned v ∧ ∃ q : Aft w, w'' = q.wd :=
  h.mono fun _ w' ⟨he, hb⟩ => ⟨he, ⟨w', p.bel.trans hb⟩, rfl⟩
theorem quiet_load_aft {P : Program} {ops : Array Oper} {w : World} {Q : Act → Prop} {op : Oper} {rest : List Oper} {a : Act} (ty : TypeId) (x : Operand) (ho : op.op = .load ty x)
    (b o : Nat) (hx : a.eval x = .pointer (some ⟨b, o, none⟩)) (cs : List Value) (d : TypeDesc) (hS : ∀ p : Aft w, p.wd.rangeAt b o cs)
    (hu : P.underlying ty = some d) (hd : d.isRow = true) (hi : (P.info? ty).map (·.size) = some cs.length) (hw : Region.wanted op (yielded ops a.tmps) = true)
    (h : ∀ a', a' = a.put op.dst (.agg cs.toArray) → wpQuiet P ops (fun w' => ∃ p : Aft w, w' = p.wd) Q rest a') : wpQuiet P ops (fun w' => ∃ p : Aft w, w' = p.wd) Q (op :: rest) a := by
  show if Region.wanted op (yielded ops a.tmps) then _ else _
  rw [if_pos hw]
  refine ⟨_, ?_, h _ rfl⟩
  rintro w' ⟨p, rfl⟩
  unfold Oper.quietAt execOp
  simp only [ho, hx, Instr.loadAt, Instr.sureAddr, Sem.run_bind, Sem.run_pure, Result.andThen_ok, run_loadVar_mid p.wd b o ty cs d (hS p) hu hd hi]
  exact ⟨rfl, rfl⟩
end Go.Proofs.YtpmmaickjolimaaGreatDoor.Ci

/- Right, Within. -/
namespace Go.Proofs.YtpmmaickjolimaaGreatDoor.Ci
open Go.RowKit

theorem size_run (b : Bool) (w : World) : Calls Tryz.prog 73 #[.bool b] w fun e w' => e = .returned (.int .i64 (sizeQ b : Nat)) ∧ Bel w w' := by
  cases b with
  | false =>
    go_enter Tryz.func73, Tryz.ntmps73
    go_wp2_with fail
    go_ret
    exact ⟨rfl, Bel.refl _⟩
  | true =>
    go_enter Tryz.func73, Tryz.ntmps73
    go_wp2_with fail
    go_ret
    exact ⟨rfl, Bel.refl _⟩

/-- A range that lies in a new block, in every world from there on. -/
theorem Aft.cell {w : World} (p : Aft w) {b k : Nat} {v : Value} {cs : Array Value} {t : TypeId} (h : w.heap[b]? = some (.cells cs t (0, 0))) (hv : cs[k]? = some v) : p.wd.cell? ⟨b, k, none⟩ = some v := by
  simp [World.cell?, p.bel.heap h, hv]
theorem netC_six (n : Nt) : (netC n).toArray[0]? = some (.bool n.six) := by simp [netC]
theorem netC_bits (n : Nt) : (netC n).toArray[1]? = some (.int .i64 n.bits) := by simp [netC]
theorem netC_addr (n : Nt) : (n.addr.map u8V) = (netC n).drop 2 := by simp [netC]
theorem Aft.range {w : World} (p : Aft w) {b : Nat} {n : Nt} {t : TypeId} (h : w.heap[b]? = some (.cells (netC n).toArray t (0, 0))) : p.wd.rangeAt b 2 (n.addr.map u8V) := fun j v hv => by
  refine p.cell h ?_
  simpa [netC, Nat.add_comm] using hv

theorem Aft.whole {w : World} (p : Aft w) {b : Nat} {n : Nt} {t : TypeId} (h : w.heap[b]? = some (.cells (netC n).toArray t (0, 0))) : p.wd.rangeAt b 0 (netC n) := fun j v hv => by
  refine p.cell h ?_
  simpa using hv

set_option maxHeartbeats 1000000 in
set_option maxRecDepth 100000 in
theorem right_run (n : Nt) (hn : n.Fits) (w : World) : Calls Tryz.prog 36 #[netV n] w fun e w' => e = .returned (.bool (rightQ n)) ∧ Bel w w' := by
  have HX := hid ((Bel.refl w).alloc (.cells (netC n).toArray 25))
  have hb := heap_alloc_new w (.cells (netC n).toArray 25)
  have c0 : ∀ p : Aft (w.alloc (.cells (netC n).toArray 25)), p.wd.cell? ⟨w.heap.size, 0, none⟩ = some (.bool n.six) := fun p => p.cell hb (netC_six n)
  have c1 : ∀ p : Aft (w.alloc (.cells (netC n).toArray 25)), p.wd.cell? ⟨w.heap.size, 1, none⟩ = some (.int .i64 n.bits) := fun p => p.cell hb (netC_bits n)
  have HR := hid (fun p : Aft (w.alloc (.cells (netC n).toArray 25)) => p.range hb)
  have hl := hn.len
  have hq : rightQ n = (decide (0 ≤ n.bits) && decide (n.bits ≤ (sizeQ n.six : Nat)) && decide (cutL n.addr n.bits = n.addr)) := rfl
  have hz := hid (show (Tryz.prog.info? 23).map (·.size) = some (n.addr.map u8V).length by rw [List.length_map, hl]; kernel_rfl)
  have hby := hid hn.by_
  have h128 : sizeQ n.six ≤ 128 := by unfold sizeQ; split <;> omega
  have hcl := eq_arr (cutL n.addr n.bits) n.addr (by simp [cutL, hl]) hl
  rw [hq]
  clear hb hn hq
  by_cases h0 : 0 ≤ n.bits
  · have d0 : decide (0 ≤ n.bits) = true := decide_eq_true h0
    by_cases h1 : n.bits ≤ (sizeQ n.six : Nat)
    · have d1 : decide (n.bits ≤ (sizeQ n.six : Nat)) = true := decide_eq_true h1
      have HC := (show Hid (∀ W, Calls Tryz.prog 74 #[.agg (n.addr.map u8V).toArray, .int .i64 n.bits] W fun e w' => e = .returned (.agg ((cutL n.addr n.bits).map u8V).toArray) ∧ Bel W w') from
        fun W => cut_run n.addr n.bits W hl hby.out h0 (by omega))
      rw [d0, d1]
      unfold netV
      go_enter Tryz.func36, Tryz.ntmps36
      go_wp2_with fail
      refine wp_region_aft (by kernel_rfl) (by kernel_rfl) ?_
      repeat (first
        | go_big_quiet_skip
        | (refine quiet_load_aft 23 _ rfl w.heap.size 2 rfl (n.addr.map u8V) (.array 16 5) HR.out Tryz.underlying23 rfl hz.out (by rfl) ?_; intro a' ha'; simp only [Act.put, Array.setIfInBounds, List.size_toArray, go_sem] at ha'; subst ha')
        | go_big_quiet_step (first
          | (go_at_call 73; exact Calls.aft (size_run n.six _))
          | (go_at_call 74; exact Calls.aft (HC.out _)))
        | quiet_step (first
          | (go_at_call 73; exact Calls.aft (size_run n.six _))
          | (go_at_call 74; exact Calls.aft (HC.out _))))
      refine wpQuiet_nil ?_
      rintro _ ⟨p, rfl⟩
      go_wp2_with fail
      go_ret
      exact ⟨rfl, HX.out.trans p.bel⟩
    · have d1 : decide (n.bits ≤ (sizeQ n.six : Nat)) = false := decide_eq_false h1
      rw [d0, d1]
      unfold netV
      go_enter Tryz.func36, Tryz.ntmps36
      go_wp2_with fail
      refine wp_region_aft (by kernel_rfl) (by kernel_rfl) ?_
      repeat (go_big_quiet_step (first
          | (go_at_call 73; exact Calls.aft (size_run n.six _))))
      refine wpQuiet_nil ?_
      rintro _ ⟨p, rfl⟩
      go_wp2_with fail
      go_ret
      exact ⟨rfl, HX.out.trans p.bel⟩
  · have d0 : decide (0 ≤ n.bits) = false := decide_eq_false h0
    rw [d0]
    unfold netV
    go_enter Tryz.func36, Tryz.ntmps36
    go_wp2_with fail
    refine wp_region_aft (by kernel_rfl) (by kernel_rfl) ?_
    repeat (go_big_quiet_step (fail))
    refine wpQuiet_nil ?_
    rintro _ ⟨p, rfl⟩
    go_wp2_with fail
    go_ret
    exact ⟨rfl, HX.out.trans p.bel⟩

theorem rightQ_bits {n : Nt} (h : rightQ n = true) : 0 ≤ n.bits ∧ n.bits ≤ 128 := by
  unfold rightQ sizeQ at h
  simp only [Bool.and_eq_true, decide_eq_true_eq] at h
  refine ⟨h.1.1, ?_⟩
  have := h.1.2
  split at this <;> omega

set_option maxHeartbeats 1000000 in
set_option maxRecDepth 100000 in
theorem within_run (n m : Nt) (hn : n.Fits) (hm : m.Fits) (w : World) : Calls Tryz.prog 29 #[netV n, netV m] w fun e w' => e = .returned (.bool (withinQ n m)) ∧ Bel w w' := by
  obtain ⟨W, hW⟩ : ∃ W, W = (w.alloc (.cells (netC n).toArray 25)).alloc (.cells (netC m).toArray 25) := ⟨_, rfl⟩
  have HX := hid (show Bel w W by rw [hW]; exact ((Bel.refl w).alloc _).alloc _)
  have hb : W.heap[w.heap.size]? = some (.cells (netC n).toArray 25 (0, 0)) := by
    rw [hW]
    exact (Below.heap_alloc _ _ _ (by simp)).trans (heap_alloc_new w _)
  have hc : W.heap[w.heap.size + 1]? = some (.cells (netC m).toArray 25 (0, 0)) := by
    have := heap_alloc_new (w.alloc (.cells (netC n).toArray 25)) (.cells (netC m).toArray 25)
    rw [World.size_alloc] at this
    rw [hW]
    exact this
  have b0 : ∀ p : Aft W, p.wd.cell? ⟨w.heap.size, 0, none⟩ = some (.bool n.six) := fun p => p.cell hb (netC_six n)
  have b1 : ∀ p : Aft W, p.wd.cell? ⟨w.heap.size, 1, none⟩ = some (.int .i64 n.bits) := fun p => p.cell hb (netC_bits n)
  have c0 : ∀ p : Aft W, p.wd.cell? ⟨w.heap.size + 1, 0, none⟩ = some (.bool m.six) := fun p => p.cell hc (netC_six m)
  have c1 : ∀ p : Aft W, p.wd.cell? ⟨w.heap.size + 1, 1, none⟩ = some (.int .i64 m.bits) := fun p => p.cell hc (netC_bits m)
  have hl := hn.len
  have hl2 := hm.len
  have HR := hid (fun p : Aft W => p.range hb)
  have HS := hid (fun p : Aft W => p.range hc)
  have HN := hid (fun p : Aft W => p.whole hb)
  have HM := hid (fun p : Aft W => p.whole hc)
  have hz := hid (show (Tryz.prog.info? 23).map (·.size) = some (n.addr.map u8V).length by rw [List.length_map, hl]; kernel_rfl)
  have hz2 := hid (show (Tryz.prog.info? 23).map (·.size) = some (m.addr.map u8V).length by rw [List.length_map, hl2]; kernel_rfl)
  have hy := hid (show (Tryz.prog.info? 25).map (·.size) = some (netC n).length by simp only [netC, List.length_cons, List.length_map, hl]; kernel_rfl)
  have hy2 := hid (show (Tryz.prog.info? 25).map (·.size) = some (netC m).length by simp only [netC, List.length_cons, List.length_map, hl2]; kernel_rfl)
  have HF := hid (And.intro hn hm)
  have RN := (show Hid (∀ W, Calls Tryz.prog 36 #[.agg (netC n).toArray] W fun e w' => e = .returned (.bool (rightQ n)) ∧ Bel W w') from fun W => right_run n hn W)
  have RM := (show Hid (∀ W, Calls Tryz.prog 36 #[.agg (netC m).toArray] W fun e w' => e = .returned (.bool (rightQ m)) ∧ Bel W w') from fun W => right_run m hm W)
  have hcl := eq_arr (cutL n.addr m.bits) m.addr (by simp [cutL, hl]) hl2
  have HC := (show Hid (rightQ m = true → ∀ W, Calls Tryz.prog 74 #[.agg (n.addr.map u8V).toArray, .int .i64 m.bits] W fun e w' => e = .returned (.agg ((cutL n.addr m.bits).map u8V).toArray) ∧ Bel W w') from
    fun h W => cut_run n.addr m.bits W hl HF.out.1.by_ (rightQ_bits h).1 (rightQ_bits h).2)
  have hq : withinQ n m = (rightQ n && rightQ m && (n.six == m.six) && decide (m.bits ≤ n.bits) && decide (cutL n.addr m.bits = m.addr)) := rfl
  rw [hq]
  unfold netV
  clear hb hc hn hm hq
  go_enter Tryz.func29, Tryz.ntmps29
  go_wp2_with fail
  rw [← hW]
  clear hW
  generalize h1r : rightQ n = r1 at RN
  generalize h2r : rightQ m = r2 at RM HC
  clear hl hl2
  cases r1 with
  | false =>
    refine wp_region_aft (by kernel_rfl) (by kernel_rfl) ?_
    repeat (first
      | go_big_quiet_skip
      | (refine quiet_load_aft 25 _ rfl w.heap.size 0 rfl (netC n) _ HN.out Tryz.underlying25 rfl hy.out (by rfl) ?_; intro a' ha'; simp only [Act.put, Array.setIfInBounds, List.size_toArray, go_sem] at ha'; subst ha')
      | (refine quiet_load_aft 25 _ rfl (w.heap.size + 1) 0 rfl (netC m) _ HM.out Tryz.underlying25 rfl hy2.out (by rfl) ?_; intro a' ha'; simp only [Act.put, Array.setIfInBounds, List.size_toArray, go_sem] at ha'; subst ha')
      | (refine quiet_load_aft 23 _ rfl w.heap.size 2 rfl (n.addr.map u8V) _ HR.out Tryz.underlying23 rfl hz.out (by rfl) ?_; intro a' ha'; simp only [Act.put, Array.setIfInBounds, List.size_toArray, go_sem] at ha'; subst ha')
      | (refine quiet_load_aft 23 _ rfl (w.heap.size + 1) 2 rfl (m.addr.map u8V) _ HS.out Tryz.underlying23 rfl hz2.out (by rfl) ?_; intro a' ha'; simp only [Act.put, Array.setIfInBounds, List.size_toArray, go_sem] at ha'; subst ha')
      | go_big_quiet_step (first | (go_at_call_of 36 (Value.agg (netC n).toArray); exact Calls.aft (RN.out _)) | (go_at_call_of 36 (Value.agg (netC m).toArray); exact Calls.aft (RM.out _)) | (go_at_call 74; exact Calls.aft (HC.out rfl _)))
      | quiet_step (first | (go_at_call_of 36 (Value.agg (netC n).toArray); exact Calls.aft (RN.out _)) | (go_at_call_of 36 (Value.agg (netC m).toArray); exact Calls.aft (RM.out _)) | (go_at_call 74; exact Calls.aft (HC.out rfl _))))
    refine wpQuiet_nil ?_
    rintro _ ⟨p, rfl⟩
    go_wp2_with fail
    go_ret
    exact ⟨by first | rfl | (rw [h1r]; rfl), HX.out.trans p.bel⟩
  | true =>
    cases r2 with
    | false =>
      refine wp_region_aft (by kernel_rfl) (by kernel_rfl) ?_
      repeat (first
        | go_big_quiet_skip
        | (refine quiet_load_aft 25 _ rfl w.heap.size 0 rfl (netC n) _ HN.out Tryz.underlying25 rfl hy.out (by rfl) ?_; intro a' ha'; simp only [Act.put, Array.setIfInBounds, List.size_toArray, go_sem] at ha'; subst ha')
        | (refine quiet_load_aft 25 _ rfl (w.heap.size + 1) 0 rfl (netC m) _ HM.out Tryz.underlying25 rfl hy2.out (by rfl) ?_; intro a' ha'; simp only [Act.put, Array.setIfInBounds, List.size_toArray, go_sem] at ha'; subst ha')
        | (refine quiet_load_aft 23 _ rfl w.heap.size 2 rfl (n.addr.map u8V) _ HR.out Tryz.underlying23 rfl hz.out (by rfl) ?_; intro a' ha'; simp only [Act.put, Array.setIfInBounds, List.size_toArray, go_sem] at ha'; subst ha')
        | (refine quiet_load_aft 23 _ rfl (w.heap.size + 1) 2 rfl (m.addr.map u8V) _ HS.out Tryz.underlying23 rfl hz2.out (by rfl) ?_; intro a' ha'; simp only [Act.put, Array.setIfInBounds, List.size_toArray, go_sem] at ha'; subst ha')
        | go_big_quiet_step (first | (go_at_call_of 36 (Value.agg (netC n).toArray); exact Calls.aft (RN.out _)) | (go_at_call_of 36 (Value.agg (netC m).toArray); exact Calls.aft (RM.out _)) | (go_at_call 74; exact Calls.aft (HC.out rfl _)))
        | quiet_step (first | (go_at_call_of 36 (Value.agg (netC n).toArray); exact Calls.aft (RN.out _)) | (go_at_call_of 36 (Value.agg (netC m).toArray); exact Calls.aft (RM.out _)) | (go_at_call 74; exact Calls.aft (HC.out rfl _))))
      refine wpQuiet_nil ?_
      rintro _ ⟨p, rfl⟩
      go_wp2_with fail
      go_ret
      exact ⟨by first | rfl | (rw [h1r, h2r]; rfl), HX.out.trans p.bel⟩
    | true =>
      cases h6 : n.six == m.six with
      | false =>
        refine wp_region_aft (by kernel_rfl) (by kernel_rfl) ?_
        repeat (first
          | go_big_quiet_skip
          | (refine quiet_load_aft 25 _ rfl w.heap.size 0 rfl (netC n) _ HN.out Tryz.underlying25 rfl hy.out (by rfl) ?_; intro a' ha'; simp only [Act.put, Array.setIfInBounds, List.size_toArray, go_sem] at ha'; subst ha')
          | (refine quiet_load_aft 25 _ rfl (w.heap.size + 1) 0 rfl (netC m) _ HM.out Tryz.underlying25 rfl hy2.out (by rfl) ?_; intro a' ha'; simp only [Act.put, Array.setIfInBounds, List.size_toArray, go_sem] at ha'; subst ha')
          | (refine quiet_load_aft 23 _ rfl w.heap.size 2 rfl (n.addr.map u8V) _ HR.out Tryz.underlying23 rfl hz.out (by rfl) ?_; intro a' ha'; simp only [Act.put, Array.setIfInBounds, List.size_toArray, go_sem] at ha'; subst ha')
          | (refine quiet_load_aft 23 _ rfl (w.heap.size + 1) 2 rfl (m.addr.map u8V) _ HS.out Tryz.underlying23 rfl hz2.out (by rfl) ?_; intro a' ha'; simp only [Act.put, Array.setIfInBounds, List.size_toArray, go_sem] at ha'; subst ha')
          | go_big_quiet_step (first | (go_at_call_of 36 (Value.agg (netC n).toArray); exact Calls.aft (RN.out _)) | (go_at_call_of 36 (Value.agg (netC m).toArray); exact Calls.aft (RM.out _)) | (go_at_call 74; exact Calls.aft (HC.out rfl _)))
          | quiet_step (first | (go_at_call_of 36 (Value.agg (netC n).toArray); exact Calls.aft (RN.out _)) | (go_at_call_of 36 (Value.agg (netC m).toArray); exact Calls.aft (RM.out _)) | (go_at_call 74; exact Calls.aft (HC.out rfl _))))
        refine wpQuiet_nil ?_
        rintro _ ⟨p, rfl⟩
        go_wp2_with fail
        go_ret
        exact ⟨by first | rfl | (rw [h1r, h2r, h6]; rfl), HX.out.trans p.bel⟩
      | true =>
        by_cases hb : m.bits ≤ n.bits
        · have db : decide (m.bits ≤ n.bits) = true := decide_eq_true hb
          refine wp_region_aft (by kernel_rfl) (by kernel_rfl) ?_
          repeat (first
            | go_big_quiet_skip
            | (refine quiet_load_aft 25 _ rfl w.heap.size 0 rfl (netC n) _ HN.out Tryz.underlying25 rfl hy.out (by rfl) ?_; intro a' ha'; simp only [Act.put, Array.setIfInBounds, List.size_toArray, go_sem] at ha'; subst ha')
            | (refine quiet_load_aft 25 _ rfl (w.heap.size + 1) 0 rfl (netC m) _ HM.out Tryz.underlying25 rfl hy2.out (by rfl) ?_; intro a' ha'; simp only [Act.put, Array.setIfInBounds, List.size_toArray, go_sem] at ha'; subst ha')
            | (refine quiet_load_aft 23 _ rfl w.heap.size 2 rfl (n.addr.map u8V) _ HR.out Tryz.underlying23 rfl hz.out (by rfl) ?_; intro a' ha'; simp only [Act.put, Array.setIfInBounds, List.size_toArray, go_sem] at ha'; subst ha')
            | (refine quiet_load_aft 23 _ rfl (w.heap.size + 1) 2 rfl (m.addr.map u8V) _ HS.out Tryz.underlying23 rfl hz2.out (by rfl) ?_; intro a' ha'; simp only [Act.put, Array.setIfInBounds, List.size_toArray, go_sem] at ha'; subst ha')
            | go_big_quiet_step (first | (go_at_call_of 36 (Value.agg (netC n).toArray); exact Calls.aft (RN.out _)) | (go_at_call_of 36 (Value.agg (netC m).toArray); exact Calls.aft (RM.out _)) | (go_at_call 74; exact Calls.aft (HC.out rfl _)))
            | quiet_step (first | (go_at_call_of 36 (Value.agg (netC n).toArray); exact Calls.aft (RN.out _)) | (go_at_call_of 36 (Value.agg (netC m).toArray); exact Calls.aft (RM.out _)) | (go_at_call 74; exact Calls.aft (HC.out rfl _))))
          refine wpQuiet_nil ?_
          rintro _ ⟨p, rfl⟩
          go_wp2_with fail
          go_ret
          exact ⟨by first | rfl | (rw [h1r, h2r, h6, db]; rfl), HX.out.trans p.bel⟩
        · have db : decide (m.bits ≤ n.bits) = false := decide_eq_false hb
          clear hb
          refine wp_region_aft (by kernel_rfl) (by kernel_rfl) ?_
          repeat (first
            | go_big_quiet_skip
            | (refine quiet_load_aft 25 _ rfl w.heap.size 0 rfl (netC n) _ HN.out Tryz.underlying25 rfl hy.out (by rfl) ?_; intro a' ha'; simp only [Act.put, Array.setIfInBounds, List.size_toArray, go_sem] at ha'; subst ha')
            | (refine quiet_load_aft 25 _ rfl (w.heap.size + 1) 0 rfl (netC m) _ HM.out Tryz.underlying25 rfl hy2.out (by rfl) ?_; intro a' ha'; simp only [Act.put, Array.setIfInBounds, List.size_toArray, go_sem] at ha'; subst ha')
            | (refine quiet_load_aft 23 _ rfl w.heap.size 2 rfl (n.addr.map u8V) _ HR.out Tryz.underlying23 rfl hz.out (by rfl) ?_; intro a' ha'; simp only [Act.put, Array.setIfInBounds, List.size_toArray, go_sem] at ha'; subst ha')
            | (refine quiet_load_aft 23 _ rfl (w.heap.size + 1) 2 rfl (m.addr.map u8V) _ HS.out Tryz.underlying23 rfl hz2.out (by rfl) ?_; intro a' ha'; simp only [Act.put, Array.setIfInBounds, List.size_toArray, go_sem] at ha'; subst ha')
            | go_big_quiet_step (first | (go_at_call_of 36 (Value.agg (netC n).toArray); exact Calls.aft (RN.out _)) | (go_at_call_of 36 (Value.agg (netC m).toArray); exact Calls.aft (RM.out _)) | (go_at_call 74; exact Calls.aft (HC.out rfl _)))
            | quiet_step (first | (go_at_call_of 36 (Value.agg (netC n).toArray); exact Calls.aft (RN.out _)) | (go_at_call_of 36 (Value.agg (netC m).toArray); exact Calls.aft (RM.out _)) | (go_at_call 74; exact Calls.aft (HC.out rfl _))))
          refine wpQuiet_nil ?_
          rintro _ ⟨p, rfl⟩
          go_wp2_with fail
          go_ret
          exact ⟨by first | rfl | (rw [h1r, h2r, h6, db]; rfl), HX.out.trans p.bel⟩
end Go.Proofs.YtpmmaickjolimaaGreatDoor.Ci
