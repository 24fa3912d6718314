/- Equality of addresses, of ranges; a region whose calls may make memory, walked in the text's order. -/
import Derived.Test.YtpmmaickjolimaaGreatDoorCc
namespace Go.Proofs.YtpmmaickjolimaaGreatDoor.Ci
open Go.RowKit

set_option maxHeartbeats 4000000 in
set_option maxRecDepth 100000 in
theorem eq_arr16 (x0 x1 x2 x3 x4 x5 x6 x7 x8 x9 x10 x11 x12 x13 x14 x15 y0 y1 y2 y3 y4 y5 y6 y7 y8 y9 y10 y11 y12 y13 y14 y15 : Nat) (w : World) : (Op.equalIn 10000 23 (.agg #[.int .u8 (x0 : Nat), .int .u8 (x1 : Nat), .int .u8 (x2 : Nat), .int .u8 (x3 : Nat), .int .u8 (x4 : Nat), .int .u8 (x5 : Nat), .int .u8 (x6 : Nat), .int .u8 (x7 : Nat), .int .u8 (x8 : Nat), .int .u8 (x9 : Nat), .int .u8 (x10 : Nat), .int .u8 (x11 : Nat), .int .u8 (x12 : Nat), .int .u8 (x13 : Nat), .int .u8 (x14 : Nat), .int .u8 (x15 : Nat)]) (.agg #[.int .u8 (y0 : Nat), .int .u8 (y1 : Nat), .int .u8 (y2 : Nat), .int .u8 (y3 : Nat), .int .u8 (y4 : Nat), .int .u8 (y5 : Nat), .int .u8 (y6 : Nat), .int .u8 (y7 : Nat), .int .u8 (y8 : Nat), .int .u8 (y9 : Nat), .int .u8 (y10 : Nat), .int .u8 (y11 : Nat), .int .u8 (y12 : Nat), .int .u8 (y13 : Nat), .int .u8 (y14 : Nat), .int .u8 (y15 : Nat)])).run Tryz.prog w = .ok (decide ([x0, x1, x2, x3, x4, x5, x6, x7, x8, x9, x10, x11, x12, x13, x14, x15] = [y0, y1, y2, y3, y4, y5, y6, y7, y8, y9, y10, y11, y12, y13, y14, y15])) w := by
  have u5 := Tryz.underlying5
  have a5 := Tryz.isAgg5
  have z5 := Tryz.sizeOf5
  rw [show (10000 : Nat) = 9999 + 1 from rfl, Op.equalIn]
  simp only [Sem.run_bind, run_underlying Tryz.underlying23, Result.andThen_ok]
  simp only [Std.Legacy.Range.forIn_eq_forIn_range', Std.Legacy.Range.size, Nat.sub_zero, Nat.add_sub_cancel, Nat.div_one, List.range'_succ, List.range'_zero, List.forIn_cons, List.forIn_nil]
  go_simp
  by_cases h0 : x0 = y0
  case neg => simp [h0]; intros; omega
  subst h0
  by_cases h1 : x1 = y1
  case neg => simp [h1]; intros; omega
  subst h1
  by_cases h2 : x2 = y2
  case neg => simp [h2]; intros; omega
  subst h2
  by_cases h3 : x3 = y3
  case neg => simp [h3]; intros; omega
  subst h3
  by_cases h4 : x4 = y4
  case neg => simp [h4]; intros; omega
  subst h4
  by_cases h5 : x5 = y5
  case neg => simp [h5]; intros; omega
  subst h5
  by_cases h6 : x6 = y6
  case neg => simp [h6]; intros; omega
  subst h6
  by_cases h7 : x7 = y7
  case neg => simp [h7]; intros; omega
  subst h7
  by_cases h8 : x8 = y8
  case neg => simp [h8]; intros; omega
  subst h8
  by_cases h9 : x9 = y9
  case neg => simp [h9]; intros; omega
  subst h9
  by_cases h10 : x10 = y10
  case neg => simp [h10]; intros; omega
  subst h10
  by_cases h11 : x11 = y11
  case neg => simp [h11]; intros; omega
  subst h11
  by_cases h12 : x12 = y12
  case neg => simp [h12]; intros; omega
  subst h12
  by_cases h13 : x13 = y13
  case neg => simp [h13]; intros; omega
  subst h13
  by_cases h14 : x14 = y14
  case neg => simp [h14]; intros; omega
  subst h14
  by_cases h15 : x15 = y15
  case neg => simp [h15]; intros; omega
  subst h15
  simp

theorem eq_arr (l m : List Nat) (hl : l.length = 16) (hm : m.length = 16) (w : World) : (Op.equalIn 10000 23 (.agg (l.map u8V).toArray) (.agg (m.map u8V).toArray)).run Tryz.prog w = .ok (decide (l = m)) w := by
  match l, hl, m, hm with
  | [x0, x1, x2, x3, x4, x5, x6, x7, x8, x9, x10, x11, x12, x13, x14, x15], _, [y0, y1, y2, y3, y4, y5, y6, y7, y8, y9, y10, y11, y12, y13, y14, y15], _ => exact eq_arr16 x0 x1 x2 x3 x4 x5 x6 x7 x8 x9 x10 x11 x12 x13 x14 x15 y0 y1 y2 y3 y4 y5 y6 y7 y8 y9 y10 y11 y12 y13 y14 y15 w

/-- Cells written over, from a place on. -/
theorem heap_setCells (b : Nat) (t : TypeId) : ∀ (vs : List Value) (o : Nat) (w : World) (cs : List Value), w.heap[b]? = some (.cells cs.toArray t (0, 0)) → o + vs.length ≤ cs.length →
    (w.setCells b o vs).heap[b]? = some (.cells (cs.take o ++ vs ++ cs.drop (o + vs.length)).toArray t (0, 0))
  | [], o, w, cs, h, _ => by
    rw [World.setCells, h]
    simp
  | v :: vs, o, w, cs, h, hl => by
    rw [List.length_cons] at hl
    have h2 : (w.setCell ⟨b, o, none⟩ v).heap[b]? = some (.cells (cs.set o v).toArray t (0, 0)) := by
      rw [heap_setCell_same w _ _ _ _ _ h, List.setIfInBounds_toArray]
    rw [World.setCells, heap_setCells b t vs (o + 1) _ (cs.set o v) h2 (by rw [List.length_set]; omega)]
    have e1 : (cs.set o v).take (o + 1) = cs.take o ++ [v] := by
      rw [List.take_set, List.take_succ_eq_append_getElem (by omega), List.set_append_right _ _ (by rw [List.length_take]; omega)]
      simp [List.length_take, Nat.min_eq_left (by omega : o ≤ cs.length)]
    have e2 : (cs.set o v).drop (o + 1 + vs.length) = cs.drop (o + (v :: vs).length) := by
      rw [List.drop_set_of_lt (by omega), List.length_cons]
      congr 1; omega
    rw [e1, e2]
    simp
theorem heap_setCells_whole {b : Nat} {t : TypeId} {vs cs : List Value} {w : World} (h : w.heap[b]? = some (.cells cs.toArray t (0, 0))) (hl : vs.length = cs.length) :
    (w.setCells b 0 vs).heap[b]? = some (.cells vs.toArray t (0, 0)) := by
  rw [heap_setCells b t vs 0 w cs h (by omega), hl]
  simp
theorem heap_setCells_other (b k : Nat) (hk : k ≠ b) : ∀ (vs : List Value) (o : Nat) (w : World), (w.setCells b o vs).heap[k]? = w.heap[k]?
  | [], _, _ => rfl
  | v :: vs, o, w => by rw [World.setCells, heap_setCells_other b k hk vs, heap_setCell_other _ _ _ _ hk]
theorem there_of {w : World} {b o n : Nat} {t : TypeId} {cs : List Value} (h : w.heap[b]? = some (.cells cs.toArray t (0, 0))) (hl : o + n ≤ cs.length) : w.there b o n := fun j hj => by
  constructor
  · simp [World.cell?, h, (by omega : o + j < cs.length)]
  · simp [World.frozen?, h]
theorem range_of {w : World} {b o : Nat} {t : TypeId} {cs vs : List Value} (h : w.heap[b]? = some (.cells cs.toArray t (0, 0))) (hl : ∀ j v, vs[j]? = some v → cs[o + j]? = some v) : w.rangeAt b o vs := fun j v hv => by
  simp [World.cell?, h, hl j v hv]

theorem alloc_second (w : World) (o p : Obj) : ((w.alloc o).alloc p).heap[w.heap.size + 1]? = some p := by
  have := heap_alloc_new (w.alloc o) p
  rw [World.size_alloc] at this
  exact this
theorem size_setCells (b : Nat) : ∀ (vs : List Value) (o : Nat) (w : World), (w.setCells b o vs).heap.size = w.heap.size
  | [], _, _ => rfl
  | v :: vs, o, w => by rw [World.setCells, size_setCells b vs, World.size_setCell]

/-- A world behind w, in which all that was there is as it was. -/
structure Aft (w : World) where
  wd : World
  bel : Bel w wd
instance (w : World) : Inhabited (Aft w) := ⟨⟨w, Bel.refl w⟩⟩
theorem wp_region_aft {P : Program} {id : Nat} {Q : Exit → Act → World → Prop} {a : Act} {w : World} {l : List Oper} (hm : P.follows .mixedOrders = true) (hB : Region.lexB .any l.toArray = true)
    (h : wpQuiet P l.toArray (fun w' => ∃ p : Aft w, w' = p.wd) (fun a' => ∀ w', (∃ p : Aft w, w' = p.wd) → Q .normal a' w') l a) : (Code.region id l.toArray true).wp P Q a w :=
  wp_region_quiet (C := fun w' => ∃ p : Aft w, w' = p.wd) hm hB ⟨⟨w.drew, (Bel.refl w).drew⟩, rfl⟩ (by simpa using h)
theorem Calls.aft {P : Program} {f : FuncId} {args : Array Value} {w : World} {p : Aft w} {v : Value} (h : Calls P f args p.wd fun e w' => e = .returned v ∧ Bel p.wd w') :
    Calls P f args p.wd fun e w'' => e = .returned v ∧ ∃ q : Aft w, w'' = q.wd :=
  h.mono fun _ w' ⟨he, hb⟩ => ⟨he, ⟨w', p.bel.trans hb⟩, rfl⟩
theorem quiet_load_aft {P : Program} {ops : Array Oper} {w : World} {Q : Act → Prop} {op : Oper} {rest : List Oper} {a : Act} (ty : TypeId) (x : Operand) (ho : op.op = .load ty x)
    (b o : Nat) (hx : a.eval x = .pointer (some ⟨b, o, none⟩)) (cs : List Value) (d : TypeDesc) (hS : ∀ p : Aft w, p.wd.rangeAt b o cs)
    (hu : P.underlying ty = some d) (hd : d.isRow = true) (hi : (P.info? ty).map (·.size) = some cs.length) (hw : Region.wanted op (yielded ops a.tmps) = true)
    (h : ∀ a', a' = a.put op.dst (.agg cs.toArray) → wpQuiet P ops (fun w' => ∃ p : Aft w, w' = p.wd) Q rest a') : wpQuiet P ops (fun w' => ∃ p : Aft w, w' = p.wd) Q (op :: rest) a := by
  show if Region.wanted op (yielded ops a.tmps) then _ else _
  rw [if_pos hw]
  refine ⟨_, ?_, h _ rfl⟩
  rintro w' ⟨p, rfl⟩
  unfold Oper.quietAt execOp
  simp only [ho, hx, Instr.loadAt, Instr.sureAddr, Sem.run_bind, Sem.run_pure, Result.andThen_ok, run_loadVar_mid p.wd b o ty cs d (hS p) hu hd hi]
  exact ⟨rfl, rfl⟩
end Go.Proofs.YtpmmaickjolimaaGreatDoor.Ci
