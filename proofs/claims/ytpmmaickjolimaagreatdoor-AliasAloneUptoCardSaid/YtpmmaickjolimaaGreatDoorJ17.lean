/- Walk: value of alias. -/
import Derived.Test.YtpmmaickjolimaaGreatDoorJ13
import Derived.Test.YtpmmaickjolimaaGreatDoorJ15
import Derived.Test.YtpmmaickjolimaaGreatDoorJ16
import Derived.Maps.OwnIn
namespace Go.Proofs.YtpmmaickjolimaaGreatDoor.Tb
open Go.RowKit
open Ci (Bel hid own_bel row_shape own_base addr_add splitL trim_run)
open Ma (Pt Pts ptC ptCs mbQ Mailbox_run pt_infos pt_size ptCs_snoc ptCs_at)

attribute [local go_sem] Oper.semAt_some
section
variable {P : Program} {F : Fence} {nF : Nat}
theorem wpListIn_store_blk {ops : Array Oper} {rest : List Oper} {op : Oper} {a : Act} {w : World} {Q : Exit → Act → World → Prop} (hgd : op.guard = none) (ty : TypeId) (x y : Operand) (ho : op.op = .store ty x y)
    (b : Nat) (vs : List Value) (hx : a.eval x = .pointer (some ⟨b, 0, none⟩)) (hy : a.eval y = .agg vs.toArray) (hi : (P.info? ty).map (·.size) = some vs.length) (h1 : vs.toArray.all (·.oneCell') = true)
    (cs : List Value) (T : TypeId) (hb : w.heap[b]? = some (.cells cs.toArray T (0, 0))) (hl : vs.length = cs.length)
    (h : ∀ w', w'.heap[b]? = some (.cells vs.toArray T (0, 0)) → (∀ k, k ≠ b → w'.heap[k]? = w.heap[k]?) → w'.heap.size = w.heap.size → (∀ U : World, Bel U w → U.heap.size ≤ b → Bel U w') → wpListIn F nF P ops Q rest (a.put op.dst undef) w') :
    wpListIn F nF P ops Q (op :: rest) a w := by
  refine wpListIn_plain hgd fun K hK => ?_
  have hrun := run_storeAt_mid (P := P) w b 0 ty vs.toArray (Ci.there_of hb (by rw [List.size_toArray]; omega)) (by rw [List.size_toArray]; exact hi) h1
  rw [List.toList_toArray] at hrun
  unfold Oper.wpIn
  refine ⟨by simp [Oper.about, ho], ?_⟩
  rw [Oper.semAt_plain F _ _ (by rw [ho]; intro c hc'; cases hc')]
  simp [execOp, ho, hx, hy, hrun, Result.andThen]
  exact hK _ _ (h _ (Ci.heap_setCells_whole hb hl) (fun k hk => Ci.heap_setCells_other b k hk vs 0 w) (Ci.size_setCells b vs 0 w) fun U hU hs => Ci.Bel.setCells hs vs 0 w hU)
end
/-- The mailboxes of a value's pieces; none: it may not be. -/
def valF : List (List UInt8) → List Pt → Option (List Pt)
  | [], out => some out
  | s :: r, out => if (mbQ (trm s)).2 ≠ 0 ∨ (mbQ (trm s)).1.null = true ∨ (mbQ (trm s)).1.dom = [] then none else valF r (out ++ [(mbQ (trm s)).1])
def valP (v : List UInt8) : List Pt × Bool := match valF (splitL 44 v) [] with
  | none => ([], false)
  | some l => (l, decide (l.length ≤ 100))
structure VaI (w : World) (s : List UInt8) (k : Nat) (W : World) (v : Value) (out : List Pt) : Prop where
  bel : Bel w W
  r0 : W.heap[w.heap.size]? = some (.cells #[.slice none 0 0] 37 (0, 0))
  r1 : W.heap[w.heap.size + 1]? = some (.cells #[.bool false] 4 (0, 0))
  box : W.heap[w.heap.size + 2]? = some (.cells #[v] 37 (0, 0))
  row : W.ownsRow (w.heap.size + 8) 39 4 v out.length (ptCs out)
  eq : valF ((splitL 44 s).drop k) out = valF (splitL 44 s) []
  len : out.length = k
structure VaX (w : World) (s : List UInt8) (W : World) : Prop where
  bel : Bel w W
  r0 : W.heap[w.heap.size]? = some (.cells #[.slice none 0 0] 37 (0, 0))
  r1 : W.heap[w.heap.size + 1]? = some (.cells #[.bool false] 4 (0, 0))
  eq : valF (splitL 44 s) [] = none
theorem bel_turn {w W W' : World} {row : Option Nat} (h : Bel w W) (hg : W.grownBy W' row) (hr : ∀ r, row = some r → w.heap.size ≤ r) : Bel w W' :=
  Below.grown h hg h.size fun k hk => hr k hk
theorem VaI.turn {w : World} {s : List UInt8} {k : Nat} {W W' : World} {v : Value} {out : List Pt} {row : Option Nat} (h : VaI w s k W v out) (hg : W.grownBy W' row) (hr : ∀ r, row = some r → w.heap.size + 3 ≤ r ∧ r < w.heap.size + 8) : VaI w s k W' v out := by
  have lt : ∀ {j : Nat} {o : Obj}, W.heap[j]? = some o → j < W.heap.size := fun h => (Array.getElem?_eq_some_iff.1 h).1
  have ne : ∀ j, j < w.heap.size + 3 → some j ≠ row := fun j hj e => by have := hr j e.symm; omega
  refine ⟨bel_turn h.bel hg fun r e => by have := hr r e; omega, (hg.block _ (lt h.r0) (ne _ (by omega))).trans h.r0, (hg.block _ (lt h.r1) (ne _ (by omega))).trans h.r1, (hg.block _ (lt h.box) (ne _ (by omega))).trans h.box, h.row.kept hg ?_, h.eq, h.len⟩
  rcases h.row.2 with ⟨rfl, -⟩ | ⟨g, cap, cur, rfl, hb, -⟩
  · exact .inl rfl
  · refine .inr fun e => ?_
    have := hr g e.symm
    omega
theorem VaI.next {w : World} {s : List UInt8} {k : Nat} {W W' : World} {v : Value} {out : List Pt} (h : VaI w s k W v out) (hb : Bel W W') : VaI w s k W' v out :=
  ⟨h.bel.trans hb, hb.heap h.r0, hb.heap h.r1, hb.heap h.box, own_bel h.row hb, h.eq, h.len⟩
theorem VaX.turn {w : World} {s : List UInt8} {W W' : World} {row : Option Nat} (h : VaX w s W) (hg : W.grownBy W' row) (hr : ∀ r, row = some r → w.heap.size + 3 ≤ r ∧ r < w.heap.size + 8) : VaX w s W' := by
  have lt : ∀ {j : Nat} {o : Obj}, W.heap[j]? = some o → j < W.heap.size := fun h => (Array.getElem?_eq_some_iff.1 h).1
  have ne : ∀ j, j < w.heap.size + 3 → some j ≠ row := fun j hj e => by have := hr j e.symm; omega
  exact ⟨bel_turn h.bel hg fun r e => by have := hr r e; omega, (hg.block _ (lt h.r0) (ne _ (by omega))).trans h.r0, (hg.block _ (lt h.r1) (ne _ (by omega))).trans h.r1, h.eq⟩
/-- The piece at k. -/
def pcB (s : List UInt8) (k : Nat) : ByteArray := ⟨(((splitL 44 s)[k]?).getD []).toArray⟩
theorem pcB_eq {s : List UInt8} {k : Nat} (hk : k < (pcV (splitL 44 s)).length) : (pcV (splitL 44 s))[k] = #[Value.string (pcB s k)] := by
  have hk' : k < (splitL 44 s).length := by rw [pc_len] at hk; exact hk
  have e : (pcV (splitL 44 s))[k] = #[Value.string ⟨((splitL 44 s)[k]).toArray⟩] := List.getElem_map ..
  rw [e]
  unfold pcB
  rw [List.getElem?_eq_getElem hk', Option.getD_some]
theorem pcB_le (s : List UInt8) (k : Nat) : (pcB s k).size ≤ s.length := by
  rw [Lib.size_eq]
  unfold pcB
  show (((splitL 44 s)[k]?).getD []).length ≤ _
  cases h : (splitL 44 s)[k]? with
  | none => exact Nat.zero_le _
  | some p => exact split_piece 44 s p (List.mem_of_getElem? h)
theorem valF_step {s : List UInt8} {k : Nat} {out : List Pt} (hk : k < (splitL 44 s).length) : valF ((splitL 44 s).drop k) out = if (mbQ (trm (pcB s k).data.toList)).2 ≠ 0 ∨ (mbQ (trm (pcB s k).data.toList)).1.null = true ∨ (mbQ (trm (pcB s k).data.toList)).1.dom = [] then none else valF ((splitL 44 s).drop (k + 1)) (out ++ [(mbQ (trm (pcB s k).data.toList)).1]) := by
  rw [List.drop_eq_getElem_cons hk]
  unfold pcB
  rw [List.getElem?_eq_getElem hk, Option.getD_some]
  rfl
theorem pts_of_row {W : World} {base c : Nat} {x : Option Addr} {l : List Pt} (h : W.ownsRow base 39 4 (.slice x l.length c) l.length (ptCs l)) : Pts W x l := by
  refine ⟨?_⟩
  rcases h.2 with ⟨-, h0⟩ | ⟨g, cap, cur, e, hg, hh, -⟩
  · exact .inl (List.eq_nil_of_length_eq_zero h0)
  · obtain ⟨rfl, -, rfl⟩ := Value.slice.inj e
    refine .inr ⟨g, 0, rfl, (Array.getElem?_eq_some_iff.1 hh).1, fun k hk j v hv => ?_⟩
    have hj := ptCs_at l k hk j v hv
    have hl := (List.getElem?_eq_some_iff.1 hj).1
    rw [h.1] at hl
    rw [Nat.zero_add]
    exact (World.ownsRow.cellAt h (k * 4 + j) hl).trans hj
theorem va_stop {w W w3 : World} {s : List UInt8} {D : Nat} {k : Nat} {v : Value} {out : List Pt} (hI : VaI w s k W v out) (hb : Bel W w3) (hD : D = w.heap.size + 6) (hs : D + 2 ≤ W.heap.size) (hn : valF (splitL 44 s) [] = none) :
    KeepB D (D + 2) W ((w3.setCell ⟨w.heap.size, 0, none⟩ (.slice none 0 0)).setCell ⟨w.heap.size + 1, 0, none⟩ (.bool false)) ∧ VaX w s ((w3.setCell ⟨w.heap.size, 0, none⟩ (.slice none 0 0)).setCell ⟨w.heap.size + 1, 0, none⟩ (.bool false)) := by
  refine ⟨fun j h1 h2 => ?_, ((hI.bel.trans hb).setCell (Nat.le_refl _) _).setCell (by omega) _, ?_, ?_, hn⟩
  · rw [heap_setCell_other _ _ _ _ (show j ≠ w.heap.size + 1 by omega), heap_setCell_other _ _ _ _ (show j ≠ w.heap.size by omega)]
    exact hb.block j (by omega)
  · rw [heap_setCell_other _ _ _ _ (show w.heap.size ≠ w.heap.size + 1 by omega)]
    exact heap_setCell_same _ _ _ _ _ _ (hb.heap hI.r0)
  · have h : (w3.setCell ⟨w.heap.size, 0, none⟩ (.slice none 0 0)).heap[w.heap.size + 1]? = some (.cells #[.bool false] 4 (0, 0)) := (heap_setCell_other _ _ _ _ (show w.heap.size + 1 ≠ w.heap.size by omega)).trans (hb.heap hI.r1)
    exact heap_setCell_same _ _ _ _ _ _ h
theorem va_cells {w W w3 : World} {s : List UInt8} {k : Nat} {v : Value} {out : List Pt} (hI : VaI w s k W v out) (hb : Bel W w3) : w3.cell? ⟨w.heap.size, 0, none⟩ = some (.slice none 0 0) ∧ w3.cell? ⟨w.heap.size + 1, 0, none⟩ = some (.bool false) ∧ w3.cell? ⟨w.heap.size + 1 + 1, 0, none⟩ = some v ∧
    w3.frozen? ⟨w.heap.size, 0, none⟩ = false ∧ w3.frozen? ⟨w.heap.size + 1, 0, none⟩ = false ∧ w3.frozen? ⟨w.heap.size + 1 + 1, 0, none⟩ = false := by
  refine ⟨?_, ?_, ?_, Lib.frozen_of_heap (hb.heap hI.r0) 0, Lib.frozen_of_heap (hb.heap hI.r1) 0, Lib.frozen_of_heap (hb.heap hI.box) 0⟩
  · rw [Lib.cell_of_heap (hb.heap hI.r0)]; rfl
  · rw [Lib.cell_of_heap (hb.heap hI.r1)]; rfl
  · rw [Lib.cell_of_heap (b := w.heap.size + 1 + 1) (hb.heap hI.box)]; rfl
theorem va_box {w W w3 w4 : World} {s : List UInt8} {k : Nat} {v : Value} {out : List Pt} {o : Obj} (hI : VaI w s k W v out) (hb : Bel W w3) (hg : (w3.alloc o).grownBy w4 v.ownBlock) (hs : w.heap.size + 8 ≤ W.heap.size) : w4.heap[w.heap.size + 2]? = some (.cells #[v] 37 (0, 0)) := by
  have hz : W.heap.size ≤ w3.heap.size := hb.size
  rw [hg.block _ (by rw [World.size_alloc]; omega) ?_, heap_alloc_old _ _ (by omega)]
  · exact hb.heap hI.box
  · intro e
    rcases hI.row.2 with ⟨rfl, -⟩ | ⟨g, cap, cur, rfl, hg, -⟩
    · cases e
    · have : w.heap.size + 2 = g := Option.some.inj e
      omega
theorem va_next {w W w3 w4 : World} {s : List UInt8} {D : Nat} {k c n : Nat} {x : Option Addr} {v : Value} {out : List Pt} {p : Pt} (h64 : 8 ≤ w.heap.size) (hI : VaI w s k W v out) (hnn : out.length = n) (hb : Bel W w3) (hg : (w3.alloc (.cells (ptC p).toArray 39)).grownBy w4 v.ownBlock) (hD : D = w.heap.size + 6) (hs : D + 2 ≤ W.heap.size)
    (hown : w4.ownsRow (w.heap.size + 8) 39 4 (.slice x (n + 1) c) (n + 1) (ptCs out ++ ptC p)) (hn : valF ((splitL 44 s).drop (k + 1)) (out ++ [p]) = valF (splitL 44 s) []) :
    KeepI (w.heap.size + 3) (w.heap.size + 6) W (w4.setCell ⟨w.heap.size + 2, 0, none⟩ (.slice x (n + 1) c)) ∧ KeepB D (D + 2) W (w4.setCell ⟨w.heap.size + 2, 0, none⟩ (.slice x (n + 1) c)) ∧ ∃ v out, VaI w s (k + 1) (w4.setCell ⟨w.heap.size + 2, 0, none⟩ (.slice x (n + 1) c)) v out := by
  have hge : ∀ r, v.ownBlock = some r → w.heap.size + 8 ≤ r := by
    intro r e
    rcases hI.row.2 with ⟨rfl, -⟩ | ⟨g, cap, cur, rfl, hg, -⟩
    · cases e
    · cases e; exact hg
  have hz : W.heap.size ≤ w3.heap.size := hb.size
  have hk : ∀ j, j < w.heap.size + 8 → w4.heap[j]? = W.heap[j]? := fun j hj => by
    rw [hg.block j (by rw [World.size_alloc]; omega) (fun e => by have := hge j e.symm; omega), heap_alloc_old _ _ (by omega)]
    exact hb.block j (by omega)
  have ho : ∀ j, j < w.heap.size + 8 → j ≠ w.heap.size + 2 → (w4.setCell ⟨w.heap.size + 2, 0, none⟩ (.slice x (n + 1) c)).heap[j]? = W.heap[j]? := fun j hj hne => by
    rw [heap_setCell_other _ _ _ _ (show j ≠ w.heap.size + 2 from hne)]
    exact hk j hj
  refine ⟨⟨fun j h1 h2 => ho j (by omega) (by omega), fun j h1 h2 => ?_⟩, fun j h1 h2 => ho j (by omega) (by omega), _, out ++ [p], ?_, (ho _ (by omega) (by omega)).trans hI.r0, (ho _ (by omega) (by omega)).trans hI.r1, heap_setCell_same _ _ _ _ _ _ ((hk _ (by omega)).trans hI.box), ?_, hn, by rw [List.length_append, hI.len]; rfl⟩
  · exact ho j (by omega) (by omega)
  · exact (bel_turn ((hI.bel.trans hb).alloc _) hg fun r e => by have := hge r e; omega).setCell (by omega) _
  · rw [ptCs_snoc, List.length_append, hnn]
    exact ownsRow_setCell_below hown (by show w.heap.size + 2 < _; omega) _
theorem va_out {V : World} {r D : Nat} {v0 v1 : Value} (h0 : V.heap[r]? = some (.cells #[v0] 37 (0, 0))) (h1 : V.heap[r + 1]? = some (.cells #[v1] 4 (0, 0))) (hD : D = r + 6) :
    (loadVar 37 ⟨r, 0, none⟩).run Tryz.prog (V.putObj D (.deferred none)) = .ok v0 (V.putObj D (.deferred none)) ∧ (loadVar 4 ⟨r + 1, 0, none⟩).run Tryz.prog (V.putObj D (.deferred none)) = .ok v1 (V.putObj D (.deferred none)) := by
  have k0 : (V.putObj D (.deferred none)).heap[r]? = some (.cells #[v0] 37 (0, 0)) := (World.putObj_heap_other (by omega)).trans h0
  have k1 : (V.putObj D (.deferred none)).heap[r + 1]? = some (.cells #[v1] 4 (0, 0)) := (World.putObj_heap_other (by omega)).trans h1
  exact ⟨Ma.run_loadVar_one _ _ _ _ _ (by rw [Lib.cell_of_heap k0]; rfl) Tryz.underlying37 rfl, Ma.run_loadVar_one _ _ _ _ _ (by rw [Lib.cell_of_heap k1]; rfl) Tryz.underlying4 rfl⟩
set_option maxHeartbeats 8000000 in
set_option maxRecDepth 100000 in
theorem value_run (s : ByteArray) (w : World) (hw : Lat w) (hs : s.size ≤ 4000000) : Calls Tryz.prog 65 #[.string s] w fun e w' => ∃ x c, e = .returned (.tuple #[.slice x (valP s.data.toList).1.length c, .bool (valP s.data.toList).2]) ∧ Bel w w' ∧ Pts w' x (valP s.data.toList).1 ∧ ∀ ad, x = some ad → w.heap.size ≤ ad.block := by
  refine (callsIn_wide (n := 0)).1 ?_
  refine callsIn_of_wp_marks Tryz.func65 rfl trivial ?_ rfl
  have h64 := hw.size
  have H64 := hid h64
  have hB3 : Bel w (((w.alloc (.cells #[.slice none 0 0] 37)).alloc (.cells #[.bool false] 4)).alloc (.cells #[.slice none 0 0] 37)) := (((Bel.refl w).alloc _).alloc _).alloc _
  have HS := (show Hid (Calls Tryz.prog 112 #[.string s, .string ⟨#[44]⟩] (((w.alloc (.cells #[.slice none 0 0] 37)).alloc (.cells #[.bool false] 4)).alloc (.cells #[.slice none 0 0] 37)) fun e w' => e = .returned (.func (.func 192) #[] #[.pointer (some ⟨w.heap.size + 3 + 1, 0, none⟩), .pointer (some ⟨w.heap.size + 3, 0, none⟩), .pointer (some ⟨w.heap.size + 3 + 2, 0, none⟩)]) ∧ Bel (((w.alloc (.cells #[.slice none 0 0] 37)).alloc (.cells #[.bool false] 4)).alloc (.cells #[.slice none 0 0] 37)) w' ∧ w'.heap.size = w.heap.size + 6 ∧ SsW (w.heap.size + 3) 44 w' s) from by
    have h := splitSeqP_run s 44 _ (hw.next hB3)
    rw [World.size_alloc, World.size_alloc, World.size_alloc] at h
    exact h)
  have HW := hid hw
  have hsl := Lib.size_eq s
  have HSL := hid hsl
  have HI : Hid (VaI w s.data.toList 0 (((w.alloc (.cells #[.slice none 0 0] 37)).alloc (.cells #[.bool false] 4)).alloc (.cells #[.slice none 0 0] 37)) (.slice none 0 0) []) := by
    refine hid ⟨hB3, ?_, ?_, ?_, World.ownsRow_nil _ _ _ _, rfl, rfl⟩
    · rw [heap_alloc_old _ _ (by rw [World.size_alloc, World.size_alloc]; omega), heap_alloc_old _ _ (by rw [World.size_alloc]; omega)]
      exact heap_alloc_new w _
    · rw [heap_alloc_old _ _ (by rw [World.size_alloc, World.size_alloc]; omega)]
      exact Ci.alloc_second w _ _
    · have := heap_alloc_new ((w.alloc (.cells #[.slice none 0 0] 37)).alloc (.cells #[.bool false] 4)) (.cells #[.slice none 0 0] 37)
      rw [World.size_alloc, World.size_alloc] at this
      exact this
  clear hB3 hsl hw h64
  simp only [Tryz.ntmps65, List.size_toArray, List.length_cons, List.length_nil, Nat.reduceAdd, Nat.reduceSub, Array.replicate_succ, Array.replicate_zero, List.push_toArray, List.append_toArray, List.nil_append, List.cons_append]
  gi_wp2_with (first | (refine ⟨trivial, rfl, ?_⟩; refine (callsIn_wide.2 HS.out).mono ?_; rintro e W0 ⟨rfl, hb0, hz0, hss⟩; have HB0 := hid hb0; have HZ0 := hid hz0; have HSS := hid hss; clear hb0 hz0 hss))
  have hD : W0.heap.size = w.heap.size + 6 := HZ0.out
  refine wpIn_range_list (gf := 192) (lb := #[.pointer (some ⟨w.heap.size + 3 + 1, 0, none⟩), .pointer (some ⟨w.heap.size + 3, 0, none⟩), .pointer (some ⟨w.heap.size + 3 + 2, 0, none⟩)]) rfl (enters_of Tryz.func192 (by kernel_rfl) rfl) (xs := pcV (splitL 44 s.data.toList)) (lo := w.heap.size + 3) (hi := w.heap.size + 6) (by omega) (by have := H64.out; omega)
    (split_iter s 44 (w.heap.size + 3) W0 (by omega) HSS.out (by have := H64.out; omega)) (fun x hx => by unfold pcV at hx; obtain ⟨p, -, rfl⟩ := List.mem_map.1 hx; rfl)
    (fun k W => ∃ v out, VaI w s.data.toList k W v out) (fun W => VaX w s.data.toList W)
    (fun k W W' row hJ hg hr => by
      obtain ⟨v, out, h⟩ := hJ
      exact ⟨v, out, h.turn hg fun r e => by have := hr r e; omega⟩)
    (fun W W' row hJ hg hr => hJ.turn hg fun r e => by have := hr r e; omega)
    ⟨_, _, HI.out.next HB0.out⟩
    (fun k => { tmps := #[.string s, undef, .pointer (some ⟨w.heap.size, 0, none⟩), .pointer (some ⟨w.heap.size + 1, 0, none⟩), .pointer (some ⟨w.heap.size + 2, 0, none⟩), .string (pcB s.data.toList k), undef, undef, .string s, .func (.func 192) #[] #[.pointer (some ⟨w.heap.size + 3 + 1, 0, none⟩), .pointer (some ⟨w.heap.size + 3, 0, none⟩), .pointer (some ⟨w.heap.size + 3 + 2, 0, none⟩)], .string (pcB s.data.toList k), undef, undef, undef, undef, undef, undef, undef, undef, undef, undef, undef, undef, undef, undef, undef, undef, undef, undef, undef, undef, undef, undef, undef, undef, undef], defers := [] }) ?assign ?body ?done ?stop
  case assign =>
    intro l k hk W K hK
    rw [pcB_eq hk]
    gi_wp2
    exact hK
  case body =>
    intro l k hk W hJ hsz
    obtain ⟨v, out, hI⟩ := hJ
    obtain ⟨x, c, rfl, hc1, hc2⟩ := row_shape hI.row
    have hk' : k < (splitL 44 s.data.toList).length := by rw [pc_len] at hk; exact hk
    have hle : out.length ≤ 4000001 := by
      rw [hI.len]
      rw [Ci.splitL_len] at hk'
      have := List.count_le_length (a := 44) (l := s.data.toList)
      have := HSL.out
      omega
    have hstep := valF_step (out := out) hk'
    rw [hI.eq] at hstep
    have hps : (pcB s.data.toList k).size ≤ 4000000 := by have := pcB_le s.data.toList k; have := HSL.out; omega
    have hlt : (trm (pcB s.data.toList k).data.toList).length ≤ 4000000 := by
      have := trm_le (pcB s.data.toList k).data.toList
      have := Lib.size_eq (pcB s.data.toList k)
      omega
    have HT := (show Hid (Calls Tryz.prog 79 #[.string (pcB s.data.toList k), .string ⟨#[32, 9]⟩] W fun e w' => e = .returned (.string ⟨(trm (pcB s.data.toList k).data.toList).toArray⟩) ∧ Bel W w') from trim_run (pcB s.data.toList k) ⟨#[32, 9]⟩ W (by omega) (by decide) (by decide))
    have HM := (show Hid (∀ W1, Bel W W1 → Calls Tryz.prog 113 #[.string ⟨(trm (pcB s.data.toList k).data.toList).toArray⟩] W1 fun e w' => e = .returned (.tuple #[.agg (ptC (mbQ (trm (pcB s.data.toList k).data.toList)).1).toArray, .int .i64 (mbQ (trm (pcB s.data.toList k).data.toList)).2]) ∧ Bel W1 w') from fun W1 hb => Mailbox_run _ W1 (HW.out.next (hI.bel.trans hb)).lay (by rw [Lib.size_eq]; exact hlt))
    generalize mbQ (trm (pcB s.data.toList k).data.toList) = M at hstep HM
    generalize trm (pcB s.data.toList k).data.toList = tm at HT HM
    obtain ⟨⟨nl, lc, dm, lt⟩, e⟩ := M
    simp only at hstep
    have HII := hid hI
    have HSt := hid hstep
    have HSz := hid hsz
    have HLe := hid hle
    clear hI hstep hsz hps hlt hk hk' HSS HB0 HI HS HZ0 hc1 hc2
    by_cases h1 : e = 0
    · subst h1
      cases nl with
      | true =>
        have hn : valF (splitL 44 s.data.toList) [] = none := by rw [HSt.out, if_pos (.inr (.inl rfl))]
        have HN := hid hn
        clear hn
        gi_wp2_with (first | (refine ⟨trivial, rfl, ?_⟩; gi_at_call 79; refine (CallsIn.inRound l (callsIn_wide.2 HT.out)).mono ?_; rintro e w1 ⟨rfl, hb1⟩; have HB1 := hid hb1; clear hb1) | (refine ⟨trivial, rfl, ?_⟩; gi_at_call 113; refine (CallsIn.inRound l (callsIn_wide.2 (HM.out w1 HB1.out))).mono ?_; rintro e w2 ⟨rfl, hb2⟩; have HB2 := hid (HB1.out.trans hb2); clear hb2) | (refine wpListIn_store_blk rfl 39 (.tmp 6) (.tmp 15) rfl w2.heap.size [.bool true, .string ⟨lc.toArray⟩, .string ⟨dm.toArray⟩, .bool lt] rfl rfl pt_size (by simp [Value.oneCell']) (ptC Ma.zeroP) _ (heap_alloc_new w2 _) rfl ?_; intro w3 hc3 ho3 hs3 hb3; have HC3 := hid hc3; have hB3 := hb3 W (HB2.out.alloc _) HB2.out.size; have HB3 := hid hB3; obtain ⟨c0, c1, c2, f0, f1, f2⟩ := va_cells HII.out hB3; have d0 : w3.cell? ⟨w2.heap.size, 0, none⟩ = some (.bool true) := (by rw [Lib.cell_of_heap hc3]; rfl); have d2 : w3.cell? ⟨w2.heap.size, 2, none⟩ = some (.string ⟨dm.toArray⟩) := (by rw [Lib.cell_of_heap hc3]; rfl); clear hc3 ho3 hs3 hb3 hB3))
        exact va_stop HII.out HB3.out hD HSz.out HN.out
      | false =>
        by_cases h2 : dm = []
        · subst h2
          have hn : valF (splitL 44 s.data.toList) [] = none := by rw [HSt.out, if_pos (.inr (.inr rfl))]
          have HN := hid hn
          clear hn
          gi_wp2_with (first | (refine ⟨trivial, rfl, ?_⟩; gi_at_call 79; refine (CallsIn.inRound l (callsIn_wide.2 HT.out)).mono ?_; rintro e w1 ⟨rfl, hb1⟩; have HB1 := hid hb1; clear hb1) | (refine ⟨trivial, rfl, ?_⟩; gi_at_call 113; refine (CallsIn.inRound l (callsIn_wide.2 (HM.out w1 HB1.out))).mono ?_; rintro e w2 ⟨rfl, hb2⟩; have HB2 := hid (HB1.out.trans hb2); clear hb2) | (refine wpListIn_store_blk rfl 39 (.tmp 6) (.tmp 15) rfl w2.heap.size [.bool false, .string ⟨lc.toArray⟩, .string ⟨#[]⟩, .bool lt] rfl rfl pt_size (by simp [Value.oneCell']) (ptC Ma.zeroP) _ (heap_alloc_new w2 _) rfl ?_; intro w3 hc3 ho3 hs3 hb3; have HC3 := hid hc3; have hB3 := hb3 W (HB2.out.alloc _) HB2.out.size; have HB3 := hid hB3; obtain ⟨c0, c1, c2, f0, f1, f2⟩ := va_cells HII.out hB3; have d0 : w3.cell? ⟨w2.heap.size, 0, none⟩ = some (.bool false) := (by rw [Lib.cell_of_heap hc3]; rfl); have d2 : w3.cell? ⟨w2.heap.size, 2, none⟩ = some (.string ⟨#[]⟩) := (by rw [Lib.cell_of_heap hc3]; rfl); clear hc3 ho3 hs3 hb3 hB3))
          exact va_stop HII.out HB3.out hD HSz.out HN.out
        · have hn : valF ((splitL 44 s.data.toList).drop (k + 1)) (out ++ [⟨false, lc, dm, lt⟩]) = valF (splitL 44 s.data.toList) [] := by
            rw [HSt.out, if_neg (by rintro (h | h | h); exact h rfl; cases h; exact h2 h)]
          have HN := hid hn
          obtain ⟨dB, hdB⟩ : ∃ dB : ByteArray, dB = ⟨dm.toArray⟩ := ⟨_, rfl⟩
          have hdl : dB.data.toList = dm := by rw [hdB]
          have hb : dB.toList.isEmpty = false := by
            rw [ByteArray.toList_eq, hdl]
            cases dm with
            | nil => exact absurd rfl h2
            | cons => rfl
          have hb2 : (dB.toList == []) = false := by
            rw [ByteArray.toList_eq, hdl]
            cases dm with
            | nil => exact absurd rfl h2
            | cons => rfl
          have HDB := hid hdB
          have HM2 := (show Hid (∀ (W1 : World), Bel W W1 → Calls Tryz.prog 113 #[.string ⟨tm.toArray⟩] W1 fun e w' => e = .returned (.tuple #[.agg #[.bool false, .string ⟨lc.toArray⟩, .string dB, .bool lt], .int .i64 0]) ∧ Bel W1 w') from by rw [hdB]; exact HM.out)
          have RW := (show Hid (∀ w3, Bel W w3 → ∀ o, (w3.alloc o).ownsRow (w.heap.size + 8) 39 4 (.slice x out.length c) out.length (ptCs out)) from fun w3 hb o => (own_bel HII.out.row hb).alloc o)
          obtain ⟨i0, hi0, hz0, hz1, hz2⟩ := info_parts pt_infos
          clear hn hdB hdl HM h2
          generalize hnn : out.length = n at HII RW HLe
          have HNN := hid hnn
          have hnl : n ≤ 9223372036854775807 := by have := HLe.out; omega
          clear hnn
          gi_wp2_with (first | (refine ⟨trivial, rfl, ?_⟩; gi_at_call 79; refine (CallsIn.inRound l (callsIn_wide.2 HT.out)).mono ?_; rintro e w1 ⟨rfl, hb1⟩; have HB1 := hid hb1; clear hb1) | (refine ⟨trivial, rfl, ?_⟩; gi_at_call 113; refine (CallsIn.inRound l (callsIn_wide.2 (HM2.out w1 HB1.out))).mono ?_; rintro e w2 ⟨rfl, hb2⟩; have HB2 := hid (HB1.out.trans hb2); clear hb2) | (refine wpListIn_store_blk rfl 39 (.tmp 6) (.tmp 15) rfl w2.heap.size [.bool false, .string ⟨lc.toArray⟩, .string dB, .bool lt] rfl rfl pt_size (by simp [Value.oneCell']) (ptC Ma.zeroP) _ (heap_alloc_new w2 _) rfl ?_; intro w3 hc3 ho3 hs3 hb3; have HC3 := hid hc3; have hB3 := hb3 W (HB2.out.alloc _) HB2.out.size; have HB3 := hid hB3; obtain ⟨c0, c1, c2, f0, f1, f2⟩ := va_cells HII.out hB3; have d0 : w3.cell? ⟨w2.heap.size, 0, none⟩ = some (.bool false) := (by rw [Lib.cell_of_heap hc3]; rfl); have d2 : w3.cell? ⟨w2.heap.size, 2, none⟩ = some (.string dB) := (by rw [Lib.cell_of_heap hc3]; rfl); have d1 : w3.cell? ⟨w2.heap.size, 1, none⟩ = some (.string ⟨lc.toArray⟩) := (by rw [Lib.cell_of_heap hc3]; rfl); have d3 : w3.cell? ⟨w2.heap.size, 3, none⟩ = some (.bool lt) := (by rw [Lib.cell_of_heap hc3]; rfl); clear hc3 ho3 hs3 hb3 hB3) | (gi_at_builtin; refine wpListIn_append_own _ rfl _ _ 37 rfl (w.heap.size + 8) 39 i0 _ 4 48 Tryz.underlying37 hi0 hz0 hz1 hz2 rfl (by decide) (.slice x n c) n (ptCs out) rfl (RW.out _ HB3.out _) ⟨w3.heap.size, 0, none⟩ 1 1 [.bool false, .string ⟨lc.toArray⟩, .string dB, .bool lt] rfl rfl ?r1 (by simp [Value.oneCell']) ?r3 ?r4 ?r5 ?_))
          case r1 =>
            intro j u hj
            rw [addr_add, Nat.zero_add]
            have e := heap_alloc_new w3 (.cells #[.bool false, .string ⟨lc.toArray⟩, .string dB, .bool lt] 39)
            simp only [World.cell?, e]
            simpa using hj
          case r3 => have := HLe.out; unfold maxLen; omega
          case r4 => have := HLe.out; omega
          case r5 =>
            have h1 := HB3.out.size
            have h2 := HSz.out
            rw [World.size_alloc]; omega
          intro v' w4 hown hg _
          obtain ⟨x4, p4, rfl, -, -⟩ := row_shape hown
          have hbx := va_box HII.out HB3.out hg (by have := HSz.out; omega)
          have e2 : w4.cell? ⟨w.heap.size + 2, 0, none⟩ = some (.slice x n c) := by rw [Lib.cell_of_heap hbx]; rfl
          have g2 : w4.frozen? ⟨w.heap.size + 2, 0, none⟩ = false := Lib.frozen_of_heap hbx 0
          have HOW := hid hown
          have HGR := hid hg
          clear hown hg hbx
          gi_wp2
          refine va_next (p := ⟨false, lc, dm, lt⟩) H64.out HII.out HNN.out HB3.out ?_ hD HSz.out ?_ HN.out
          · rw [HDB.out] at HGR; exact HGR.out
          · rw [HDB.out] at HOW; exact HOW.out
    · have b1 : (e == 0) = false := by simpa using h1
      have hn : valF (splitL 44 s.data.toList) [] = none := by rw [HSt.out, if_pos (.inl h1)]
      have HN := hid hn
      clear hn
      gi_wp2_with (first | (refine ⟨trivial, rfl, ?_⟩; gi_at_call 79; refine (CallsIn.inRound l (callsIn_wide.2 HT.out)).mono ?_; rintro e w1 ⟨rfl, hb1⟩; have HB1 := hid hb1; clear hb1) | (refine ⟨trivial, rfl, ?_⟩; gi_at_call 113; refine (CallsIn.inRound l (callsIn_wide.2 (HM.out w1 HB1.out))).mono ?_; rintro e w2 ⟨rfl, hb2⟩; have HB2 := hid (HB1.out.trans hb2); clear hb2) | (refine wpListIn_store_blk rfl 39 (.tmp 6) (.tmp 15) rfl w2.heap.size [.bool nl, .string ⟨lc.toArray⟩, .string ⟨dm.toArray⟩, .bool lt] rfl rfl pt_size (by simp [Value.oneCell']) (ptC Ma.zeroP) _ (heap_alloc_new w2 _) rfl ?_; intro w3 hc3 ho3 hs3 hb3; have HC3 := hid hc3; have hB3 := hb3 W (HB2.out.alloc _) HB2.out.size; have HB3 := hid hB3; obtain ⟨c0, c1, c2, f0, f1, f2⟩ := va_cells HII.out hB3; have d0 : w3.cell? ⟨w2.heap.size, 0, none⟩ = some (.bool nl) := (by rw [Lib.cell_of_heap hc3]; rfl); have d2 : w3.cell? ⟨w2.heap.size, 2, none⟩ = some (.string ⟨dm.toArray⟩) := (by rw [Lib.cell_of_heap hc3]; rfl); clear hc3 ho3 hs3 hb3 hB3))
      exact va_stop HII.out HB3.out hD HSz.out HN.out
  case done =>
    intro W hJ hK
    obtain ⟨v, out, hI⟩ := hJ
    have hl : out.length = (pcV (splitL 44 s.data.toList)).length := hI.len
    have hle : out.length ≤ 4000001 := by
      rw [hl, pc_len, Ci.splitL_len]
      have := List.count_le_length (a := 44) (l := s.data.toList)
      have := HSL.out
      omega
    have hv : valF (splitL 44 s.data.toList) [] = some out := by
      rw [← hI.eq, pc_len, List.drop_length]; rfl
    have hvp : valP s.data.toList = (out, decide (out.length ≤ 100)) := by unfold valP; rw [hv]
    have HV := hid hvp
    obtain ⟨x, c, rfl, hc1, hc2⟩ := row_shape hI.row
    have c0 : W.cell? ⟨w.heap.size, 0, none⟩ = some (.slice none 0 0) := by rw [Lib.cell_of_heap hI.r0]; rfl
    have c1 : W.cell? ⟨w.heap.size + 1, 0, none⟩ = some (.bool false) := by rw [Lib.cell_of_heap hI.r1]; rfl
    have c2 : W.cell? ⟨w.heap.size + 1 + 1, 0, none⟩ = some (.slice x out.length c) := by rw [Lib.cell_of_heap hI.box]; rfl
    have f0 : W.frozen? ⟨w.heap.size, 0, none⟩ = false := Lib.frozen_of_heap hI.r0 0
    have f1 : W.frozen? ⟨w.heap.size + 1, 0, none⟩ = false := Lib.frozen_of_heap hI.r1 0
    have HII := hid hI
    have HL := hid hle
    clear hI hl hle hv hvp hc1 hc2
    generalize hn : out.length = n at c2 HV HL
    have HN := hid hn
    have hnle : n ≤ 9223372036854775807 := by have := HL.out; omega
    clear hn HSS HB0 HI HS
    gi_wp2
    gi_region
    all_goals gi_wp2
    have hI := HII.out
    have n1 : w.heap.size ≠ w.heap.size + 1 := by omega
    have k1 : (W.setCell ⟨w.heap.size, 0, none⟩ (.slice x n c)).heap[w.heap.size + 1]? = some (.cells #[.bool false] 4 (0, 0)) := (heap_setCell_other _ _ _ _ (Ne.symm n1)).trans hI.r1
    have k0 : ((W.setCell ⟨w.heap.size, 0, none⟩ (.slice x n c)).setCell ⟨w.heap.size + 1, 0, none⟩ (.bool (decide ((n : Int) ≤ 100)))).drew.heap[w.heap.size]? = some (.cells #[.slice x n c] 37 (0, 0)) := (heap_setCell_other _ _ _ _ n1).trans (heap_setCell_same W w.heap.size 0 _ _ (.slice x n c) hI.r0)
    have k2 : ((W.setCell ⟨w.heap.size, 0, none⟩ (.slice x n c)).setCell ⟨w.heap.size + 1, 0, none⟩ (.bool (decide ((n : Int) ≤ 100)))).drew.heap[w.heap.size + 1]? = some (.cells #[.bool (decide ((n : Int) ≤ 100))] 4 (0, 0)) := heap_setCell_same _ (w.heap.size + 1) 0 _ _ (.bool (decide ((n : Int) ≤ 100))) k1
    have kD : ((W.setCell ⟨w.heap.size, 0, none⟩ (.slice x n c)).setCell ⟨w.heap.size + 1, 0, none⟩ (.bool (decide ((n : Int) ≤ 100)))).drew.heap[W0.heap.size]? = some (.deferred (some [])) := (heap_setCell_other _ _ _ _ (show W0.heap.size ≠ w.heap.size + 1 by omega)).trans ((heap_setCell_other _ _ _ _ (show W0.heap.size ≠ w.heap.size by omega)).trans hK)
    obtain ⟨l0, l1⟩ := va_out k0 k2 hD
    have hle2 := hI.bel.size
    refine ⟨by simp, .inl ⟨_, _, rfl, run_takeDeferred kD, ?_⟩⟩
    refine ⟨.tuple #[.slice x n c, .bool (decide ((n : Int) ≤ 100))], by simp [results, Tryz.results65, asAddr, l0, l1], x, c, ?_, bel_turn (((hI.bel.setCell (Nat.le_refl _) _).setCell (Nat.le_succ _) _).drew) (grownBy_putObj' _ _ _) fun r e => by cases e; omega, ?_, ?_⟩
    · rw [HV.out]
      show _ = Ending.returned (.tuple #[.slice x out.length c, .bool (decide (n ≤ 100))])
      have : decide ((n : Int) ≤ 100) = decide (n ≤ 100) := by rw [decide_eq_decide]; omega
      rw [HN.out, this]
    · rw [HV.out]
      show Pts _ x out
      have h1 : W.ownsRow (w.heap.size + 8) 39 4 (.slice x out.length c) out.length (ptCs out) := hI.row
      have h2 := ((ownsRow_setCell_below (ownsRow_setCell_below h1 (a := ⟨w.heap.size, 0, none⟩) (by show w.heap.size < _; omega) (.slice x n c)) (a := ⟨w.heap.size + 1, 0, none⟩) (by show w.heap.size + 1 < _; omega) (.bool (decide ((n : Int) ≤ 100)))).drew)
      refine pts_of_row (base := w.heap.size + 8) (c := c) (h2.kept (grownBy_putObj' _ W0.heap.size _) ?_)
      rcases h2.2 with ⟨e, -⟩ | ⟨g, cap, cur, e, hg, hcc, -⟩
      · rw [e]; exact .inl rfl
      · rw [e]
        refine .inr fun e2 => ?_
        have e3 : g = W0.heap.size := Option.some.inj e2
        rw [e3, kD] at hcc
        cases hcc
    · rintro ad rfl
      rcases hI.row.2 with ⟨e, -⟩ | ⟨g, cap, cur, e, hg, -⟩
      · cases (Value.slice.inj e).1
      · cases (Value.slice.inj e).1
        exact Nat.le_trans (Nat.le_add_right _ _) hg
  case stop =>
    intro W hX hK
    gi_wp2
    obtain ⟨l0, l1⟩ := va_out hX.r0 hX.r1 hD
    refine ⟨by simp, .inl ⟨_, _, rfl, run_takeDeferred hK, ?_⟩⟩
    have hvp : valP s.data.toList = ([], false) := by unfold valP; rw [hX.eq]
    refine ⟨.tuple #[.slice none 0 0, .bool false], by simp [results, Tryz.results65, asAddr, l0, l1], none, 0, by rw [hvp]; rfl, bel_turn hX.bel (grownBy_putObj' _ _ _) fun r e => by cases e; omega, by rw [hvp]; exact ⟨.inl rfl⟩, fun ad h => by cases h⟩
end Go.Proofs.YtpmmaickjolimaaGreatDoor.Tb

/- Walks: slices.Contains of paths; right, Direct of alias. -/
namespace Go.Proofs.YtpmmaickjolimaaGreatDoor.Tb
open Go.RowKit
open Ci (Bel hid own_bel row_shape own_base addr_add splitL Aft wp_region_aft quiet_load_aft)
open Ma (Pt Pts ptC ptCs mbQ Mailbox_run pt_infos pt_size ptCs_snoc ptCs_at rightP good_small)

theorem parse_vals (bad : Int) : ∀ (ls : List Ln) (es es' : List En), parseF bad ls es = some es' → (∀ e ∈ es, e.val.length ≤ 1000) → ∀ e ∈ es', e.val.length ≤ 1000
  | [], es, es', h, he => by
    unfold parseF at h
    split at h
    · cases h; exact he
    · cases h
  | x :: r, es, es', h, he => by
    unfold parseF at h
    split at h
    · cases h
    · split at h
      · cases h
      · rename_i h1
        split at h
        · cases h
        · split at h
          · cases h
          · refine parse_vals bad r _ es' h fun e hm => ?_
            unfold putE at hm
            rcases List.mem_append.1 hm with hm | hm
            · exact he e (List.mem_of_mem_take hm)
            · rcases List.mem_cons.1 hm with rfl | hm
              · have : ¬ 1000 < (Lib.join x.pcs [32]).length := fun hh => h1 (.inr (.inr hh))
                exact Nat.le_of_not_lt this
              · exact he e (List.mem_of_mem_drop hm)
def ValsOk (es : List En) : Prop := ∀ e ∈ es, e.val.length ≤ 1000
theorem tparse_vals {s : List UInt8} {es : List En} (h : tparse s = some es) : ValsOk es := by
  unfold tparse at h
  split at h
  · cases h
  · exact parse_vals _ _ _ _ h fun e he => by cases he
theorem exact_val {es : List En} {k v : List UInt8} (he : ValsOk es) (h : exactQ es k = some v) : v.length ≤ 1000 := by
  unfold exactQ at h
  split at h
  · obtain ⟨e, h1, rfl⟩ := Option.map_eq_some_iff.1 h
    exact he e (List.mem_of_getElem? h1)
  · cases h
theorem addr_val {es : List En} {l d v : List UInt8} (he : ValsOk es) (h : addrQ es l d = some v) : v.length ≤ 1000 := by
  unfold addrQ at h
  split at h
  · rename_i v' h1
    cases h
    exact exact_val he h1
  · exact exact_val he h
theorem ask_val {ts : List (List En)} {l d v : List UInt8} (he : ∀ es ∈ ts, ValsOk es) (h : askQ ts l d = some v) : v.length ≤ 1000 := by
  unfold askQ at h
  obtain ⟨es, h1, h2⟩ := List.exists_of_findSome?_eq_some h
  exact addr_val (he es h1) h2
theorem tail_good {s loc : List UInt8} {n : Nat} (h : (Ma.tailP s loc n).2.2 = 0) (hd : (Ma.tailP s loc n).1.dom ≠ []) : rightP (Ma.tailP s loc n).1 = 0 := by
  unfold Ma.tailP at h hd ⊢
  split at h
  · exact absurd h (by decide)
  · rename_i h1
    rw [if_neg h1] at hd ⊢
    split at h
    · rename_i h2
      rw [if_pos h2] at hd ⊢
      simp only at h hd ⊢
      split at h
      · exact h
      · rename_i h3; exact absurd h h3
    · rename_i h2
      rw [if_neg h2] at hd ⊢
      split at h
      · rename_i h3
        rw [if_pos h3] at hd
        exact absurd rfl hd
      · exact absurd h (by decide)
theorem mb_good {s : List UInt8} (h : ¬ ((mbQ s).2 ≠ 0 ∨ (mbQ s).1.null = true ∨ (mbQ s).1.dom = [])) : Ma.Good (mbQ s).1 := by
  simp only [not_or, Decidable.not_not] at h
  obtain ⟨h1, h2, h3⟩ := h
  refine ⟨by simpa using h2, h3, ?_⟩
  unfold mbQ at h1 h3 ⊢
  split at h1
  · rename_i h0
    rw [if_pos h0] at h3
    exact absurd rfl h3
  · rename_i h0
    rw [if_neg h0] at h3 ⊢
    split at h1
    · cases h1
    · rename_i h4
      rw [if_neg h4] at h3 ⊢
      split at h1
      · rename_i h5; exact absurd h1 h5
      · rename_i h5
        rw [if_neg h5] at h3 ⊢
        exact tail_good (Decidable.not_not.1 h5) h3
theorem val_good : ∀ (ps : List (List UInt8)) (out l : List Pt), valF ps out = some l → (∀ p ∈ out, Ma.Good p) → ∀ p ∈ l, Ma.Good p
  | [], out, l, h, ho => by cases h; exact ho
  | s :: r, out, l, h, ho => by
    unfold valF at h
    split at h
    · cases h
    · rename_i h1
      refine val_good r _ l h fun p hp => ?_
      rcases List.mem_append.1 hp with hp | hp
      · exact ho p hp
      · rw [List.mem_singleton.1 hp]; exact mb_good h1
theorem valP_good (v : List UInt8) : ∀ p ∈ (valP v).1, Ma.Good p := by
  unfold valP
  split
  · intro p hp; cases hp
  · rename_i l h
    exact val_good _ _ l h fun p hp => by cases hp
def dirV : Option (List UInt8) → List Pt × Bool
  | none => ([], false)
  | some v => valP v
/-- What a mailbox stands for at once. -/
def directQ (ts : List (List En)) (p : Pt) : List Pt × Bool :=
  if rightP p ≠ 0 ∨ p.null = true ∨ p.lit = true ∨ p.dom = [] then ([], false)
  else dirV (askQ ts p.loc p.dom)
theorem direct_good (ts : List (List En)) (p : Pt) : ∀ q ∈ (directQ ts p).1, Ma.Good q := by
  unfold directQ
  split
  · intro q hq; cases hq
  · cases askQ ts p.loc p.dom with
    | none => intro q hq; cases hq
    | some v => exact valP_good v
set_option maxRecDepth 100000 in
theorem vright_run (s : ByteArray) (w : World) (hw : Lat w) (hs : s.size ≤ 4000000) : Calls Tryz.prog 58 #[.string s] w fun e w' => e = .returned (.bool (valP s.data.toList).2) ∧ Bel w w' := by
  have HV := hid (value_run s w hw hs)
  clear hw
  go_enter Tryz.func58, Tryz.ntmps58
  go_wp2_with (first | (go_at_call 65; refine HV.out.mono ?_; rintro e w1 ⟨x, c, rfl, hb1, -⟩))
  go_ret
  exact ⟨rfl, hb1⟩
theorem str_inj {a b : List UInt8} : ((⟨a.toArray⟩ : ByteArray) = ⟨b.toArray⟩) ↔ a = b := by
  constructor
  · intro h
    have := congrArg (fun x : ByteArray => x.data.toList) h
    simpa using this
  · rintro rfl; rfl
theorem eq_ptc (p q : Pt) (w : World) : (Op.equalIn 10000 39 (.agg (ptC p).toArray) (.agg (ptC q).toArray)).run Tryz.prog w = .ok (decide (p = q)) w := by
  obtain ⟨n1, l1, d1, t1⟩ := p
  obtain ⟨n2, l2, d2, t2⟩ := q
  refine (Ma.eq_pt n1 ⟨l1.toArray⟩ ⟨d1.toArray⟩ t1 n2 ⟨l2.toArray⟩ ⟨d2.toArray⟩ t2 w).trans ?_
  have : decide (n1 = n2 ∧ (⟨l1.toArray⟩ : ByteArray) = ⟨l2.toArray⟩ ∧ (⟨d1.toArray⟩ : ByteArray) = ⟨d2.toArray⟩ ∧ t1 = t2) = decide ((⟨n1, l1, d1, t1⟩ : Pt) = ⟨n2, l2, d2, t2⟩) := by
    rw [decide_eq_decide, str_inj, str_inj]
    constructor
    · rintro ⟨rfl, rfl, rfl, rfl⟩; rfl
    · intro h; cases h; exact ⟨rfl, rfl, rfl, rfl⟩
  rw [this]
set_option maxHeartbeats 2000000 in
set_option maxRecDepth 100000 in
theorem pindex_run (x : Option Addr) (l : List Pt) (c : Nat) (p : Pt) (w : World) (hL : Pts w x l) (hn : l.length ≤ 9223372036854775807) :
    Calls Tryz.prog 108 #[.slice x l.length c, .agg (ptC p).toArray] w fun e w' => (∃ i : Int, e = .returned (.int .i64 i) ∧ decide (0 ≤ i) = decide (p ∈ l)) ∧ Bel w w' := by
  obtain ⟨nl, lc, dm, lt⟩ := p
  have HL := hid hL
  have HB0 := hid ((Bel.refl w).alloc (.cells #[.bool nl, .string ⟨lc.toArray⟩, .string ⟨dm.toArray⟩, .bool lt] 39))
  have HC0 := hid (heap_alloc_new w (.cells #[.bool nl, .string ⟨lc.toArray⟩, .string ⟨dm.toArray⟩, .bool lt] 39))
  clear hL
  show Calls _ _ #[.slice x l.length c, .agg #[.bool nl, .string ⟨lc.toArray⟩, .string ⟨dm.toArray⟩, .bool lt]] _ _
  go_enter Tryz.func108, Tryz.ntmps108
  go_wp2_with fail
  generalize w.alloc (.cells #[.bool nl, .string ⟨lc.toArray⟩, .string ⟨dm.toArray⟩, .bool lt] 39) = w1 at HB0 HC0 ⊢
  go_loopg [5, 8] l.length (fun gg v5 v8 wr => ∃ k : Nat, v8 = .int .i64 k ∧ k + gg = l.length ∧ Hid (Bel w1 wr ∧ ∀ j (hj : j < l.length), j < k → l[j] ≠ ⟨nl, lc, dm, lt⟩))
  case atStart => exact ⟨0, rfl, by omega, hid ⟨Bel.refl w1, fun j _ h => absurd h (Nat.not_lt_zero _)⟩⟩
  case round =>
    obtain ⟨k, rfl, hk, HB⟩ := hrel
    have Hk := hid hk
    have hkn : k ≤ l.length := by omega
    clear hk
    by_cases hlt : k < l.length
    · obtain ⟨b, o, rfl, hr⟩ := (HL.out.next (HB0.out.trans HB.out.1)).place hlt
      have K1 := hid (fun q : Aft wr => show q.wd.rangeAt b (o + k * 4) (ptC l[k]) from by
        obtain ⟨b2, o2, e, hr2⟩ := (HL.out.next (HB0.out.trans (HB.out.1.trans q.bel))).place hlt
        cases e; exact hr2)
      have K2 := hid (fun q : Aft wr => show q.wd.rangeAt w.heap.size 0 (ptC ⟨nl, lc, dm, lt⟩) from Ci.range_of ((HB.out.1.trans q.bel).heap HC0.out) fun j v hv => by rw [Nat.zero_add]; exact hv)
      have HE := fun W => eq_ptc ⟨nl, lc, dm, lt⟩ l[k] W
      have b1 : decide ((k : Int) < 0) = false := decide_eq_false (by omega)
      have b2 : decide ((l.length : Int) ≤ (k : Int)) = false := decide_eq_false (by omega)
      clear hr
      by_cases heq : (⟨nl, lc, dm, lt⟩ : Pt) = l[k]
      · rw [decide_eq_true heq] at HE
        have HQ := hid heq
        clear heq
        have HLT := hid hlt
        generalize hlk : l[k] = lk at HE K1 HQ
        have HLK := hid hlk
        clear hlk
        go_wp2_with fail
        refine wp_region_aft (by kernel_rfl) (by kernel_rfl) ?_
        repeat (first
          | go_big_quiet_skip
          | (refine quiet_load_aft 39 _ rfl w.heap.size 0 rfl (ptC ⟨nl, lc, dm, lt⟩) _ K2.out Tryz.underlying39 rfl pt_size (by rfl) ?_; intro a' ha'; simp only [Act.put, List.setIfInBounds_toArray, List.set_cons_succ, List.set_cons_zero] at ha'; subst ha')
          | (refine quiet_load_aft 39 _ rfl b (o + k * 4) rfl (ptC lk) _ K1.out Tryz.underlying39 rfl pt_size (by rfl) ?_; intro a' ha'; simp only [Act.put, List.setIfInBounds_toArray, List.set_cons_succ, List.set_cons_zero] at ha'; subst ha')
          | go_big_quiet_step (fail)
          | quiet_step (fail))
        refine wpQuiet_nil ?_
        rintro _ ⟨q, rfl⟩
        go_wp2_with fail
        go_ret
        refine ⟨⟨k, rfl, ?_⟩, HB0.out.trans (HB.out.1.trans q.bel)⟩
        rw [decide_eq_decide]
        exact ⟨fun _ => by rw [HQ.out, ← HLK.out]; exact List.getElem_mem hlt, fun _ => Int.natCast_nonneg k⟩
      · rw [decide_eq_false heq] at HE
        have HQ := hid heq
        clear heq
        have HLT := hid hlt
        generalize hlk : l[k] = lk at HE K1 HQ
        have HLK := hid hlk
        clear hlk
        go_wp2_with fail
        refine wp_region_aft (by kernel_rfl) (by kernel_rfl) ?_
        repeat (first
          | go_big_quiet_skip
          | (refine quiet_load_aft 39 _ rfl w.heap.size 0 rfl (ptC ⟨nl, lc, dm, lt⟩) _ K2.out Tryz.underlying39 rfl pt_size (by rfl) ?_; intro a' ha'; simp only [Act.put, List.setIfInBounds_toArray, List.set_cons_succ, List.set_cons_zero] at ha'; subst ha')
          | (refine quiet_load_aft 39 _ rfl b (o + k * 4) rfl (ptC lk) _ K1.out Tryz.underlying39 rfl pt_size (by rfl) ?_; intro a' ha'; simp only [Act.put, List.setIfInBounds_toArray, List.set_cons_succ, List.set_cons_zero] at ha'; subst ha')
          | go_big_quiet_step (fail)
          | quiet_step (fail))
        refine wpQuiet_nil ?_
        rintro _ ⟨q, rfl⟩
        go_wp2_with fail
        go_roundg (gk - 1)
        case measure => have := Hk.out; omega
        case rel => exact ⟨k + 1, by go_num, by have := Hk.out; omega, hid ⟨HB.out.1.trans q.bel, fun j hj hjk => by
          by_cases e : j = k
          · subst e; exact fun h => HQ.out (HLK.out ▸ h).symm
          · exact HB.out.2 j hj (by omega)⟩⟩
    · obtain rfl : k = l.length := by omega
      go_wp2_with fail
      go_ret
      refine ⟨⟨-1, rfl, ?_⟩, HB0.out.trans HB.out.1⟩
      rw [decide_eq_decide]
      refine ⟨fun h => by omega, fun h => ?_⟩
      obtain ⟨j, hj, e⟩ := List.getElem_of_mem h
      exact absurd e (HB.out.2 j hj hj)
set_option maxRecDepth 100000 in
theorem pcontains_run (x : Option Addr) (l : List Pt) (c : Nat) (p : Pt) (w : World) (hL : Pts w x l) (hn : l.length ≤ 9223372036854775807) :
    Calls Tryz.prog 62 #[.slice x l.length c, .agg (ptC p).toArray] w fun e w' => e = .returned (.bool (decide (p ∈ l))) ∧ Bel w w' := by
  have HI := (show Hid (∀ W, Bel w W → Calls Tryz.prog 108 #[.slice x l.length c, .agg (ptC p).toArray] W fun e w' => (∃ i : Int, e = .returned (.int .i64 i) ∧ decide (0 ≤ i) = decide (p ∈ l)) ∧ Bel W w') from fun W hb => pindex_run x l c p W (hL.next hb) hn)
  generalize decide (p ∈ l) = r at HI ⊢
  clear hL hn
  generalize l.length = n at HI ⊢
  obtain ⟨nl, lc, dm, lt⟩ := p
  have HB0 := hid ((Bel.refl w).alloc (.cells #[.bool nl, .string ⟨lc.toArray⟩, .string ⟨dm.toArray⟩, .bool lt] 39))
  show Calls _ _ #[.slice x n c, .agg #[.bool nl, .string ⟨lc.toArray⟩, .string ⟨dm.toArray⟩, .bool lt]] _ _
  go_enter Tryz.func62, Tryz.ntmps62
  go_wp2_with (first | (go_at_call 108; refine (HI.out _ HB0.out).mono ?_; rintro e w1 ⟨⟨i, rfl, rfl⟩, hb1⟩))
  go_ret
  exact ⟨rfl, HB0.out.trans hb1⟩
/-- Whom addresses stand for, in memory. -/
structure AlAt (W : World) (a : Option Addr) (ts : List (List En)) : Prop where
  at_ : ∃ b ch, a = some ⟨b, 0, none⟩ ∧ W.heap[b]? = some (.cells #[.pointer ch] 109 (0, 0)) ∧ ChAt W ch ts
  vals : ∀ es ∈ ts, ValsOk es
theorem AlAt.next {W W' : World} {a : Option Addr} {ts : List (List En)} (h : AlAt W a ts) (hb : Bel W W') : AlAt W' a ts := by
  obtain ⟨b, ch, e, h1, h2⟩ := h.at_
  exact ⟨⟨b, ch, e, hb.heap h1, h2.next hb⟩, h.vals⟩
set_option maxHeartbeats 2000000 in
set_option maxRecDepth 100000 in
theorem direct_run (a : Option Addr) (ts : List (List En)) (p : Pt) (w : World) (hw : Lat w) (hA : AlAt w a ts) (hl : p.loc.length ≤ 4194304) (hd : p.dom.length ≤ 4194304) :
    Calls Tryz.prog 24 #[.pointer a, .agg (ptC p).toArray] w fun e w' => ∃ x c, e = .returned (.tuple #[.slice x (directQ ts p).1.length c, .bool (directQ ts p).2]) ∧ Bel w w' ∧ Pts w' x (directQ ts p).1 ∧ ∀ ad, x = some ad → w.heap.size ≤ ad.block := by
  obtain ⟨b, ch, rfl, hb, hC⟩ := hA.at_
  obtain ⟨nl, lc, dm, lt⟩ := p
  simp only at hl hd
  have HW := hid hw
  have HR := (show Hid (∀ W, Bel w W → Calls Tryz.prog 49 #[.agg #[.bool nl, .string ⟨lc.toArray⟩, .string ⟨dm.toArray⟩, .bool lt]] W fun e w' => e = .returned (.int .i64 (rightP ⟨nl, lc, dm, lt⟩)) ∧ Bel W w') from fun W hb => Ma.right_run nl ⟨lc.toArray⟩ ⟨dm.toArray⟩ lt W (hw.next hb).lay (by rw [Lib.size_eq]; exact hl) (by rw [Lib.size_eq]; exact hd))
  have HX : Hid (directQ ts ⟨nl, lc, dm, lt⟩ = if rightP ⟨nl, lc, dm, lt⟩ ≠ 0 ∨ nl = true ∨ lt = true ∨ dm = [] then ([], false) else dirV (askQ ts lc dm)) := hid rfl
  have HA := (show Hid (∀ W, Bel w W → Calls Tryz.prog 64 #[.pointer ch, .string ⟨lc.toArray⟩, .string ⟨dm.toArray⟩] W fun e w' => e = .returned (.tuple (optV (askQ ts lc dm))) ∧ Bel W w') from fun W hb => chAddr_run ch ts ⟨lc.toArray⟩ ⟨dm.toArray⟩ W (hw.next hb) (hC.next hb) (by rw [Lib.size_eq]; exact hl) (by rw [Lib.size_eq]; exact hd))
  have HV := (show Hid (∀ v W, askQ ts lc dm = some v → Bel w W → Calls Tryz.prog 65 #[.string ⟨v.toArray⟩] W fun e w' => ∃ x c, e = .returned (.tuple #[.slice x (valP v).1.length c, .bool (valP v).2]) ∧ Bel W w' ∧ Pts w' x (valP v).1 ∧ ∀ ad, x = some ad → W.heap.size ≤ ad.block) from fun v W hv hb => value_run ⟨v.toArray⟩ W (hw.next hb) (by rw [Lib.size_eq]; have := ask_val hA.vals hv; show v.length ≤ _; omega))
  generalize rightP ⟨nl, lc, dm, lt⟩ = r at HR HX
  generalize askQ ts lc dm = q at HA HX HV
  generalize directQ ts ⟨nl, lc, dm, lt⟩ = D at HX ⊢
  have HB0 := hid ((Bel.refl w).alloc (.cells #[.bool nl, .string ⟨lc.toArray⟩, .string ⟨dm.toArray⟩, .bool lt] 39))
  have HC0 := hid (heap_alloc_new w (.cells #[.bool nl, .string ⟨lc.toArray⟩, .string ⟨dm.toArray⟩, .bool lt] 39))
  have HAB := hid hb
  clear hw hA hC hl hd hb
  show Calls _ _ #[.pointer (some ⟨b, 0, none⟩), .agg #[.bool nl, .string ⟨lc.toArray⟩, .string ⟨dm.toArray⟩, .bool lt]] _ _
  by_cases h1 : r = 0
  · subst h1
    cases nl with
    | true =>
      have HY := hid (show D = ([], false) by rw [HX.out, if_pos (.inr (.inl rfl))])
      clear HX
      go_enter Tryz.func24, Tryz.ntmps24
      go_wp2_with (first | (go_at_call 49; refine (HR.out _ HB0.out).mono ?_; rintro e w1 ⟨rfl, hb1⟩; have HB1 := hid (HB0.out.trans hb1); have hc1 := hb1.heap HC0.out; have d0 : w1.cell? ⟨w.heap.size, 0, none⟩ = some (.bool true) := (by rw [Lib.cell_of_heap hc1]; rfl); clear hb1 hc1))
      exact bodyPost_ret (v := .tuple #[.slice none 0 0, .bool false]) (by simp [results, Tryz.results24, go_sem]) rfl ⟨none, 0, by rw [HY.out]; rfl, HB1.out, by rw [HY.out]; exact ⟨.inl rfl⟩, fun ad h => by cases h⟩
    | false =>
      cases lt with
      | true =>
        have HY := hid (show D = ([], false) by rw [HX.out, if_pos (.inr (.inr (.inl rfl)))])
        clear HX
        go_enter Tryz.func24, Tryz.ntmps24
        go_wp2_with (first | (go_at_call 49; refine (HR.out _ HB0.out).mono ?_; rintro e w1 ⟨rfl, hb1⟩; have HB1 := hid (HB0.out.trans hb1); have hc1 := hb1.heap HC0.out; have d0 : w1.cell? ⟨w.heap.size, 0, none⟩ = some (.bool false) := (by rw [Lib.cell_of_heap hc1]; rfl); have d3 : w1.cell? ⟨w.heap.size, 3, none⟩ = some (.bool true) := (by rw [Lib.cell_of_heap hc1]; rfl); have HC1 := hid hc1; clear hb1 hc1))
        exact bodyPost_ret (v := .tuple #[.slice none 0 0, .bool false]) (by simp [results, Tryz.results24, go_sem]) rfl ⟨none, 0, by rw [HY.out]; rfl, HB1.out, by rw [HY.out]; exact ⟨.inl rfl⟩, fun ad h => by cases h⟩
      | false =>
        by_cases h2 : dm = []
        · subst h2
          have HY := hid (show D = ([], false) by rw [HX.out, if_pos (.inr (.inr (.inr rfl)))])
          clear HX
          go_enter Tryz.func24, Tryz.ntmps24
          go_wp2_with (first | (go_at_call 49; refine (HR.out _ HB0.out).mono ?_; rintro e w1 ⟨rfl, hb1⟩; have HB1 := hid (HB0.out.trans hb1); have hc1 := hb1.heap HC0.out; have d0 : w1.cell? ⟨w.heap.size, 0, none⟩ = some (.bool false) := (by rw [Lib.cell_of_heap hc1]; rfl); have d3 : w1.cell? ⟨w.heap.size, 3, none⟩ = some (.bool false) := (by rw [Lib.cell_of_heap hc1]; rfl); have d2 : w1.cell? ⟨w.heap.size, 2, none⟩ = some (.string ⟨#[]⟩) := (by rw [Lib.cell_of_heap hc1]; rfl); have HC1 := hid hc1; clear hb1 hc1))
          exact bodyPost_ret (v := .tuple #[.slice none 0 0, .bool false]) (by simp [results, Tryz.results24, go_sem]) rfl ⟨none, 0, by rw [HY.out]; rfl, HB1.out, by rw [HY.out]; exact ⟨.inl rfl⟩, fun ad h => by cases h⟩
        obtain ⟨dB, hdB⟩ : ∃ dB : ByteArray, dB = ⟨dm.toArray⟩ := ⟨_, rfl⟩
        have hdl : dB.data.toList = dm := by rw [hdB]
        have hb : dB.toList.isEmpty = false := by
          rw [ByteArray.toList_eq, hdl]
          cases dm with
          | nil => exact absurd rfl h2
          | cons => rfl
        have hb2 : (dB.toList == []) = false := by
          rw [ByteArray.toList_eq, hdl]
          cases dm with
          | nil => exact absurd rfl h2
          | cons => rfl
        have HX2 := hid (show D = dirV q from by rw [HX.out, if_neg (by rintro (h | h | h | h); exact h rfl; cases h; cases h; exact h2 h)])
        rw [← hdB] at HB0 HC0 HR HA ⊢
        clear HX h2 hdl hdB
        cases q with
        | none =>
          have HY := hid (show D = ([], false) from HX2.out)
          have HA := (show Hid (∀ (W : World), Bel w W → Calls Tryz.prog 64 #[.pointer ch, .string ⟨lc.toArray⟩, .string dB] W fun e w' => e = .returned (.tuple #[.string ⟨#[]⟩, .bool false]) ∧ Bel W w') from HA.out)
          go_enter Tryz.func24, Tryz.ntmps24
          go_upto_region 3 with (first | (go_at_call 49; refine (HR.out _ HB0.out).mono ?_; rintro e w1 ⟨rfl, hb1⟩; have HB1 := hid (HB0.out.trans hb1); have hc1 := hb1.heap HC0.out; have d0 : w1.cell? ⟨w.heap.size, 0, none⟩ = some (.bool false) := (by rw [Lib.cell_of_heap hc1]; rfl); have d3 : w1.cell? ⟨w.heap.size, 3, none⟩ = some (.bool false) := (by rw [Lib.cell_of_heap hc1]; rfl); have d2 : w1.cell? ⟨w.heap.size, 2, none⟩ = some (.string dB) := (by rw [Lib.cell_of_heap hc1]; rfl); have HC1 := hid hc1; clear hb1 hc1))
          have k0 : ∀ q : Aft w1, q.wd.cell? ⟨b, 0, none⟩ = some (.pointer ch) := fun q => by rw [Lib.cell_of_heap ((HB1.out.trans q.bel).heap HAB.out)]; rfl
          have k1 : ∀ q : Aft w1, q.wd.cell? ⟨w.heap.size, 1, none⟩ = some (.string ⟨lc.toArray⟩) := fun q => by rw [Lib.cell_of_heap (q.bel.heap HC1.out)]; rfl
          have k2 : ∀ q : Aft w1, q.wd.cell? ⟨w.heap.size, 2, none⟩ = some (.string dB) := fun q => by rw [Lib.cell_of_heap (q.bel.heap HC1.out)]; rfl
          have HAq := hid (fun q : Aft w1 => HA.out q.wd (HB1.out.trans q.bel))
          refine wp_region_aft (by kernel_rfl) (by kernel_rfl) ?_
          repeat (first
            | go_big_quiet_skip
            | go_big_quiet_step (first | (go_at_call 64; exact Ci.Calls.aft (HAq.out _)))
            | quiet_step (first | (go_at_call 64; exact Ci.Calls.aft (HAq.out _))))
          refine wpQuiet_nil ?_
          rintro _ ⟨q3, rfl⟩
          go_wp2_with fail
          exact bodyPost_ret (v := .tuple #[.slice none 0 0, .bool false]) (by simp [results, Tryz.results24, go_sem]) rfl ⟨none, 0, by rw [HY.out]; rfl, HB1.out.trans q3.bel, by rw [HY.out]; exact ⟨.inl rfl⟩, fun ad h => by cases h⟩
        | some v =>
          have HY := hid (show D = valP v from HX2.out)
          have HV := (show Hid (∀ W, Bel w W → Calls Tryz.prog 65 #[.string ⟨v.toArray⟩] W fun e w' => ∃ x c, e = .returned (.tuple #[.slice x (valP v).1.length c, .bool (valP v).2]) ∧ Bel W w' ∧ Pts w' x (valP v).1 ∧ ∀ ad, x = some ad → W.heap.size ≤ ad.block) from fun W hb => HV.out v W rfl hb)
          have HA := (show Hid (∀ (W : World), Bel w W → Calls Tryz.prog 64 #[.pointer ch, .string ⟨lc.toArray⟩, .string dB] W fun e w' => e = .returned (.tuple #[.string ⟨v.toArray⟩, .bool true]) ∧ Bel W w') from HA.out)
          go_enter Tryz.func24, Tryz.ntmps24
          go_upto_region 3 with (first | (go_at_call 49; refine (HR.out _ HB0.out).mono ?_; rintro e w1 ⟨rfl, hb1⟩; have HB1 := hid (HB0.out.trans hb1); have hc1 := hb1.heap HC0.out; have d0 : w1.cell? ⟨w.heap.size, 0, none⟩ = some (.bool false) := (by rw [Lib.cell_of_heap hc1]; rfl); have d3 : w1.cell? ⟨w.heap.size, 3, none⟩ = some (.bool false) := (by rw [Lib.cell_of_heap hc1]; rfl); have d2 : w1.cell? ⟨w.heap.size, 2, none⟩ = some (.string dB) := (by rw [Lib.cell_of_heap hc1]; rfl); have HC1 := hid hc1; clear hb1 hc1))
          have k0 : ∀ q : Aft w1, q.wd.cell? ⟨b, 0, none⟩ = some (.pointer ch) := fun q => by rw [Lib.cell_of_heap ((HB1.out.trans q.bel).heap HAB.out)]; rfl
          have k1 : ∀ q : Aft w1, q.wd.cell? ⟨w.heap.size, 1, none⟩ = some (.string ⟨lc.toArray⟩) := fun q => by rw [Lib.cell_of_heap (q.bel.heap HC1.out)]; rfl
          have k2 : ∀ q : Aft w1, q.wd.cell? ⟨w.heap.size, 2, none⟩ = some (.string dB) := fun q => by rw [Lib.cell_of_heap (q.bel.heap HC1.out)]; rfl
          have HAq := hid (fun q : Aft w1 => HA.out q.wd (HB1.out.trans q.bel))
          refine wp_region_aft (by kernel_rfl) (by kernel_rfl) ?_
          repeat (first
            | go_big_quiet_skip
            | go_big_quiet_step (first | (go_at_call 64; exact Ci.Calls.aft (HAq.out _)))
            | quiet_step (first | (go_at_call 64; exact Ci.Calls.aft (HAq.out _))))
          refine wpQuiet_nil ?_
          rintro _ ⟨q3, rfl⟩
          go_wp2_with (first | (go_at_call 65; refine (HV.out _ (HB1.out.trans q3.bel)).mono ?_; rintro e w4 ⟨x, c, rfl, hb4, hp4, hf4⟩))
          exact bodyPost_ret (v := .tuple #[.slice x (valP v).1.length c, .bool (valP v).2]) (by simp [results, Tryz.results24, go_sem]) rfl ⟨x, c, by rw [HY.out], HB1.out.trans (q3.bel.trans hb4), by rw [HY.out]; exact hp4, fun ad h => Nat.le_trans (HB1.out.trans q3.bel).size (hf4 ad h)⟩
  · have b1 : (r == 0) = false := by simpa using h1
    have HY := hid (show D = ([], false) by rw [HX.out, if_pos (.inl h1)])
    clear HX
    go_enter Tryz.func24, Tryz.ntmps24
    go_wp2_with (first | (go_at_call 49; refine (HR.out _ HB0.out).mono ?_; rintro e w1 ⟨rfl, hb1⟩; have HB1 := hid (HB0.out.trans hb1); clear hb1))
    exact bodyPost_ret (v := .tuple #[.slice none 0 0, .bool false]) (by simp [results, Tryz.results24, go_sem]) rfl ⟨none, 0, by rw [HY.out]; rfl, HB1.out, by rw [HY.out]; exact ⟨.inl rfl⟩, fun ad h => by cases h⟩
end Go.Proofs.YtpmmaickjolimaaGreatDoor.Tb
