/- Walks: the deferred closure of Expand of alias; Expand. -/
import Derived.Test.YtpmmaickjolimaaGreatDoorJ21
import Derived.Recover
import Derived.Laws.EntriesVeiled
import Derived.Tactics2
namespace Go.Proofs.YtpmmaickjolimaaGreatDoor.Tb
open Go.RowKit
open Ci (Bel hid own_bel row_shape own_base addr_add splitL Aft wp_region_aft quiet_load_aft)
open Ma (Pt Pts ptC ptCs mbQ Mailbox_run pt_infos pt_size ptCs_snoc ptCs_at rightP good_small)
open Ex (Xs findX goX expX)

set_option maxHeartbeats 2000000 in
set_option maxRecDepth 100000 in
theorem catch_stop (bo b3 : Nat) (v0 v3 : Value) (code : Int) (w : World) (h0 : w.heap[bo]? = some (.cells #[v0] 37 (0, 0))) (h3 : w.heap[b3]? = some (.cells #[v3] 26 (0, 0))) :
    CallsD Tryz.prog 60 #[.pointer (some ⟨bo, 0, none⟩), .pointer (some ⟨b3, 0, none⟩)] (.panicking (stopV code)) w fun e u' w' =>
      e = .returned (.tuple #[]) ∧ u' = .panicking [{ v := .iface 111 (.agg #[.int .i64 code]), recovered := true }] ∧ (∀ a, Bel a w → a.heap.size ≤ bo → a.heap.size ≤ b3 → Bel a w') ∧ w'.heap[bo]? = some (.cells #[.slice none 0 0] 37 (0, 0)) ∧ w'.heap[b3]? = some (.cells #[.int .i64 code] 26 (0, 0)) := by
  have hne : b3 ≠ bo := fun e => by subst e; rw [h0] at h3; cases h3
  have c0 : w.cell? ⟨bo, 0, none⟩ = some v0 := by rw [Lib.cell_of_heap h0]; rfl
  have c3 : w.cell? ⟨b3, 0, none⟩ = some v3 := by rw [Lib.cell_of_heap h3]; rfl
  have f0 : w.frozen? ⟨bo, 0, none⟩ = false := Lib.frozen_of_heap h0 0
  have f3 : w.frozen? ⟨b3, 0, none⟩ = false := Lib.frozen_of_heap h3 0
  have hB := (Bel.refl w).alloc (.cells #[.int .i64 code] 111)
  have a0 : (w.alloc (.cells #[.int .i64 code] 111)).cell? ⟨bo, 0, none⟩ = some v0 := by rw [Lib.cell_of_heap (hB.heap h0)]; rfl
  have a3 : (w.alloc (.cells #[.int .i64 code] 111)).cell? ⟨b3, 0, none⟩ = some v3 := by rw [Lib.cell_of_heap (hB.heap h3)]; rfl
  have g0 : (w.alloc (.cells #[.int .i64 code] 111)).frozen? ⟨bo, 0, none⟩ = false := Lib.frozen_of_heap (hB.heap h0) 0
  have g3 : (w.alloc (.cells #[.int .i64 code] 111)).frozen? ⟨b3, 0, none⟩ = false := Lib.frozen_of_heap (hB.heap h3) 0
  have hlt0 : bo < w.heap.size := (Array.getElem?_eq_some_iff.1 h0).1
  have m0 : ((w.alloc (.cells #[.int .i64 code] 111)).setCell ⟨bo, 0, none⟩ (.slice none 0 0)).heap[bo]? = some (.cells #[.slice none 0 0] 37 (0, 0)) := heap_setCell_same _ bo 0 _ _ (.slice none 0 0) (hB.heap h0)
  have m3 : ((w.alloc (.cells #[.int .i64 code] 111)).setCell ⟨bo, 0, none⟩ (.slice none 0 0)).heap[b3]? = some (.cells #[v3] 26 (0, 0)) := (heap_setCell_other _ _ _ _ hne).trans (hB.heap h3)
  have m9 : ((w.alloc (.cells #[.int .i64 code] 111)).setCell ⟨bo, 0, none⟩ (.slice none 0 0)).heap[w.heap.size]? = some (.cells #[.int .i64 code] 111 (0, 0)) := (heap_setCell_other _ _ _ _ (show w.heap.size ≠ bo by omega)).trans (heap_alloc_new w _)
  have e3 : ((w.alloc (.cells #[.int .i64 code] 111)).setCell ⟨bo, 0, none⟩ (.slice none 0 0)).cell? ⟨b3, 0, none⟩ = some v3 := by rw [Lib.cell_of_heap m3]; rfl
  have e9 : ((w.alloc (.cells #[.int .i64 code] 111)).setCell ⟨bo, 0, none⟩ (.slice none 0 0)).cell? ⟨w.heap.size, 0, none⟩ = some (.int .i64 code) := by rw [Lib.cell_of_heap m9]; rfl
  have fe3 : ((w.alloc (.cells #[.int .i64 code] 111)).setCell ⟨bo, 0, none⟩ (.slice none 0 0)).frozen? ⟨b3, 0, none⟩ = false := Lib.frozen_of_heap m3 0
  have HK := hid (show (((w.alloc (.cells #[.int .i64 code] 111)).setCell ⟨bo, 0, none⟩ (.slice none 0 0)).setCell ⟨b3, 0, none⟩ (.int .i64 code)).heap[bo]? = some (.cells #[.slice none 0 0] 37 (0, 0)) ∧ (((w.alloc (.cells #[.int .i64 code] 111)).setCell ⟨bo, 0, none⟩ (.slice none 0 0)).setCell ⟨b3, 0, none⟩ (.int .i64 code)).heap[b3]? = some (.cells #[.int .i64 code] 26 (0, 0)) from ⟨(heap_setCell_other _ _ _ _ (Ne.symm hne)).trans m0, heap_setCell_same _ b3 0 _ _ (.int .i64 code) m3⟩)
  have hta : (Instr.typeAssert (.iface 111 (.agg #[.int .i64 code])) 20 111 true).run Tryz.prog w = .ok (.tuple #[.agg #[.int .i64 code], .bool true]) w := by
    unfold Instr.typeAssert
    simp only [Sem.run_bind, run_underlying Tryz.underlying111, Result.andThen_ok]
    rfl
  clear h0 h3 hne hB hlt0 m0 m3 m9
  refine callsD_of_wpS Tryz.func60 rfl fun c₀ cs hu => ?_
  unfold stopV at hu
  simp only [Tryz.ntmps60, List.size_toArray, List.length_cons, List.length_nil, Nat.reduceAdd, Nat.reduceSub, Array.replicate_succ, Array.replicate_zero, List.push_toArray, List.append_toArray, List.nil_append, List.cons_append]
  apply wpS_seq
  apply wpS_region
  simp [wpOpsS, go_sem, recoverD, hu, Exit.thenS]
  refine wpS_of_wp ?_
  go_wp2
  go_region
  all_goals exact ⟨rfl, _, rfl, .tuple #[], by simp [results, Tryz.results60], rfl, rfl, (fun a ha h1 h2 => (((ha.alloc _).setCell h1 _).setCell h2 _).drew), HK.out.1, HK.out.2⟩
set_option maxRecDepth 100000 in
theorem catch_idle (bo b3 : Nat) (w : World) : CallsD Tryz.prog 60 #[.pointer (some ⟨bo, 0, none⟩), .pointer (some ⟨b3, 0, none⟩)] .returning w fun e u' w' => e = .returned (.tuple #[]) ∧ u' = .returning ∧ w' = w := by
  refine callsD_of_wpS Tryz.func60 rfl fun c₀ cs hu => ?_
  simp only [Tryz.ntmps60, List.size_toArray, List.length_cons, List.length_nil, Nat.reduceAdd, Nat.reduceSub, Array.replicate_succ, Array.replicate_zero, List.push_toArray, List.append_toArray, List.nil_append, List.cons_append]
  apply wpS_seq
  apply wpS_region
  simp [wpOpsS, go_sem, recoverD, hu, Exit.thenS]
  refine wpS_of_wp ?_
  go_wp2
  exact ⟨rfl, .returning, by rw [← hu], .tuple #[], by simp [results, Tryz.results60], rfl, rfl, rfl⟩
/-- Whom one stands for in the end. -/
def expandV : Except Int (Xs Pt) → List Pt × Int
  | .error c => ([], c)
  | .ok s => if s.out = [] then ([], 162) else (s.out, 0)
def expandQ (ts : List (List En)) (p : Pt) : List Pt × Int := if rightP p ≠ 0 ∨ p.null = true then ([], 1) else expandV (expX (dQ ts) 51 ⟨[], []⟩ p)
theorem four_blocks (w : World) (o0 o1 o2 o3 : Obj) : Bel w ((((w.alloc o0).alloc o1).alloc o2).alloc o3) ∧ ((((w.alloc o0).alloc o1).alloc o2).alloc o3).heap.size = w.heap.size + 4 ∧ ((((w.alloc o0).alloc o1).alloc o2).alloc o3).heap[w.heap.size]? = some o0 ∧ ((((w.alloc o0).alloc o1).alloc o2).alloc o3).heap[w.heap.size + 1]? = some o1 ∧
    ((((w.alloc o0).alloc o1).alloc o2).alloc o3).heap[w.heap.size + 2]? = some o2 ∧ ((((w.alloc o0).alloc o1).alloc o2).alloc o3).heap[w.heap.size + 3]? = some o3 := by
  have s1 : (w.alloc o0).heap.size = w.heap.size + 1 := World.size_alloc ..
  have s2 : ((w.alloc o0).alloc o1).heap.size = w.heap.size + 2 := by rw [World.size_alloc, s1]
  have s3 : (((w.alloc o0).alloc o1).alloc o2).heap.size = w.heap.size + 3 := by rw [World.size_alloc, s2]
  refine ⟨((((Bel.refl w).alloc _).alloc _).alloc _).alloc _, by rw [World.size_alloc, s3], ?_, ?_, ?_, ?_⟩
  · rw [heap_alloc_old _ _ (by omega), heap_alloc_old _ _ (by omega), heap_alloc_old _ _ (by omega)]
    exact heap_alloc_new w _
  · rw [heap_alloc_old _ _ (by omega), heap_alloc_old _ _ (by omega), ← s1]
    exact heap_alloc_new _ _
  · rw [heap_alloc_old _ _ (by omega), ← s2]
    exact heap_alloc_new _ _
  · rw [← s3]; exact heap_alloc_new _ _
theorem ex_start {w w1 : World} {a : Option Addr} {ts : List (List En)} {o1 o3 : Obj} (hb : Bel ((((w.alloc (.cells #[.pointer a] 47)).alloc o1).alloc (.cells #[.slice none 0 0] 37)).alloc o3) w1) :
    ExM w ts a w.heap.size (w.heap.size + 1 + 1) (w1.heap.size + 1) w1.heap.size (w1.heap.size + 1 + 1) (w1.heap.size + 1 + 1 + 1) ((((w1.alloc (.map #[] 0)).alloc (.cells #[.map (some w1.heap.size)] 113)).alloc (.cells #[.func (.func 61) #[] #[.pointer (some ⟨w.heap.size + 1 + 1, 0, none⟩)]] 114)).alloc (.cells #[.func (.func 63) #[] #[.pointer (some ⟨w1.heap.size + 1, 0, none⟩), .pointer (some ⟨w.heap.size, 0, none⟩), .pointer (some ⟨w1.heap.size + 1 + 1, 0, none⟩), .pointer (some ⟨w1.heap.size + 1 + 1 + 1, 0, none⟩)]] 115)) ⟨[], []⟩ (.slice none 0 0) := by
  obtain ⟨a1, a2, a3, a4, a5, a6⟩ := four_blocks w (.cells #[.pointer a] 47) o1 (.cells #[.slice none 0 0] 37) o3
  obtain ⟨b1, b2, b3, b4, b5, b6⟩ := four_blocks w1 (.map #[] 0) (.cells #[.map (some w1.heap.size)] 113) (.cells #[.func (.func 61) #[] #[.pointer (some ⟨w.heap.size + 1 + 1, 0, none⟩)]] 114) (.cells #[.func (.func 63) #[] #[.pointer (some ⟨w1.heap.size + 1, 0, none⟩), .pointer (some ⟨w.heap.size, 0, none⟩), .pointer (some ⟨w1.heap.size + 1 + 1, 0, none⟩), .pointer (some ⟨w1.heap.size + 1 + 1 + 1, 0, none⟩)]] 115)
  have hz := hb.size
  rw [a2] at hz
  exact ⟨a1.trans (hb.trans b1), ⟨Nat.le_refl _, by omega, by omega, by omega, by omega, by omega⟩, b1.heap (hb.heap a3), b1.heap (hb.heap a5), World.ownsRow_nil _ _ _ _, b4, ⟨#[], 0, b3, rfl⟩, b5, b6, Nat.zero_le _⟩
theorem ex_err {w W8 w9 : World} {a : Option Addr} {ts : List (List En)} {bm r bf be : Nat} {v' : Value} {s' : Xs Pt} (hx : Xm (w.heap.size + 1 + 1) r W8 w9 (.slice none 0 0) v') (h8 : W8.heap[w.heap.size + 1 + 1 + 1]? = some (.cells #[.int .i64 0] 26 (0, 0))) (hr : w.heap.size + 4 ≤ r) (_ : ExM w ts a w.heap.size (w.heap.size + 1 + 1) bm r bf be w9 s' v') :
    w9.heap[w.heap.size + 1 + 1 + 1]? = some (.cells #[.int .i64 0] 26 (0, 0)) :=
  (hx.keep _ (Array.getElem?_eq_some_iff.1 h8).1 (by omega) (by omega) (by intro e; cases e)).trans h8
theorem ex_res {V : World} {r : Nat} {v0 v1 : Value} (h0 : V.heap[r + 1 + 1]? = some (.cells #[v0] 37 (0, 0))) (h1 : V.heap[r + 1 + 1 + 1]? = some (.cells #[v1] 26 (0, 0))) :
    (loadVar 37 ⟨r + 1 + 1, 0, none⟩).run Tryz.prog V = .ok v0 V ∧ (loadVar 26 ⟨r + 1 + 1 + 1, 0, none⟩).run Tryz.prog V = .ok v1 V :=
  ⟨Ma.run_loadVar_one _ _ _ _ _ (by rw [Lib.cell_of_heap h0]; rfl) Tryz.underlying37 rfl, Ma.run_loadVar_one _ _ _ _ _ (by rw [Lib.cell_of_heap h1]; rfl) Tryz.underlying26 rfl⟩
theorem ex_ret {w w9 : World} {a : Option Addr} {ts : List (List En)} {bm r bf be : Nat} {v' : Value} {s' : Xs Pt} (hm : ExM w ts a w.heap.size (w.heap.size + 1 + 1) bm r bf be w9 s' v') {e0 : Value} (h3 : w9.heap[w.heap.size + 1 + 1 + 1]? = some (.cells #[e0] 26 (0, 0))) (v0 : Value) (code : Int) :
    ((w9.setCell ⟨w.heap.size + 1 + 1, 0, none⟩ v0).setCell ⟨w.heap.size + 1 + 1 + 1, 0, none⟩ (.int .i64 code)).heap[w.heap.size + 1 + 1]? = some (.cells #[v0] 37 (0, 0)) ∧ ((w9.setCell ⟨w.heap.size + 1 + 1, 0, none⟩ v0).setCell ⟨w.heap.size + 1 + 1 + 1, 0, none⟩ (.int .i64 code)).heap[w.heap.size + 1 + 1 + 1]? = some (.cells #[.int .i64 code] 26 (0, 0)) ∧ Bel w ((w9.setCell ⟨w.heap.size + 1 + 1, 0, none⟩ v0).setCell ⟨w.heap.size + 1 + 1 + 1, 0, none⟩ (.int .i64 code)) ∧ ∀ x c, v' = .slice x s'.out.length c → Pts ((w9.setCell ⟨w.heap.size + 1 + 1, 0, none⟩ v0).setCell ⟨w.heap.size + 1 + 1 + 1, 0, none⟩ (.int .i64 code)) x s'.out := by
  have hne : w.heap.size + 1 + 1 ≠ w.heap.size + 1 + 1 + 1 := by omega
  have k3 : (w9.setCell ⟨w.heap.size + 1 + 1, 0, none⟩ v0).heap[w.heap.size + 1 + 1 + 1]? = some (.cells #[e0] 26 (0, 0)) := (heap_setCell_other _ _ _ _ (Ne.symm hne)).trans h3
  refine ⟨(heap_setCell_other _ _ _ _ hne).trans (heap_setCell_same _ (w.heap.size + 1 + 1) 0 _ _ v0 hm.out), heap_setCell_same _ (w.heap.size + 1 + 1 + 1) 0 _ _ (.int .i64 code) k3, (hm.bel.setCell (by omega) _).setCell (by omega) _, ?_⟩
  rintro x c rfl
  have h1 := ownsRow_setCell_other hm.row (a := ⟨w.heap.size + 1 + 1, 0, none⟩) (own_ne hm.row hm.out (by decide)) v0
  have h2 := ownsRow_setCell_other h1 (a := ⟨w.heap.size + 1 + 1 + 1, 0, none⟩) (own_ne h1 k3 (by decide)) (.int .i64 code)
  exact pts_of_row h2
set_option maxHeartbeats 4000000 in
set_option maxRecDepth 100000 in
theorem Expand_run (a : Option Addr) (ts : List (List En)) (p : Pt) (w : World) (hw : Lat w) (hA : AlAt w a ts) (hR : ∀ p, (directQ ts p).2 = false → (directQ ts p).1 = []) (hl : p.loc.length ≤ 4194304) (hd : p.dom.length ≤ 4194304) :
    Calls Tryz.prog 23 #[.pointer a, .agg (ptC p).toArray] w fun e w' => ∃ x c, e = .returned (.tuple #[.slice x (expandQ ts p).1.length c, .int .i64 (expandQ ts p).2]) ∧ Bel w w' ∧ Pts w' x (expandQ ts p).1 := by
  have HW := hid hw
  obtain ⟨nl, lc, dm, lt⟩ := p
  simp only at hl hd
  have hmf : ∀ (fn : Fn) (first cap : Array Value) (w : World), (Instr.makeFunc fn first cap).run Tryz.prog w = .ok (.func fn first cap) w := fun _ _ _ _ => rfl
  have hmm := @run_makeMap Tryz.prog
  have HR := (show Hid (∀ W, Bel w W → Calls Tryz.prog 49 #[.agg #[.bool nl, .string ⟨lc.toArray⟩, .string ⟨dm.toArray⟩, .bool lt]] W fun e w' => e = .returned (.int .i64 (rightP ⟨nl, lc, dm, lt⟩)) ∧ Bel W w') from fun W hb => Ma.right_run nl ⟨lc.toArray⟩ ⟨dm.toArray⟩ lt W (hw.next hb).lay (by rw [Lib.size_eq]; exact hl) (by rw [Lib.size_eq]; exact hd))
  have HX : Hid (expandQ ts ⟨nl, lc, dm, lt⟩ = if rightP ⟨nl, lc, dm, lt⟩ ≠ 0 ∨ nl = true then ([], 1) else expandV (expX (dQ ts) 51 ⟨[], []⟩ ⟨nl, lc, dm, lt⟩)) := hid rfl
  generalize rightP ⟨nl, lc, dm, lt⟩ = rr at HR HX
  have H4 := hid (four_blocks w (.cells #[.pointer a] 47) (.cells #[.bool nl, .string ⟨lc.toArray⟩, .string ⟨dm.toArray⟩, .bool lt] 39) (.cells #[.slice none 0 0] 37) (.cells #[.int .i64 0] 26))
  show Calls _ _ #[.pointer a, .agg #[.bool nl, .string ⟨lc.toArray⟩, .string ⟨dm.toArray⟩, .bool lt]] _ _
  by_cases h1 : rr = 0
  · subst h1
    cases nl with
    | true =>
      have HY := hid (show expandQ ts ⟨true, lc, dm, lt⟩ = ([], 1) from HX.out.trans (if_pos (.inr rfl)))
      clear hw hA hR hl hd HX
      go_enter_defers Tryz.func23, Tryz.ntmps23
      go_wp2_with (first | (go_at_call 49; refine (HR.out _ H4.out.1).mono ?_; rintro e w1 ⟨rfl, hb1⟩; have HB1 := hid (H4.out.1.trans hb1); have q1 := hb1.heap H4.out.2.2.2.1; have d0 : w1.cell? ⟨w.heap.size + 1, 0, none⟩ = some (.bool true) := (by rw [Lib.cell_of_heap q1]; rfl); have q2 : w1.heap[w.heap.size + 1 + 1]? = some (.cells #[.slice none 0 0] 37 (0, 0)) := hb1.heap H4.out.2.2.2.2.1; have q3 : w1.heap[w.heap.size + 1 + 1 + 1]? = some (.cells #[.int .i64 0] 26 (0, 0)) := hb1.heap H4.out.2.2.2.2.2; have y0 : w1.cell? ⟨w.heap.size + 1 + 1, 0, none⟩ = some (.slice none 0 0) := (by rw [Lib.cell_of_heap q2]; rfl); have y3 : w1.cell? ⟨w.heap.size + 1 + 1 + 1, 0, none⟩ = some (.int .i64 0) := (by rw [Lib.cell_of_heap q3]; rfl); have z0 : w1.frozen? ⟨w.heap.size + 1 + 1, 0, none⟩ = false := Lib.frozen_of_heap q2 0; have z3 : w1.frozen? ⟨w.heap.size + 1 + 1 + 1, 0, none⟩ = false := Lib.frozen_of_heap q3 0; have m3 : (w1.setCell ⟨w.heap.size + 1 + 1, 0, none⟩ (.slice none 0 0)).cell? ⟨w.heap.size + 1 + 1 + 1, 0, none⟩ = some (.int .i64 0) := (by rw [World.cell?_of_block (a := ⟨w.heap.size + 1 + 1 + 1, 0, none⟩) (heap_setCell_other _ _ _ _ (show w.heap.size + 1 + 1 + 1 ≠ w.heap.size + 1 + 1 by omega))]; exact y3); have Q2 := hid q2; have Q3 := hid q3; clear q1 q2 q3 hb1))
      have hne : w.heap.size + 1 + 1 ≠ w.heap.size + 1 + 1 + 1 := by omega
      obtain ⟨l0, l1⟩ := ex_res (V := (w1.setCell ⟨w.heap.size + 1 + 1, 0, none⟩ (.slice none 0 0)).setCell ⟨w.heap.size + 1 + 1 + 1, 0, none⟩ (.int .i64 1)) ((heap_setCell_other _ _ _ _ hne).trans (heap_setCell_same _ (w.heap.size + 1 + 1) 0 _ _ (.slice none 0 0) Q2.out)) (heap_setCell_same _ (w.heap.size + 1 + 1 + 1) 0 _ _ (.int .i64 1) ((heap_setCell_other _ _ _ _ (Ne.symm hne)).trans Q3.out))
      exact ⟨.tuple #[.slice none 0 0, .int .i64 1], by simp [results, Tryz.results23, asAddr, l0, l1], none, 0, by rw [HY.out]; rfl, (HB1.out.setCell (by omega) _).setCell (by omega) _, by rw [HY.out]; exact ⟨.inl rfl⟩⟩
    | false =>
      have HY := hid (show expandQ ts ⟨false, lc, dm, lt⟩ = expandV (expX (dQ ts) 51 ⟨[], []⟩ ⟨false, lc, dm, lt⟩) from HX.out.trans (if_neg (by simp)))
      have eg3 : ∀ args w, (callFunc 63 args).run Tryz.prog w = .ok (.enter 63 args) w := enters_of Tryz.func63 (by kernel_rfl) rfl
      have HC := (show Hid (∀ w1, Bel ((((w.alloc (.cells #[.pointer a] 47)).alloc (.cells #[.bool false, .string ⟨lc.toArray⟩, .string ⟨dm.toArray⟩, .bool lt] 39)).alloc (.cells #[.slice none 0 0] 37)).alloc (.cells #[.int .i64 0] 26)) w1 → Calls Tryz.prog 63 #[.agg #[.bool false, .string ⟨lc.toArray⟩, .string ⟨dm.toArray⟩, .bool lt], .int .i64 0, .pointer (some ⟨w1.heap.size + 1, 0, none⟩), .pointer (some ⟨w.heap.size, 0, none⟩), .pointer (some ⟨w1.heap.size + 1 + 1, 0, none⟩), .pointer (some ⟨w1.heap.size + 1 + 1 + 1, 0, none⟩)] ((((w1.alloc (.map #[] 0)).alloc (.cells #[.map (some w1.heap.size)] 113)).alloc (.cells #[.func (.func 61) #[] #[.pointer (some ⟨w.heap.size + 1 + 1, 0, none⟩)]] 114)).alloc (.cells #[.func (.func 63) #[] #[.pointer (some ⟨w1.heap.size + 1, 0, none⟩), .pointer (some ⟨w.heap.size, 0, none⟩), .pointer (some ⟨w1.heap.size + 1 + 1, 0, none⟩), .pointer (some ⟨w1.heap.size + 1 + 1 + 1, 0, none⟩)]] 115)) (ExPost w ts a w.heap.size (w.heap.size + 1 + 1) (w1.heap.size + 1) w1.heap.size (w1.heap.size + 1 + 1) (w1.heap.size + 1 + 1 + 1) ((((w1.alloc (.map #[] 0)).alloc (.cells #[.map (some w1.heap.size)] 113)).alloc (.cells #[.func (.func 61) #[] #[.pointer (some ⟨w.heap.size + 1 + 1, 0, none⟩)]] 114)).alloc (.cells #[.func (.func 63) #[] #[.pointer (some ⟨w1.heap.size + 1, 0, none⟩), .pointer (some ⟨w.heap.size, 0, none⟩), .pointer (some ⟨w1.heap.size + 1 + 1, 0, none⟩), .pointer (some ⟨w1.heap.size + 1 + 1 + 1, 0, none⟩)]] 115)) (.slice none 0 0) (expX (dQ ts) 51 ⟨[], []⟩ ⟨false, lc, dm, lt⟩))) from fun w1 hb => expand_run w ts a w.heap.size (w.heap.size + 1 + 1) (w1.heap.size + 1) w1.heap.size (w1.heap.size + 1 + 1) (w1.heap.size + 1 + 1 + 1) hw hA hR 51 0 rfl ((((w1.alloc (.map #[] 0)).alloc (.cells #[.map (some w1.heap.size)] 113)).alloc (.cells #[.func (.func 61) #[] #[.pointer (some ⟨w.heap.size + 1 + 1, 0, none⟩)]] 114)).alloc (.cells #[.func (.func 63) #[] #[.pointer (some ⟨w1.heap.size + 1, 0, none⟩), .pointer (some ⟨w.heap.size, 0, none⟩), .pointer (some ⟨w1.heap.size + 1 + 1, 0, none⟩), .pointer (some ⟨w1.heap.size + 1 + 1 + 1, 0, none⟩)]] 115)) ⟨[], []⟩ (.slice none 0 0) (⟨false, lc, dm, lt⟩ : Pt) (ex_start hb) hl hd)
      generalize expX (dQ ts) 51 ⟨[], []⟩ (⟨false, lc, dm, lt⟩ : Pt) = R at HC HY
      clear hw hA hR hl hd HX
      cases R with
      | error c =>
        have HC := (show Hid (∀ w1, Bel ((((w.alloc (.cells #[.pointer a] 47)).alloc (.cells #[.bool false, .string ⟨lc.toArray⟩, .string ⟨dm.toArray⟩, .bool lt] 39)).alloc (.cells #[.slice none 0 0] 37)).alloc (.cells #[.int .i64 0] 26)) w1 → Calls Tryz.prog 63 #[.agg #[.bool false, .string ⟨lc.toArray⟩, .string ⟨dm.toArray⟩, .bool lt], .int .i64 0, .pointer (some ⟨w1.heap.size + 1, 0, none⟩), .pointer (some ⟨w.heap.size, 0, none⟩), .pointer (some ⟨w1.heap.size + 1 + 1, 0, none⟩), .pointer (some ⟨w1.heap.size + 1 + 1 + 1, 0, none⟩)] ((((w1.alloc (.map #[] 0)).alloc (.cells #[.map (some w1.heap.size)] 113)).alloc (.cells #[.func (.func 61) #[] #[.pointer (some ⟨w.heap.size + 1 + 1, 0, none⟩)]] 114)).alloc (.cells #[.func (.func 63) #[] #[.pointer (some ⟨w1.heap.size + 1, 0, none⟩), .pointer (some ⟨w.heap.size, 0, none⟩), .pointer (some ⟨w1.heap.size + 1 + 1, 0, none⟩), .pointer (some ⟨w1.heap.size + 1 + 1 + 1, 0, none⟩)]] 115)) fun e W' => e = .panicked (stopV c) ∧ ∃ s' v', Xm (w.heap.size + 1 + 1) w1.heap.size ((((w1.alloc (.map #[] 0)).alloc (.cells #[.map (some w1.heap.size)] 113)).alloc (.cells #[.func (.func 61) #[] #[.pointer (some ⟨w.heap.size + 1 + 1, 0, none⟩)]] 114)).alloc (.cells #[.func (.func 63) #[] #[.pointer (some ⟨w1.heap.size + 1, 0, none⟩), .pointer (some ⟨w.heap.size, 0, none⟩), .pointer (some ⟨w1.heap.size + 1 + 1, 0, none⟩), .pointer (some ⟨w1.heap.size + 1 + 1 + 1, 0, none⟩)]] 115)) W' (.slice none 0 0) v' ∧ ExM w ts a w.heap.size (w.heap.size + 1 + 1) (w1.heap.size + 1) w1.heap.size (w1.heap.size + 1 + 1) (w1.heap.size + 1 + 1 + 1) W' s' v') from HC.out)
        go_enter_defers Tryz.func23, Tryz.ntmps23
        go_wp2_with (first | (go_at_call 49; refine (HR.out _ H4.out.1).mono ?_; rintro e w1 ⟨rfl, hb1⟩; have HB1 := hid hb1; have q1 := hb1.heap H4.out.2.2.2.1; have q8 := (four_blocks w1 (.map #[] 0) (.cells #[.map (some w1.heap.size)] 113) (.cells #[.func (.func 61) #[] #[.pointer (some ⟨w.heap.size + 1 + 1, 0, none⟩)]] 114) (.cells #[.func (.func 63) #[] #[.pointer (some ⟨w1.heap.size + 1, 0, none⟩), .pointer (some ⟨w.heap.size, 0, none⟩), .pointer (some ⟨w1.heap.size + 1 + 1, 0, none⟩), .pointer (some ⟨w1.heap.size + 1 + 1 + 1, 0, none⟩)]] 115)).1.heap q1; have d0 : w1.cell? ⟨w.heap.size + 1, 0, none⟩ = some (.bool false) := (by rw [Lib.cell_of_heap q1]; rfl); have x0 : ((((w1.alloc (.map #[] 0)).alloc (.cells #[.map (some w1.heap.size)] 113)).alloc (.cells #[.func (.func 61) #[] #[.pointer (some ⟨w.heap.size + 1 + 1, 0, none⟩)]] 114)).alloc (.cells #[.func (.func 63) #[] #[.pointer (some ⟨w1.heap.size + 1, 0, none⟩), .pointer (some ⟨w.heap.size, 0, none⟩), .pointer (some ⟨w1.heap.size + 1 + 1, 0, none⟩), .pointer (some ⟨w1.heap.size + 1 + 1 + 1, 0, none⟩)]] 115)).cell? ⟨w.heap.size + 1, 0, none⟩ = some (.bool false) := (by rw [Lib.cell_of_heap q8]; rfl); have d1 : w1.cell? ⟨w.heap.size + 1, 1, none⟩ = some (.string ⟨lc.toArray⟩) := (by rw [Lib.cell_of_heap q1]; rfl); have x1 : ((((w1.alloc (.map #[] 0)).alloc (.cells #[.map (some w1.heap.size)] 113)).alloc (.cells #[.func (.func 61) #[] #[.pointer (some ⟨w.heap.size + 1 + 1, 0, none⟩)]] 114)).alloc (.cells #[.func (.func 63) #[] #[.pointer (some ⟨w1.heap.size + 1, 0, none⟩), .pointer (some ⟨w.heap.size, 0, none⟩), .pointer (some ⟨w1.heap.size + 1 + 1, 0, none⟩), .pointer (some ⟨w1.heap.size + 1 + 1 + 1, 0, none⟩)]] 115)).cell? ⟨w.heap.size + 1, 1, none⟩ = some (.string ⟨lc.toArray⟩) := (by rw [Lib.cell_of_heap q8]; rfl); have d2 : w1.cell? ⟨w.heap.size + 1, 2, none⟩ = some (.string ⟨dm.toArray⟩) := (by rw [Lib.cell_of_heap q1]; rfl); have x2 : ((((w1.alloc (.map #[] 0)).alloc (.cells #[.map (some w1.heap.size)] 113)).alloc (.cells #[.func (.func 61) #[] #[.pointer (some ⟨w.heap.size + 1 + 1, 0, none⟩)]] 114)).alloc (.cells #[.func (.func 63) #[] #[.pointer (some ⟨w1.heap.size + 1, 0, none⟩), .pointer (some ⟨w.heap.size, 0, none⟩), .pointer (some ⟨w1.heap.size + 1 + 1, 0, none⟩), .pointer (some ⟨w1.heap.size + 1 + 1 + 1, 0, none⟩)]] 115)).cell? ⟨w.heap.size + 1, 2, none⟩ = some (.string ⟨dm.toArray⟩) := (by rw [Lib.cell_of_heap q8]; rfl); have d3 : w1.cell? ⟨w.heap.size + 1, 3, none⟩ = some (.bool lt) := (by rw [Lib.cell_of_heap q1]; rfl); have x3 : ((((w1.alloc (.map #[] 0)).alloc (.cells #[.map (some w1.heap.size)] 113)).alloc (.cells #[.func (.func 61) #[] #[.pointer (some ⟨w.heap.size + 1 + 1, 0, none⟩)]] 114)).alloc (.cells #[.func (.func 63) #[] #[.pointer (some ⟨w1.heap.size + 1, 0, none⟩), .pointer (some ⟨w.heap.size, 0, none⟩), .pointer (some ⟨w1.heap.size + 1 + 1, 0, none⟩), .pointer (some ⟨w1.heap.size + 1 + 1 + 1, 0, none⟩)]] 115)).cell? ⟨w.heap.size + 1, 3, none⟩ = some (.bool lt) := (by rw [Lib.cell_of_heap q8]; rfl); clear q1 q8 hb1) | (go_at_fn 63; refine (HC.out w1 HB1.out).mono ?_; rintro e w9 ⟨rfl, s', v', hx9, hm9⟩))
        have h93 := ex_err hx9 ((four_blocks w1 (.map #[] 0) _ _ _).1.heap (HB1.out.heap H4.out.2.2.2.2.2)) (by have := HB1.out.size; rw [H4.out.2.1] at this; exact this) hm9
        refine leaves_cons (f := 60) (args := #[.pointer (some ⟨w.heap.size + 1 + 1, 0, none⟩), .pointer (some ⟨w.heap.size + 1 + 1 + 1, 0, none⟩)]) (by simp) (by simp [go_sem]) ?_
        refine (catch_stop (w.heap.size + 1 + 1) (w.heap.size + 1 + 1 + 1) v' _ c w9 hm9.out h93).mono ?_
        rintro e u' w'' ⟨rfl, rfl, hbel, k0, k3⟩
        obtain ⟨l0, l1⟩ := ex_res k0 k3
        refine ⟨.tuple #[.slice none 0 0, .int .i64 c], by simp [results, Tryz.results23, asAddr, l0, l1], none, 0, by rw [HY.out]; rfl, hbel w hm9.bel (by omega) (by omega), by rw [HY.out]; exact ⟨.inl rfl⟩⟩
      | ok s1 =>
        have HC := (show Hid (∀ w1, Bel ((((w.alloc (.cells #[.pointer a] 47)).alloc (.cells #[.bool false, .string ⟨lc.toArray⟩, .string ⟨dm.toArray⟩, .bool lt] 39)).alloc (.cells #[.slice none 0 0] 37)).alloc (.cells #[.int .i64 0] 26)) w1 → Calls Tryz.prog 63 #[.agg #[.bool false, .string ⟨lc.toArray⟩, .string ⟨dm.toArray⟩, .bool lt], .int .i64 0, .pointer (some ⟨w1.heap.size + 1, 0, none⟩), .pointer (some ⟨w.heap.size, 0, none⟩), .pointer (some ⟨w1.heap.size + 1 + 1, 0, none⟩), .pointer (some ⟨w1.heap.size + 1 + 1 + 1, 0, none⟩)] ((((w1.alloc (.map #[] 0)).alloc (.cells #[.map (some w1.heap.size)] 113)).alloc (.cells #[.func (.func 61) #[] #[.pointer (some ⟨w.heap.size + 1 + 1, 0, none⟩)]] 114)).alloc (.cells #[.func (.func 63) #[] #[.pointer (some ⟨w1.heap.size + 1, 0, none⟩), .pointer (some ⟨w.heap.size, 0, none⟩), .pointer (some ⟨w1.heap.size + 1 + 1, 0, none⟩), .pointer (some ⟨w1.heap.size + 1 + 1 + 1, 0, none⟩)]] 115)) fun e W' => e = .returned (.tuple #[]) ∧ ∃ v', Xm (w.heap.size + 1 + 1) w1.heap.size ((((w1.alloc (.map #[] 0)).alloc (.cells #[.map (some w1.heap.size)] 113)).alloc (.cells #[.func (.func 61) #[] #[.pointer (some ⟨w.heap.size + 1 + 1, 0, none⟩)]] 114)).alloc (.cells #[.func (.func 63) #[] #[.pointer (some ⟨w1.heap.size + 1, 0, none⟩), .pointer (some ⟨w.heap.size, 0, none⟩), .pointer (some ⟨w1.heap.size + 1 + 1, 0, none⟩), .pointer (some ⟨w1.heap.size + 1 + 1 + 1, 0, none⟩)]] 115)) W' (.slice none 0 0) v' ∧ ExM w ts a w.heap.size (w.heap.size + 1 + 1) (w1.heap.size + 1) w1.heap.size (w1.heap.size + 1 + 1) (w1.heap.size + 1 + 1 + 1) W' s1 v') from HC.out)
        go_enter_defers Tryz.func23, Tryz.ntmps23
        by_cases h0 : s1.out = []
        · have hn0 : s1.out.length = 0 := by rw [h0]; rfl
          have HN := hid hn0
          have HE0 := hid h0
          clear h0 hn0
          go_wp2_with (first | (go_at_call 49; refine (HR.out _ H4.out.1).mono ?_; rintro e w1 ⟨rfl, hb1⟩; have HB1 := hid hb1; have q1 := hb1.heap H4.out.2.2.2.1; have q8 := (four_blocks w1 (.map #[] 0) (.cells #[.map (some w1.heap.size)] 113) (.cells #[.func (.func 61) #[] #[.pointer (some ⟨w.heap.size + 1 + 1, 0, none⟩)]] 114) (.cells #[.func (.func 63) #[] #[.pointer (some ⟨w1.heap.size + 1, 0, none⟩), .pointer (some ⟨w.heap.size, 0, none⟩), .pointer (some ⟨w1.heap.size + 1 + 1, 0, none⟩), .pointer (some ⟨w1.heap.size + 1 + 1 + 1, 0, none⟩)]] 115)).1.heap q1; have d0 : w1.cell? ⟨w.heap.size + 1, 0, none⟩ = some (.bool false) := (by rw [Lib.cell_of_heap q1]; rfl); have x0 : ((((w1.alloc (.map #[] 0)).alloc (.cells #[.map (some w1.heap.size)] 113)).alloc (.cells #[.func (.func 61) #[] #[.pointer (some ⟨w.heap.size + 1 + 1, 0, none⟩)]] 114)).alloc (.cells #[.func (.func 63) #[] #[.pointer (some ⟨w1.heap.size + 1, 0, none⟩), .pointer (some ⟨w.heap.size, 0, none⟩), .pointer (some ⟨w1.heap.size + 1 + 1, 0, none⟩), .pointer (some ⟨w1.heap.size + 1 + 1 + 1, 0, none⟩)]] 115)).cell? ⟨w.heap.size + 1, 0, none⟩ = some (.bool false) := (by rw [Lib.cell_of_heap q8]; rfl); have d1 : w1.cell? ⟨w.heap.size + 1, 1, none⟩ = some (.string ⟨lc.toArray⟩) := (by rw [Lib.cell_of_heap q1]; rfl); have x1 : ((((w1.alloc (.map #[] 0)).alloc (.cells #[.map (some w1.heap.size)] 113)).alloc (.cells #[.func (.func 61) #[] #[.pointer (some ⟨w.heap.size + 1 + 1, 0, none⟩)]] 114)).alloc (.cells #[.func (.func 63) #[] #[.pointer (some ⟨w1.heap.size + 1, 0, none⟩), .pointer (some ⟨w.heap.size, 0, none⟩), .pointer (some ⟨w1.heap.size + 1 + 1, 0, none⟩), .pointer (some ⟨w1.heap.size + 1 + 1 + 1, 0, none⟩)]] 115)).cell? ⟨w.heap.size + 1, 1, none⟩ = some (.string ⟨lc.toArray⟩) := (by rw [Lib.cell_of_heap q8]; rfl); have d2 : w1.cell? ⟨w.heap.size + 1, 2, none⟩ = some (.string ⟨dm.toArray⟩) := (by rw [Lib.cell_of_heap q1]; rfl); have x2 : ((((w1.alloc (.map #[] 0)).alloc (.cells #[.map (some w1.heap.size)] 113)).alloc (.cells #[.func (.func 61) #[] #[.pointer (some ⟨w.heap.size + 1 + 1, 0, none⟩)]] 114)).alloc (.cells #[.func (.func 63) #[] #[.pointer (some ⟨w1.heap.size + 1, 0, none⟩), .pointer (some ⟨w.heap.size, 0, none⟩), .pointer (some ⟨w1.heap.size + 1 + 1, 0, none⟩), .pointer (some ⟨w1.heap.size + 1 + 1 + 1, 0, none⟩)]] 115)).cell? ⟨w.heap.size + 1, 2, none⟩ = some (.string ⟨dm.toArray⟩) := (by rw [Lib.cell_of_heap q8]; rfl); have d3 : w1.cell? ⟨w.heap.size + 1, 3, none⟩ = some (.bool lt) := (by rw [Lib.cell_of_heap q1]; rfl); have x3 : ((((w1.alloc (.map #[] 0)).alloc (.cells #[.map (some w1.heap.size)] 113)).alloc (.cells #[.func (.func 61) #[] #[.pointer (some ⟨w.heap.size + 1 + 1, 0, none⟩)]] 114)).alloc (.cells #[.func (.func 63) #[] #[.pointer (some ⟨w1.heap.size + 1, 0, none⟩), .pointer (some ⟨w.heap.size, 0, none⟩), .pointer (some ⟨w1.heap.size + 1 + 1, 0, none⟩), .pointer (some ⟨w1.heap.size + 1 + 1 + 1, 0, none⟩)]] 115)).cell? ⟨w.heap.size + 1, 3, none⟩ = some (.bool lt) := (by rw [Lib.cell_of_heap q8]; rfl); clear q1 q8 hb1) | (go_at_fn 63; refine (HC.out w1 HB1.out).mono ?_; rintro e w9 ⟨rfl, v', hx9, hm9⟩; have h93 := ex_err hx9 ((four_blocks w1 (.map #[] 0) _ _ _).1.heap (HB1.out.heap H4.out.2.2.2.2.2)) (by have := HB1.out.size; rw [H4.out.2.1] at this; exact this) hm9; obtain ⟨x9, c9, rfl, -⟩ := hm9.outs; rw [HN.out] at hx9 hm9; have y0 : w9.cell? ⟨w.heap.size + 1 + 1, 0, none⟩ = some (.slice x9 0 c9) := (by rw [Lib.cell_of_heap hm9.out]; rfl); have y3 : w9.cell? ⟨w.heap.size + 1 + 1 + 1, 0, none⟩ = some (.int .i64 0) := (by rw [Lib.cell_of_heap h93]; rfl); have z0 : w9.frozen? ⟨w.heap.size + 1 + 1, 0, none⟩ = false := Lib.frozen_of_heap hm9.out 0; have z3 : w9.frozen? ⟨w.heap.size + 1 + 1 + 1, 0, none⟩ = false := Lib.frozen_of_heap h93 0; have m3 : (w9.setCell ⟨w.heap.size + 1 + 1, 0, none⟩ (.slice none 0 0)).cell? ⟨w.heap.size + 1 + 1 + 1, 0, none⟩ = some (.int .i64 0) := (by rw [World.cell?_of_block (a := ⟨w.heap.size + 1 + 1 + 1, 0, none⟩) (heap_setCell_other _ _ _ _ (show w.heap.size + 1 + 1 + 1 ≠ w.heap.size + 1 + 1 by omega))]; exact y3); have HM9 := hid hm9; have HE9 := hid h93; clear hx9 hm9 h93))
          have HZ := hid (show expandQ ts ⟨false, lc, dm, lt⟩ = ([], 162) by rw [HY.out]; exact if_pos HE0.out)
          obtain ⟨m0, m3, mb, mp⟩ := ex_ret HM9.out HE9.out (.slice none 0 0) 162
          refine leaves_cons (f := 60) (args := #[.pointer (some ⟨w.heap.size + 1 + 1, 0, none⟩), .pointer (some ⟨w.heap.size + 1 + 1 + 1, 0, none⟩)]) (by simp) (by simp [go_sem]) ?_
          refine (catch_idle (w.heap.size + 1 + 1) (w.heap.size + 1 + 1 + 1) _).mono ?_
          rintro e u' w'' ⟨rfl, rfl, rfl⟩
          obtain ⟨l0, l1⟩ := ex_res m0 m3
          refine ⟨.tuple #[.slice none 0 0, .int .i64 162], by simp [results, Tryz.results23, asAddr, l0, l1], none, 0, by rw [HZ.out]; rfl, mb, by rw [HZ.out]; exact ⟨.inl rfl⟩⟩
        · have hnp : ¬ s1.out.length = 0 := fun e => h0 (List.eq_nil_of_length_eq_zero e)
          have HE0 := hid h0
          clear h0
          generalize hn : s1.out.length = n at hnp
          have HN := hid hn
          have bn : ((n : Int) == 0) = false := by rw [beq_eq_false_iff_ne]; omega
          clear hn
          go_wp2_with (first | (go_at_call 49; refine (HR.out _ H4.out.1).mono ?_; rintro e w1 ⟨rfl, hb1⟩; have HB1 := hid hb1; have q1 := hb1.heap H4.out.2.2.2.1; have q8 := (four_blocks w1 (.map #[] 0) (.cells #[.map (some w1.heap.size)] 113) (.cells #[.func (.func 61) #[] #[.pointer (some ⟨w.heap.size + 1 + 1, 0, none⟩)]] 114) (.cells #[.func (.func 63) #[] #[.pointer (some ⟨w1.heap.size + 1, 0, none⟩), .pointer (some ⟨w.heap.size, 0, none⟩), .pointer (some ⟨w1.heap.size + 1 + 1, 0, none⟩), .pointer (some ⟨w1.heap.size + 1 + 1 + 1, 0, none⟩)]] 115)).1.heap q1; have d0 : w1.cell? ⟨w.heap.size + 1, 0, none⟩ = some (.bool false) := (by rw [Lib.cell_of_heap q1]; rfl); have x0 : ((((w1.alloc (.map #[] 0)).alloc (.cells #[.map (some w1.heap.size)] 113)).alloc (.cells #[.func (.func 61) #[] #[.pointer (some ⟨w.heap.size + 1 + 1, 0, none⟩)]] 114)).alloc (.cells #[.func (.func 63) #[] #[.pointer (some ⟨w1.heap.size + 1, 0, none⟩), .pointer (some ⟨w.heap.size, 0, none⟩), .pointer (some ⟨w1.heap.size + 1 + 1, 0, none⟩), .pointer (some ⟨w1.heap.size + 1 + 1 + 1, 0, none⟩)]] 115)).cell? ⟨w.heap.size + 1, 0, none⟩ = some (.bool false) := (by rw [Lib.cell_of_heap q8]; rfl); have d1 : w1.cell? ⟨w.heap.size + 1, 1, none⟩ = some (.string ⟨lc.toArray⟩) := (by rw [Lib.cell_of_heap q1]; rfl); have x1 : ((((w1.alloc (.map #[] 0)).alloc (.cells #[.map (some w1.heap.size)] 113)).alloc (.cells #[.func (.func 61) #[] #[.pointer (some ⟨w.heap.size + 1 + 1, 0, none⟩)]] 114)).alloc (.cells #[.func (.func 63) #[] #[.pointer (some ⟨w1.heap.size + 1, 0, none⟩), .pointer (some ⟨w.heap.size, 0, none⟩), .pointer (some ⟨w1.heap.size + 1 + 1, 0, none⟩), .pointer (some ⟨w1.heap.size + 1 + 1 + 1, 0, none⟩)]] 115)).cell? ⟨w.heap.size + 1, 1, none⟩ = some (.string ⟨lc.toArray⟩) := (by rw [Lib.cell_of_heap q8]; rfl); have d2 : w1.cell? ⟨w.heap.size + 1, 2, none⟩ = some (.string ⟨dm.toArray⟩) := (by rw [Lib.cell_of_heap q1]; rfl); have x2 : ((((w1.alloc (.map #[] 0)).alloc (.cells #[.map (some w1.heap.size)] 113)).alloc (.cells #[.func (.func 61) #[] #[.pointer (some ⟨w.heap.size + 1 + 1, 0, none⟩)]] 114)).alloc (.cells #[.func (.func 63) #[] #[.pointer (some ⟨w1.heap.size + 1, 0, none⟩), .pointer (some ⟨w.heap.size, 0, none⟩), .pointer (some ⟨w1.heap.size + 1 + 1, 0, none⟩), .pointer (some ⟨w1.heap.size + 1 + 1 + 1, 0, none⟩)]] 115)).cell? ⟨w.heap.size + 1, 2, none⟩ = some (.string ⟨dm.toArray⟩) := (by rw [Lib.cell_of_heap q8]; rfl); have d3 : w1.cell? ⟨w.heap.size + 1, 3, none⟩ = some (.bool lt) := (by rw [Lib.cell_of_heap q1]; rfl); have x3 : ((((w1.alloc (.map #[] 0)).alloc (.cells #[.map (some w1.heap.size)] 113)).alloc (.cells #[.func (.func 61) #[] #[.pointer (some ⟨w.heap.size + 1 + 1, 0, none⟩)]] 114)).alloc (.cells #[.func (.func 63) #[] #[.pointer (some ⟨w1.heap.size + 1, 0, none⟩), .pointer (some ⟨w.heap.size, 0, none⟩), .pointer (some ⟨w1.heap.size + 1 + 1, 0, none⟩), .pointer (some ⟨w1.heap.size + 1 + 1 + 1, 0, none⟩)]] 115)).cell? ⟨w.heap.size + 1, 3, none⟩ = some (.bool lt) := (by rw [Lib.cell_of_heap q8]; rfl); clear q1 q8 hb1) | (go_at_fn 63; refine (HC.out w1 HB1.out).mono ?_; rintro e w9 ⟨rfl, v', hx9, hm9⟩; have h93 := ex_err hx9 ((four_blocks w1 (.map #[] 0) _ _ _).1.heap (HB1.out.heap H4.out.2.2.2.2.2)) (by have := HB1.out.size; rw [H4.out.2.1] at this; exact this) hm9; obtain ⟨x9, c9, rfl, -⟩ := hm9.outs; have eN := HN.out; rw [eN] at hx9 hm9; clear eN; have y0 : w9.cell? ⟨w.heap.size + 1 + 1, 0, none⟩ = some (.slice x9 n c9) := (by rw [Lib.cell_of_heap hm9.out]; rfl); have y3 : w9.cell? ⟨w.heap.size + 1 + 1 + 1, 0, none⟩ = some (.int .i64 0) := (by rw [Lib.cell_of_heap h93]; rfl); have z0 : w9.frozen? ⟨w.heap.size + 1 + 1, 0, none⟩ = false := Lib.frozen_of_heap hm9.out 0; have z3 : w9.frozen? ⟨w.heap.size + 1 + 1 + 1, 0, none⟩ = false := Lib.frozen_of_heap h93 0; have m3 : (w9.setCell ⟨w.heap.size + 1 + 1, 0, none⟩ (.slice x9 n c9)).cell? ⟨w.heap.size + 1 + 1 + 1, 0, none⟩ = some (.int .i64 0) := (by rw [World.cell?_of_block (a := ⟨w.heap.size + 1 + 1 + 1, 0, none⟩) (heap_setCell_other _ _ _ _ (show w.heap.size + 1 + 1 + 1 ≠ w.heap.size + 1 + 1 by omega))]; exact y3); have HM9 := hid hm9; have HE9 := hid h93; clear hx9 hm9 h93))
          have HZ := hid (show expandQ ts ⟨false, lc, dm, lt⟩ = (s1.out, 0) by rw [HY.out]; exact if_neg HE0.out)
          obtain ⟨m0, m3, mb, mp⟩ := ex_ret HM9.out HE9.out (.slice x9 n c9) 0
          refine leaves_cons (f := 60) (args := #[.pointer (some ⟨w.heap.size + 1 + 1, 0, none⟩), .pointer (some ⟨w.heap.size + 1 + 1 + 1, 0, none⟩)]) (by simp) (by simp [go_sem]) ?_
          refine (catch_idle (w.heap.size + 1 + 1) (w.heap.size + 1 + 1 + 1) _).mono ?_
          rintro e u' w'' ⟨rfl, rfl, rfl⟩
          obtain ⟨l0, l1⟩ := ex_res m0 m3
          refine ⟨.tuple #[.slice x9 n c9, .int .i64 0], by simp [results, Tryz.results23, asAddr, l0, l1], x9, c9, by rw [HZ.out, ← HN.out], mb, by rw [HZ.out]; exact mp x9 c9 (by rw [HN.out])⟩
  · have b1 : (rr == 0) = false := by simpa using h1
    have HY := hid (show expandQ ts ⟨nl, lc, dm, lt⟩ = ([], 1) from HX.out.trans (if_pos (.inl h1)))
    clear hw hA hR hl hd HX
    go_enter_defers Tryz.func23, Tryz.ntmps23
    go_wp2_with (first | (go_at_call 49; refine (HR.out _ H4.out.1).mono ?_; rintro e w1 ⟨rfl, hb1⟩; have HB1 := hid (H4.out.1.trans hb1); have q1 := hb1.heap H4.out.2.2.2.1; have q2 : w1.heap[w.heap.size + 1 + 1]? = some (.cells #[.slice none 0 0] 37 (0, 0)) := hb1.heap H4.out.2.2.2.2.1; have q3 : w1.heap[w.heap.size + 1 + 1 + 1]? = some (.cells #[.int .i64 0] 26 (0, 0)) := hb1.heap H4.out.2.2.2.2.2; have y0 : w1.cell? ⟨w.heap.size + 1 + 1, 0, none⟩ = some (.slice none 0 0) := (by rw [Lib.cell_of_heap q2]; rfl); have y3 : w1.cell? ⟨w.heap.size + 1 + 1 + 1, 0, none⟩ = some (.int .i64 0) := (by rw [Lib.cell_of_heap q3]; rfl); have z0 : w1.frozen? ⟨w.heap.size + 1 + 1, 0, none⟩ = false := Lib.frozen_of_heap q2 0; have z3 : w1.frozen? ⟨w.heap.size + 1 + 1 + 1, 0, none⟩ = false := Lib.frozen_of_heap q3 0; have m3 : (w1.setCell ⟨w.heap.size + 1 + 1, 0, none⟩ (.slice none 0 0)).cell? ⟨w.heap.size + 1 + 1 + 1, 0, none⟩ = some (.int .i64 0) := (by rw [World.cell?_of_block (a := ⟨w.heap.size + 1 + 1 + 1, 0, none⟩) (heap_setCell_other _ _ _ _ (show w.heap.size + 1 + 1 + 1 ≠ w.heap.size + 1 + 1 by omega))]; exact y3); have Q2 := hid q2; have Q3 := hid q3; clear q1 q2 q3 hb1))
    have hne : w.heap.size + 1 + 1 ≠ w.heap.size + 1 + 1 + 1 := by omega
    obtain ⟨l0, l1⟩ := ex_res (V := (w1.setCell ⟨w.heap.size + 1 + 1, 0, none⟩ (.slice none 0 0)).setCell ⟨w.heap.size + 1 + 1 + 1, 0, none⟩ (.int .i64 1)) ((heap_setCell_other _ _ _ _ hne).trans (heap_setCell_same _ (w.heap.size + 1 + 1) 0 _ _ (.slice none 0 0) Q2.out)) (heap_setCell_same _ (w.heap.size + 1 + 1 + 1) 0 _ _ (.int .i64 1) ((heap_setCell_other _ _ _ _ (Ne.symm hne)).trans Q3.out))
    exact ⟨.tuple #[.slice none 0 0, .int .i64 1], by simp [results, Tryz.results23, asAddr, l0, l1], none, 0, by rw [HY.out]; rfl, (HB1.out.setCell (by omega) _).setCell (by omega) _, by rw [HY.out]; exact ⟨.inl rfl⟩⟩
end Go.Proofs.YtpmmaickjolimaaGreatDoor.Tb

/- What New leaves; the law's awake, in. -/
namespace Go.Proofs.YtpmmaickjolimaaGreatDoor.Tb
open Go.RowKit
open Ci (Bel hid own_bel row_shape own_base addr_add splitL Aft wp_region_aft quiet_load_aft)
open Ma (Pt Pts ptC ptCs mbQ Mailbox_run pt_infos pt_size ptCs_snoc ptCs_at rightP good_small)
open Ex (Xs findX goX expX)

theorem new_right : ∀ (L : List (List UInt8)) (acc ts : List (List En)), newF L acc = some ts → (∀ es ∈ acc, valsR es = true) → ∀ es ∈ ts, valsR es = true
  | [], acc, ts, h, ha => by cases h; exact ha
  | t :: r, acc, ts, h, ha => by
    unfold newF at h
    split at h
    · cases h
    · rename_i es he
      split at h
      · rename_i hv
        refine new_right r _ ts h fun x hx => ?_
        rcases List.mem_append.1 hx with hx | hx
        · exact ha x hx
        · rw [List.mem_singleton.1 hx]; exact hv
      · cases h
theorem exact_in {es : List En} {k v : List UInt8} (h : exactQ es k = some v) : ∃ e ∈ es, e.val = v := by
  unfold exactQ at h
  split at h
  · obtain ⟨e, h1, rfl⟩ := Option.map_eq_some_iff.1 h
    exact ⟨e, List.mem_of_getElem? h1, rfl⟩
  · cases h
theorem ask_in {ts : List (List En)} {l d v : List UInt8} (h : askQ ts l d = some v) : ∃ es ∈ ts, ∃ e ∈ es, e.val = v := by
  unfold askQ at h
  obtain ⟨es, h1, h2⟩ := List.exists_of_findSome?_eq_some h
  refine ⟨es, h1, ?_⟩
  unfold addrQ at h2
  split at h2
  · rename_i v' h3
    cases h2
    exact exact_in h3
  · exact exact_in h2
theorem direct_no {ts : List (List En)} (hv : ∀ es ∈ ts, valsR es = true) (p : Pt) (h : (directQ ts p).2 = false) : (directQ ts p).1 = [] := by
  unfold directQ at h ⊢
  split
  · rfl
  · rename_i hc
    rw [if_neg hc] at h
    cases ha : askQ ts p.loc p.dom with
    | none => rfl
    | some v =>
      rw [ha] at h
      obtain ⟨es, h1, e, h2, rfl⟩ := ask_in ha
      have h3 := hv es h1
      unfold valsR at h3
      rw [List.all_eq_true] at h3
      have h4 := h3 e h2
      rw [show (dirV (some e.val)).2 = (valP e.val).2 from rfl, h4] at h
      cases h
theorem new_direct {L : List (List UInt8)} {ts : List (List En)} (h : newF L [] = some ts) (p : Pt) (hp : (directQ ts p).2 = false) : (directQ ts p).1 = [] :=
  direct_no (new_right L [] ts h fun es he => by cases he) p hp
end Go.Proofs.YtpmmaickjolimaaGreatDoor.Tb

/- The law's awake. -/
namespace Go.Proofs.YtpmmaickjolimaaGreatDoor.Tb
open Go.RowKit
open Ci (Bel hid own_bel row_shape own_base addr_add splitL Aft wp_region_aft quiet_load_aft)
open Ma (Pt Pts ptC ptCs mbQ rightP)
open Ex (Xs findX goX expX)

def awT : List UInt8 := [97,64,120,46,101,120,97,109,112,108,101,32,98,64,121,46,101,120,97,109,112,108,101,10]
def awK : List UInt8 := [97,64,120,46,101,120,97,109,112,108,101]
def awV : List UInt8 := [98,64,121,46,101,120,97,109,112,108,101]
def awD : List UInt8 := [120,46,101,120,97,109,112,108,101]
def awE : List UInt8 := [121,46,101,120,97,109,112,108,101]
theorem aw_parse : tparse awT = some [⟨awK, awV⟩] := by kernel_rfl
theorem aw_val : valP awV = ([⟨false, [98], awE, false⟩], true) := by kernel_rfl
theorem aw_new : newF [awT] [] = some [[⟨awK, awV⟩]] := by
  unfold newF
  rw [aw_parse]
  show (if valsR [⟨awK, awV⟩] then newF [] ([] ++ [[⟨awK, awV⟩]]) else none) = _
  have : valsR [⟨awK, awV⟩] = true := by
    unfold valsR
    rw [List.all_cons, List.all_nil, aw_val]; rfl
  rw [this]; rfl
theorem aw_exp : expandQ [[⟨awK, awV⟩]] ⟨false, [97], awD, false⟩ = ([⟨false, [98], awE, false⟩], 0) := by kernel_rfl
set_option maxRecDepth 100000 in
theorem awake_run (w : World) (hw : Lat w) : Calls Tryz.prog 21 #[] w fun e w' => e = .returned (.bool true) ∧ Bel w w' := by
  have HW := hid hw
  have HB0 := hid ((Bel.refl w).alloc (.cells #[.string ⟨#[97, 64, 120, 46, 101, 120, 97, 109, 112, 108, 101, 32, 98, 64, 121, 46, 101, 120, 97, 109, 112, 108, 101, 10]⟩] 9))
  have hS : Sts (w.alloc (.cells #[.string ⟨#[97, 64, 120, 46, 101, 120, 97, 109, 112, 108, 101, 32, 98, 64, 121, 46, 101, 120, 97, 109, 112, 108, 101, 10]⟩] 9)) (some ⟨w.heap.size, 0, none⟩) [⟨#[97, 64, 120, 46, 101, 120, 97, 109, 112, 108, 101, 32, 98, 64, 121, 46, 101, 120, 97, 109, 112, 108, 101, 10]⟩] := ⟨.inr ⟨w.heap.size, 0, rfl, by rw [World.size_alloc]; omega, fun k hk => by
    obtain rfl : k = 0 := by simp at hk; omega
    rw [Lib.cell_of_heap (heap_alloc_new w _)]; rfl⟩⟩
  have HN := (show Hid (Calls Tryz.prog 22 #[.slice (some ⟨w.heap.size, 0, none⟩) 1 1] (w.alloc (.cells #[.string ⟨#[97, 64, 120, 46, 101, 120, 97, 109, 112, 108, 101, 32, 98, 64, 121, 46, 101, 120, 97, 109, 112, 108, 101, 10]⟩] 9)) fun e w' => ∃ a, e = .returned (.tuple #[.pointer a, .int .i64 0]) ∧ Bel (w.alloc (.cells #[.string ⟨#[97, 64, 120, 46, 101, 120, 97, 109, 112, 108, 101, 32, 98, 64, 121, 46, 101, 120, 97, 109, 112, 108, 101, 10]⟩] 9)) w' ∧ AlAt w' a [[⟨awK, awV⟩]]) from by
    refine (new_run (some ⟨w.heap.size, 0, none⟩) [⟨#[97, 64, 120, 46, 101, 120, 97, 109, 112, 108, 101, 32, 98, 64, 121, 46, 101, 120, 97, 109, 112, 108, 101, 10]⟩] 1 _ (hw.next HB0.out) hS).mono fun e w' h => ?_
    unfold NewPost at h
    rw [if_neg (by decide)] at h
    have e1 : newF (List.map (fun x : ByteArray => x.data.toList) [⟨#[97, 64, 120, 46, 101, 120, 97, 109, 112, 108, 101, 32, 98, 64, 121, 46, 101, 120, 97, 109, 112, 108, 101, 10]⟩]) [] = some [[⟨awK, awV⟩]] := aw_new
    rw [e1] at h
    exact h)
  have HE := (show Hid (∀ a W, Bel w W → AlAt W a [[⟨awK, awV⟩]] → Calls Tryz.prog 23 #[.pointer a, .agg #[.bool false, .string ⟨#[97]⟩, .string ⟨#[120, 46, 101, 120, 97, 109, 112, 108, 101]⟩, .bool false]] W fun e w' => ∃ x c, e = .returned (.tuple #[.slice x 1 c, .int .i64 0]) ∧ Bel W w' ∧ Pts w' x [⟨false, [98], awE, false⟩]) from fun a W hb hA => by
    have h := Expand_run a [[⟨awK, awV⟩]] ⟨false, [97], awD, false⟩ W (hw.next hb) hA (fun q => new_direct aw_new q) (by decide) (by decide)
    rw [aw_exp] at h
    exact h)
  clear hw hS
  go_enter Tryz.func21, Tryz.ntmps21
  go_wp2_with (first | (go_at_call 22; refine HN.out.mono ?_; rintro e w1 ⟨a, rfl, hb1, hA1⟩; obtain ⟨ab, ach, rfl, hab, hac⟩ := hA1.at_; have HB1 := hid (HB0.out.trans hb1); have HA1 := hid hA1; clear hb1 hA1 hab hac) | (go_at_call 23; refine (HE.out _ w1 HB1.out HA1.out).mono ?_; rintro e w2 ⟨x, c, rfl, hb2, hp2⟩; obtain ⟨b, o, rfl, hr⟩ := hp2.place (k := 0) (by decide); have g1 : w2.cell? ⟨b, o + 1, none⟩ = some (.string ⟨#[98]⟩) := (by have := hr 1 _ rfl; simpa using this); have HB2 := hid (HB1.out.trans hb2); clear hb2 hp2 hr))
  go_ret
  exact ⟨rfl, HB2.out⟩
end Go.Proofs.YtpmmaickjolimaaGreatDoor.Tb

/- AliasReaches in plain terms. -/
namespace Go.Proofs.YtpmmaickjolimaaGreatDoor.Tb
open Go.RowKit
open Ma (Pt Pts ptC ptCs mbQ rightP)
open Ex (Xs findX goX expX nxt endB Fin_ Lw exp_fin)

theorem find_code {s : Xs Pt} {p : Pt} {c : Int} (h : findX s p = .error c) : c ≠ 0 := by
  unfold findX at h
  split at h
  · cases h
  · split at h
    · cases h; decide
    · cases h
theorem go_code {f : Xs Pt → Pt → Except Int (Xs Pt)} (hf : ∀ s q c, f s q = .error c → c ≠ 0) {p : Pt} : ∀ (l : List Pt) (s : Xs Pt) (c : Int), goX f p s l = .error c → c ≠ 0
  | [], s, c, h => by cases h
  | q :: r, s, c, h => by
    unfold goX at h
    split at h
    · rename_i e he
      cases h
      split at he
      · exact find_code he
      · exact hf _ _ _ he
    · exact go_code hf r _ c h
theorem exp_code (D : Pt → Option (List Pt)) : ∀ (k : Nat) (s : Xs Pt) (p : Pt) (c : Int), expX D k s p = .error c → c ≠ 0
  | 0, s, p, c, h => by
    unfold expX at h
    split at h
    · cases h
    · cases h; decide
  | k + 1, s, p, c, h => by
    unfold expX at h
    split at h
    · cases h
    · split at h
      · exact find_code h
      · exact go_code (fun s q c => exp_code D k s q c) _ _ _ h
/-- What Expand tells, and that it has been told well. -/
theorem expand_cases (ts : List (List En)) (p : Pt) : ((expandQ ts p).2 ≠ 0 ∧ (expandQ ts p).1 = []) ∨ ∃ s, Fin_ (dQ ts) p s ∧ expandQ ts p = (s.out, 0) ∧ s.out ≠ [] := by
  unfold expandQ
  split
  · exact .inl ⟨by decide, rfl⟩
  · cases h : expX (dQ ts) 51 ⟨[], []⟩ p with
    | error c => exact .inl ⟨exp_code _ _ _ _ _ h, rfl⟩
    | ok s =>
      by_cases ho : s.out = []
      · have e : expandV (.ok s) = ([], 162) := if_pos ho
        rw [e]
        exact .inl ⟨by decide, rfl⟩
      · have e : expandV (.ok s) = (s.out, 0) := if_neg ho
        rw [e]
        exact .inr ⟨s, exp_fin h, rfl, ho⟩
end Go.Proofs.YtpmmaickjolimaaGreatDoor.Tb

/- AliasReaches: the law's walk. -/
namespace Go.Proofs.YtpmmaickjolimaaGreatDoor.Tb
open Go.RowKit
open Ci (Bel hid own_bel row_shape own_base addr_add splitL Aft wp_region_aft quiet_load_aft)
open Ma (Pt Pts ptC ptCs mbQ pt_infos pt_size ptCs_snoc ptCs_at rightP good_small)
open Ex (Xs findX goX expX nxt endB Fin_ Lw exp_fin addX)

/-- Those who have been come to, in hand. -/
structure RcI (ts : List (List En)) (p : Pt) (s : Xs Pt) (w2 wr : World) (v : Value) (all : List Pt) (i n : Nat) : Prop where
  bel : Bel w2 wr
  row : wr.ownsRow w2.heap.size 39 4 v all.length (ptCs all)
  lw : Lw (dQ ts) p s all i n
/-- The same, while those are gone through whom one stands for. -/
structure RdI (ts : List (List En)) (p : Pt) (s : Xs Pt) (w2 : World) (q : Pt) (x : Option Addr) (l : List Pt) (ok : Bool) (i n k : Nat) (wr : World) (v : Value) (all : List Pt) (e : Bool) : Prop where
  rc : RcI ts p s w2 wr v all i n
  at_ : all[i]? = some q
  lst : l = [] ∨ ∃ b o, x = some ⟨b, o, none⟩ ∧ b < wr.heap.size ∧ v.ownBlock ≠ some b ∧ ∀ k (hk : k < l.length), wr.rangeAt b (o + k * 4) (ptC l[k])
  inc : ∀ r ∈ l.take k, r ∈ all
  en : e = (!ok || decide (q ∈ l.take k))
theorem RdI.bel {ts : List (List En)} {p : Pt} {s : Xs Pt} {w2 : World} {q : Pt} {x : Option Addr} {l : List Pt} {ok : Bool} {i n k : Nat} {wr wx : World} {v : Value} {all : List Pt} {e : Bool} (h : RdI ts p s w2 q x l ok i n k wr v all e) (hb : Bel wr wx) : RdI ts p s w2 q x l ok i n k wx v all e :=
  ⟨⟨h.rc.bel.trans hb, own_bel h.rc.row hb, h.rc.lw⟩, h.at_, h.lst.imp id fun ⟨b, o, a1, a2, a3, a4⟩ => ⟨b, o, a1, Nat.lt_of_lt_of_le a2 hb.size, a3, fun k hk j u hu => (bel_cell hb a2).trans (a4 k hk j u hu)⟩, h.inc, h.en⟩
theorem take_succ_mem {l : List Pt} {k : Nat} (hk : k < l.length) {r : Pt} : r ∈ l.take (k + 1) ↔ r ∈ l.take k ∨ r = l[k] := by
  rw [List.take_succ_eq_append_getElem hk, List.mem_append, List.mem_singleton]
theorem en_step {ok e : Bool} {q : Pt} {l : List Pt} {k : Nat} (hk : k < l.length) (h : e = (!ok || decide (q ∈ l.take k))) : (e || decide (l[k] = q)) = (!ok || decide (q ∈ l.take (k + 1))) := by
  rw [h, Bool.or_assoc]
  congr 1
  by_cases h1 : q ∈ l.take k
  · rw [decide_eq_true h1, decide_eq_true ((take_succ_mem hk).2 (.inl h1))]; rfl
  · by_cases h2 : l[k] = q
    · rw [decide_eq_true h2, decide_eq_true ((take_succ_mem hk).2 (.inr h2.symm))]; simp
    · rw [decide_eq_false h1, decide_eq_false h2, decide_eq_false fun h3 => ((take_succ_mem hk).1 h3).elim h1 fun e => h2 e.symm]; rfl
/-- One that is there already. -/
theorem RdI.skip {ts : List (List En)} {p : Pt} {s : Xs Pt} {w2 : World} {q : Pt} {x : Option Addr} {l : List Pt} {ok : Bool} {i n k : Nat} {wr : World} {v : Value} {all : List Pt} {e : Bool} (h : RdI ts p s w2 q x l ok i n k wr v all e) (hk : k < l.length) (hm : l[k] ∈ all) : RdI ts p s w2 q x l ok i n (k + 1) wr v all (e || decide (l[k] = q)) :=
  ⟨h.rc, h.at_, h.lst, fun r hr => ((take_succ_mem hk).1 hr).elim (h.inc r) fun e => e ▸ hm, en_step hk h.en⟩
/-- One is laid behind. -/
theorem RdI.push {ts : List (List En)} {p : Pt} {s : Xs Pt} {w2 : World} {q : Pt} {x : Option Addr} {l : List Pt} {ok : Bool} {i n k : Nat} {wr w9 : World} {v v' : Value} {all : List Pt} {e : Bool} {o : Obj} (h : RdI ts p s w2 q x l ok i n k wr v all e) (hk : k < l.length) (hm : l[k] ∉ all) (hmet : l[k] ∈ s.met)
    (hg : (wr.alloc o).grownBy w9 v.ownBlock) (hf : v'.ownBlock = v.ownBlock ∨ ∃ g, v'.ownBlock = some g ∧ wr.heap.size ≤ g) (ho : w9.ownsRow w2.heap.size 39 4 v' (all.length + 1) (ptCs all ++ ptC l[k])) : RdI ts p s w2 q x l ok i n (k + 1) w9 v' (all ++ [l[k]]) (e || decide (l[k] = q)) := by
  have hadd : addX all l[k] = all ++ [l[k]] := if_neg hm
  have hlw := h.rc.lw.add hmet
  rw [hadd] at hlw
  have hgz := hg.size
  rw [World.size_alloc] at hgz
  refine ⟨⟨Ci.Bel.grown (h.rc.bel.alloc _) hg (h.rc.row.alloc _), by rw [ptCs_snoc, List.length_append]; exact ho, hlw⟩, ?_, ?_, fun r hr => ?_, en_step hk h.en⟩
  · obtain ⟨hi, he⟩ := List.getElem?_eq_some_iff.1 h.at_
    rw [List.getElem?_append_left hi]; exact h.at_
  · rcases h.lst with f | ⟨b, o2, a1, a2, a3, a4⟩
    · exact .inl f
    · refine .inr ⟨b, o2, a1, by omega, ?_, fun k hk j u hu => ?_⟩
      · rcases hf with e1 | ⟨g, e1, hge⟩
        · rw [e1]; exact a3
        · rw [e1]; intro e2; have := Option.some.inj e2; omega
      · refine (World.cell?_of_block (a := ⟨b, o2 + k * 4 + j, none⟩) ?_).trans (a4 k hk j u hu)
        rw [hg.block b (by rw [World.size_alloc]; omega) (fun e => a3 e.symm), heap_alloc_old _ _ a2]
  · rcases (take_succ_mem hk).1 hr with h1 | rfl
    · exact List.mem_append_left _ (h.inc r h1)
    · simp
end Go.Proofs.YtpmmaickjolimaaGreatDoor.Tb

/- AliasReaches: the law's walk, the whole. -/
namespace Go.Proofs.YtpmmaickjolimaaGreatDoor.Tb
open Go.RowKit
open Ci (Bel hid own_bel row_shape own_base addr_add splitL Aft wp_region_aft quiet_load_aft)
open Ma (Pt Pts ptC ptCs mbQ pt_infos pt_size ptCs_snoc ptCs_at rightP good_small)
open Ex (Xs findX goX expX nxt endB Fin_ Lw exp_fin addX)

/-- How New ends, in two cases. -/
theorem new_cases (x : Option Addr) (bs : List ByteArray) (c : Nat) (w : World) (hw : Lat w) (hS : Sts w x bs) :
    (∀ W, Bel w W → Calls Tryz.prog 22 #[.slice x bs.length c] W fun e w' => ∃ code : Int, code ≠ 0 ∧ e = .returned (.tuple #[.pointer none, .int .i64 code]) ∧ Bel W w') ∨
    ∃ ts, (∀ q, (directQ ts q).2 = false → (directQ ts q).1 = []) ∧ (∀ es ∈ ts, valsR es = true) ∧ ∀ W, Bel w W → Calls Tryz.prog 22 #[.slice x bs.length c] W fun e w' => ∃ a, e = .returned (.tuple #[.pointer a, .int .i64 0]) ∧ Bel W w' ∧ AlAt w' a ts := by
  have h := fun W (hb : Bel w W) => new_run x bs c W (hw.next hb) (hS.next hb)
  by_cases h8 : 8 < (bs.map (·.data.toList)).length
  · refine .inl fun W hb => (h W hb).mono fun e w' hp => ?_
    unfold NewPost at hp
    rw [if_pos h8] at hp
    exact ⟨1, by decide, hp⟩
  · cases hn : newF (bs.map (·.data.toList)) [] with
    | none =>
      refine .inl fun W hb => (h W hb).mono fun e w' hp => ?_
      unfold NewPost at hp
      rw [if_neg h8, hn] at hp
      exact ⟨163, by decide, hp⟩
    | some ts =>
      refine .inr ⟨ts, fun q hq => new_direct hn q hq, new_right _ [] ts hn fun es he => (by cases he), fun W hb => (h W hb).mono fun e w' hp => ?_⟩
      unfold NewPost at hp
      rw [if_neg h8, hn] at hp
      exact hp
end Go.Proofs.YtpmmaickjolimaaGreatDoor.Tb

/- The reference's Same of two equal lists of paths. -/
namespace Go.Proofs.YtpmmaickjolimaaGreatDoor.Tb
open Go.RowKit
open Ci (Bel hid own_bel row_shape own_base addr_add splitL Aft wp_region_aft quiet_load_aft)
open Ma (Pt Pts ptC ptCs mbQ pt_infos pt_size ptCs_snoc ptCs_at rightP good_small)

set_option maxHeartbeats 4000000 in
set_option maxRecDepth 100000 in
theorem psame_run (x1 x2 : Option Addr) (l : List Pt) (c1 c2 : Nat) (w : World) (h1 : Pts w x1 l) (h2 : Pts w x2 l) (hn : l.length ≤ 9223372036854775807) :
    Calls Tryz.prog 27 #[.slice x1 l.length c1, .slice x2 l.length c2] w fun e w' => e = .returned (.bool true) ∧ Bel w w' := by
  have H1 := hid h1
  have H2 := hid h2
  clear h1 h2
  go_enter Tryz.func27, Tryz.ntmps27
  go_wp2_with fail
  go_loopg [5] l.length (fun gg v5 wr => ∃ k : Nat, v5 = .int .i64 k ∧ k + gg = l.length ∧ Hid (Bel w wr))
  case atStart => exact ⟨0, rfl, by omega, hid (Bel.refl w)⟩
  case round =>
    obtain ⟨k, rfl, hk, HB⟩ := hrel
    have Hk := hid hk
    have hkn : k ≤ l.length := by omega
    clear hk
    by_cases hlt : k < l.length
    · obtain ⟨ba, oa, rfl, hra⟩ := (H1.out.next HB.out).place hlt
      obtain ⟨bb, ob, rfl, hrb⟩ := (H2.out.next HB.out).place hlt
      have K1 := hid (fun q : Aft wr => show q.wd.rangeAt ba (oa + k * 4) (ptC l[k]) from by
        obtain ⟨b2, o2, e, hr2⟩ := (H1.out.next (HB.out.trans q.bel)).place hlt
        cases e; exact hr2)
      have K2 := hid (fun q : Aft wr => show q.wd.rangeAt bb (ob + k * 4) (ptC l[k]) from by
        obtain ⟨b2, o2, e, hr2⟩ := (H2.out.next (HB.out.trans q.bel)).place hlt
        cases e; exact hr2)
      have HE := fun W => eq_ptc l[k] l[k] W
      rw [decide_eq_true rfl] at HE
      have b1 : decide ((k : Int) < 0) = false := decide_eq_false (by omega)
      have b2 : decide ((l.length : Int) ≤ (k : Int)) = false := decide_eq_false (by omega)
      clear hra hrb
      generalize l[k] = lk at HE K1 K2
      go_wp2_with fail
      refine wp_region_aft (by kernel_rfl) (by kernel_rfl) ?_
      repeat (first
        | go_big_quiet_skip
        | (refine quiet_load_aft 39 _ rfl ba (oa + k * 4) rfl (ptC lk) _ K1.out Tryz.underlying39 rfl pt_size (by rfl) ?_; intro a' ha'; simp only [Act.put, List.setIfInBounds_toArray, List.set_cons_succ, List.set_cons_zero] at ha'; subst ha')
        | (refine quiet_load_aft 39 _ rfl bb (ob + k * 4) rfl (ptC lk) _ K2.out Tryz.underlying39 rfl pt_size (by rfl) ?_; intro a' ha'; simp only [Act.put, List.setIfInBounds_toArray, List.set_cons_succ, List.set_cons_zero] at ha'; subst ha')
        | go_big_quiet_step (fail)
        | quiet_step (fail))
      refine wpQuiet_nil ?_
      rintro _ ⟨q, rfl⟩
      go_wp2_with fail
      go_roundg (gk - 1)
      case measure => have := Hk.out; omega
      case rel => exact ⟨k + 1, by go_num, by have := Hk.out; omega, hid (HB.out.trans q.bel)⟩
    · obtain rfl : k = l.length := by omega
      go_wp2_with fail
      go_ret
      exact ⟨rfl, HB.out⟩
end Go.Proofs.YtpmmaickjolimaaGreatDoor.Tb
