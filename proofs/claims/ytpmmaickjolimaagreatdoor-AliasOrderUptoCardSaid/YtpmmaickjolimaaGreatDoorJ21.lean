/- Walk: the expander of Expand of alias. -/
import Derived.Test.YtpmmaickjolimaaGreatDoorJ20
namespace Go.Proofs.YtpmmaickjolimaaGreatDoor.Tb
open Go.RowKit
open Ci (Bel hid own_bel row_shape own_base addr_add splitL Aft wp_region_aft quiet_load_aft)
open Ma (Pt Pts ptC ptCs mbQ Mailbox_run pt_infos pt_size ptCs_snoc ptCs_at rightP good_small)
open Ex (Xs findX goX expX)

def dQ (ts : List (List En)) (p : Pt) : Option (List Pt) := if (directQ ts p).2 then some (directQ ts p).1 else none
theorem direct_len (ts : List (List En)) (p : Pt) : (directQ ts p).2 = true → (directQ ts p).1.length ≤ 100 := by
  unfold directQ
  split
  · intro h; cases h
  · cases askQ ts p.loc p.dom with
    | none => intro h; cases h
    | some v =>
      show (valP v).2 = true → (valP v).1.length ≤ 100
      unfold valP
      split
      · intro h; cases h
      · intro h; exact of_decide_eq_true h
theorem Xm.old {bo r N j : Nat} {A B : World} {u v : Value} (h : Xm bo r A B u v) (hbo : bo < N) (hr : r < N) (hj : N ≤ j) (hj2 : j < A.heap.size) (hu : u.ownBlock ≠ some j) : B.heap[j]? = A.heap[j]? ∧ v.ownBlock ≠ some j := by
  refine ⟨h.keep j hj2 (by omega) (by omega) hu, ?_⟩
  rcases h.fresh with e | ⟨g, e, hg⟩
  · rw [e]; exact hu
  · rw [e]; intro e2; have := Option.some.inj e2; omega
theorem ExM.own_lt {w0 W : World} {ts : List (List En)} {a : Option Addr} {ba bo bm r bf be : Nat} {s : Xs Pt} {v : Value} (h : ExM w0 ts a ba bo bm r bf be W s v) {j : Nat} (hj : W.heap.size ≤ j) : v.ownBlock ≠ some j := by
  rcases h.row.2 with ⟨rfl, -⟩ | ⟨g, cap, cur, rfl, -, hg, -⟩
  · intro e; cases e
  · intro e
    have h1 : g = j := Option.some.inj e
    have := (Array.getElem?_eq_some_iff.1 hg).1
    omega
/-- One is put among those met. -/
theorem ExM.put {w0 W : World} {ts : List (List En)} {a : Option Addr} {ba bo bm r bf be : Nat} {s : Xs Pt} {v : Value} {p : Pt} {es : Array MapEntry} {clock : Nat} (h : ExM w0 ts a ba bo bm r bf be W s v) (he : es.toList.map (fun e => (e.key, e.val)) = (s.met ++ [p]).map fun p => (Value.agg (ptC p).toArray, Value.bool true)) :
    Xm bo r W (W.putObj r (.map es clock)) v v ∧ ExM w0 ts a ba bo bm r bf be (W.putObj r (.map es clock)) ⟨s.met ++ [p], s.out⟩ v := by
  obtain ⟨es0, c0, h1, -⟩ := h.met
  have hg : W.grownBy (W.putObj r (.map es clock)) (some r) := grownBy_putObj' _ _ _
  have nr : ∀ {j : Nat} {cur : Array Value} {T : TypeId}, W.heap[j]? = some (.cells cur T (0, 0)) → j ≠ r := fun hj e => by
    subst e; rw [h1] at hj; cases hj
  have cell : ∀ {j : Nat} {cur : Array Value} {T : TypeId}, W.heap[j]? = some (.cells cur T (0, 0)) → (W.putObj r (.map es clock)).heap[j]? = some (.cells cur T (0, 0)) := fun hj => (World.putObj_heap_other (nr hj)).trans hj
  refine ⟨⟨hg.os, hg.tape, hg.output, hg.size, fun j _ _ h2 _ => World.putObj_heap_other h2, .inl rfl⟩, ⟨bel_turn h.bel hg fun x e => by cases e; exact h.ge.2.2.2.1, h.ge, cell h.al, cell h.out, h.row.kept hg ?_, cell h.mv, ⟨es, clock, World.putObj_heap_same (Array.getElem?_eq_some_iff.1 h1).1, he⟩, cell h.fv, cell h.ev, h.len⟩⟩
  rcases h.row.2 with ⟨rfl, -⟩ | ⟨g, cap, cur, rfl, -, hgg, -⟩
  · exact .inl rfl
  · refine .inr fun e => ?_
    have e2 : g = r := Option.some.inj e
    rw [e2, h1] at hgg
    cases hgg
/-- The loop over whom one stands for, in hand. -/
structure LpI (w0 : World) (ts : List (List En)) (a : Option Addr) (ba bo bm r bf be : Nat) (W : World) (v : Value) (p : Pt) (x : Option Addr) (l : List Pt) (f : Xs Pt → Pt → Except Int (Xs Pt)) (tot : Except Int (Xs Pt)) (i : Nat) (wr : World) (si : Xs Pt) (vi : Value) : Prop where
  m : ExM w0 ts a ba bo bm r bf be wr si vi
  go : Xm bo r W wr v vi
  b6 : wr.heap[W.heap.size]? = some (.cells (ptC p).toArray 39 (0, 0))
  lst : l = [] ∨ ∃ b o, x = some ⟨b, o, none⟩ ∧ W.heap.size ≤ b ∧ b < wr.heap.size ∧ vi.ownBlock ≠ some b ∧ ∀ k (hk : k < l.length), wr.rangeAt b (o + k * 4) (ptC l[k])
  n6 : vi.ownBlock ≠ some W.heap.size
  eq : goX f p si (l.drop i) = tot
theorem LpI.next {w0 : World} {ts : List (List En)} {a : Option Addr} {ba bo bm r bf be : Nat} {W : World} {v : Value} {p : Pt} {x : Option Addr} {l : List Pt} {f : Xs Pt → Pt → Except Int (Xs Pt)} {tot : Except Int (Xs Pt)} {i i' : Nat} {wr wa wb : World} {si sj : Xs Pt} {vi vj : Value}
    (h : LpI w0 ts a ba bo bm r bf be W v p x l f tot i wr si vi) (hbo : bo < W.heap.size) (hr : r < W.heap.size) (hb : Bel wr wa) (hx : Xm bo r wa wb vi vj) (hm : ExM w0 ts a ba bo bm r bf be wb sj vj) (he : goX f p sj (l.drop i') = tot) : LpI w0 ts a ba bo bm r bf be W v p x l f tot i' wb sj vj := by
  have h6 := hx.old hbo hr (Nat.le_refl W.heap.size) (Nat.lt_of_lt_of_le (Array.getElem?_eq_some_iff.1 h.b6).1 hb.size) h.n6
  refine ⟨hm, h.go.trans ((Xm.of_bel hb).trans hx), h6.1.trans (hb.heap h.b6), ?_, h6.2, he⟩
  rcases h.lst with e | ⟨b, o, e, h1, h2, h3, h4⟩
  · exact .inl e
  · have hl := hx.old hbo hr h1 (Nat.lt_of_lt_of_le h2 hb.size) h3
    exact .inr ⟨b, o, e, h1, Nat.lt_of_lt_of_le h2 (Nat.le_trans hb.size hx.size), hl.2, fun k hk j u hu => (World.cell?_of_block (a := ⟨b, o + k * 4 + j, none⟩) (hl.1.trans (hb.block b h2))).trans (h4 k hk j u hu)⟩
theorem goX_err {f : Xs Pt → Pt → Except Int (Xs Pt)} {p : Pt} {s : Xs Pt} {l : List Pt} {i : Nat} {e : Int} (hi : i < l.length) (h : (if l[i] = p then findX s p else f s l[i]) = .error e) : goX f p s (l.drop i) = .error e := by
  rw [List.drop_eq_getElem_cons hi]
  unfold goX
  rw [h]
theorem goX_ok {f : Xs Pt → Pt → Except Int (Xs Pt)} {p : Pt} {s s' : Xs Pt} {l : List Pt} {i : Nat} (hi : i < l.length) (h : (if l[i] = p then findX s p else f s l[i]) = .ok s') : goX f p s (l.drop i) = goX f p s' (l.drop (i + 1)) := by
  rw [List.drop_eq_getElem_cons hi]
  conv => lhs; unfold goX
  rw [h]
theorem exp_met {ts : List (List En)} {k : Nat} {s : Xs Pt} {p : Pt} (h : p ∈ s.met) : expX (dQ ts) (k + 1) s p = .ok s := by
  unfold expX
  rw [if_pos h]
theorem exp_none {ts : List (List En)} {k : Nat} {s : Xs Pt} {p : Pt} (h : p ∉ s.met) (hd : dQ ts p = none) : expX (dQ ts) (k + 1) s p = findX ⟨s.met ++ [p], s.out⟩ p := by
  unfold expX
  rw [if_neg h, hd]
theorem exp_some {ts : List (List En)} {k : Nat} {s : Xs Pt} {p : Pt} {l : List Pt} (h : p ∉ s.met) (hd : dQ ts p = some l) : expX (dQ ts) (k + 1) s p = goX (expX (dQ ts) k) p ⟨s.met ++ [p], s.out⟩ l := by
  conv => lhs; unfold expX
  rw [if_neg h, hd]
set_option maxHeartbeats 8000000 in
set_option maxRecDepth 100000 in
theorem expand_run (w0 : World) (ts : List (List En)) (a : Option Addr) (ba bo bm r bf be : Nat) (hw0 : Lat w0) (hA : AlAt w0 a ts) (hR : ∀ p, (directQ ts p).2 = false → (directQ ts p).1 = []) : ∀ (k dp : Nat), dp + k = 51 → ∀ (W : World) (s : Xs Pt) (v : Value) (p : Pt), ExM w0 ts a ba bo bm r bf be W s v → p.loc.length ≤ 4194304 → p.dom.length ≤ 4194304 →
    Calls Tryz.prog 63 #[.agg (ptC p).toArray, .int .i64 (dp : Int), .pointer (some ⟨bm, 0, none⟩), .pointer (some ⟨ba, 0, none⟩), .pointer (some ⟨bf, 0, none⟩), .pointer (some ⟨be, 0, none⟩)] W (ExPost w0 ts a ba bo bm r bf be W v (expX (dQ ts) k s p)) := by
  intro k
  induction k with
  | zero =>
    intro dp hdp W s v p h hl hd
    obtain rfl : dp = 51 := by omega
    have HH := hid h
    obtain ⟨nl, lc, dm, lt⟩ := p
    have HB0 := hid ((Bel.refl W).alloc (.cells #[.bool nl, .string ⟨lc.toArray⟩, .string ⟨dm.toArray⟩, .bool lt] 39))
    have H1 := HH.out.next HB0.out
    have c1 : (W.alloc (.cells #[.bool nl, .string ⟨lc.toArray⟩, .string ⟨dm.toArray⟩, .bool lt] 39)).cell? ⟨bm, 0, none⟩ = some (.map (some r)) := by rw [Lib.cell_of_heap H1.mv]; rfl
    have hlk := met_look H1.met ⟨nl, lc, dm, lt⟩
    have HX : Hid (expX (dQ ts) 0 s ⟨nl, lc, dm, lt⟩ = if (⟨nl, lc, dm, lt⟩ : Pt) ∈ s.met then .ok s else .error 161) := hid rfl
    have H1 := hid H1
    clear h hl hd
    show Calls _ _ #[.agg #[.bool nl, .string ⟨lc.toArray⟩, .string ⟨dm.toArray⟩, .bool lt], _, _, _, _, _] _ _
    have hlk : (Instr.lookup 113 (.map (some r)) (.agg #[.bool nl, .string ⟨lc.toArray⟩, .string ⟨dm.toArray⟩, .bool lt]) false).run Tryz.prog (W.alloc (.cells #[.bool nl, .string ⟨lc.toArray⟩, .string ⟨dm.toArray⟩, .bool lt] 39)) = .ok (.bool (decide ((⟨nl, lc, dm, lt⟩ : Pt) ∈ s.met))) (W.alloc (.cells #[.bool nl, .string ⟨lc.toArray⟩, .string ⟨dm.toArray⟩, .bool lt] 39)) := hlk
    by_cases hm : (⟨nl, lc, dm, lt⟩ : Pt) ∈ s.met
    · rw [decide_eq_true hm] at hlk
      have HY := hid (HX.out.trans (if_pos hm))
      clear hm
      go_enter Tryz.func63, Tryz.ntmps63
      go_wp2_with fail
      refine bodyPost_ret (results_none rfl _ _ _) rfl ?_
      rw [HY.out]
      exact ⟨rfl, v, Xm.of_bel HB0.out, H1.out⟩
    · rw [decide_eq_false hm] at hlk
      have HY := hid (HX.out.trans (if_neg hm))
      obtain ⟨es, clock, hmu, hes⟩ := met_put H1.out.met ⟨nl, lc, dm, lt⟩ hm
      have hput := H1.out.put (clock := clock) hes
      have HP := hid hput
      obtain ⟨W2, hW2⟩ : ∃ W2, W2 = (W.alloc (.cells #[.bool nl, .string ⟨lc.toArray⟩, .string ⟨dm.toArray⟩, .bool lt] 39)).putObj r (.map es clock) := ⟨_, rfl⟩
      rw [← hW2] at hmu HP
      have hmu : (Instr.mapUpdate 113 (.map (some r)) (.agg #[.bool nl, .string ⟨lc.toArray⟩, .string ⟨dm.toArray⟩, .bool lt]) (.bool true)).run Tryz.prog (W.alloc (.cells #[.bool nl, .string ⟨lc.toArray⟩, .string ⟨dm.toArray⟩, .bool lt] 39)) = .ok () W2 := hmu
      clear hm hput hes hW2
      go_enter Tryz.func63, Tryz.ntmps63
      go_wp2_with fail
      refine ⟨rfl, ?_⟩
      rw [HY.out]
      exact ⟨rfl, _, v, (Xm.of_bel HB0.out).trans HP.out.1, HP.out.2⟩
  | succ k ih =>
    intro dp hdp W s v p h hl hd
    have HH := hid h
    have hdr := direct_good ts p
    have hrD := hR p
    have HDI := (show Hid (∀ W2, Bel w0 W2 → Calls Tryz.prog 24 #[.pointer a, .agg (ptC p).toArray] W2 fun e w' => ∃ x c, e = .returned (.tuple #[.slice x (directQ ts p).1.length c, .bool (directQ ts p).2]) ∧ Bel W2 w' ∧ Pts w' x (directQ ts p).1 ∧ ∀ ad, x = some ad → W2.heap.size ≤ ad.block) from fun W2 hb => direct_run a ts p W2 (hw0.next hb) (hA.next hb) hl hd)
    have hlen := direct_len ts p
    have hdq : dQ ts p = if (directQ ts p).2 then some (directQ ts p).1 else none := rfl
    generalize directQ ts p = D at hdr hrD HDI hdq hlen
    obtain ⟨l, ok⟩ := D
    have b0 : decide ((50 : Int) < (dp : Int)) = false := decide_eq_false (by omega)
    obtain ⟨nl, lc, dm, lt⟩ := p
    have HB0 := hid ((Bel.refl W).alloc (.cells #[.bool nl, .string ⟨lc.toArray⟩, .string ⟨dm.toArray⟩, .bool lt] 39))
    have H1 := HH.out.next HB0.out
    have c1 : (W.alloc (.cells #[.bool nl, .string ⟨lc.toArray⟩, .string ⟨dm.toArray⟩, .bool lt] 39)).cell? ⟨bm, 0, none⟩ = some (.map (some r)) := by rw [Lib.cell_of_heap H1.mv]; rfl
    have hlk : (Instr.lookup 113 (.map (some r)) (.agg #[.bool nl, .string ⟨lc.toArray⟩, .string ⟨dm.toArray⟩, .bool lt]) false).run Tryz.prog (W.alloc (.cells #[.bool nl, .string ⟨lc.toArray⟩, .string ⟨dm.toArray⟩, .bool lt] 39)) = .ok (.bool (decide ((⟨nl, lc, dm, lt⟩ : Pt) ∈ s.met))) (W.alloc (.cells #[.bool nl, .string ⟨lc.toArray⟩, .string ⟨dm.toArray⟩, .bool lt] 39)) := met_look H1.met ⟨nl, lc, dm, lt⟩
    have hbo : bo < W.heap.size := (Array.getElem?_eq_some_iff.1 h.out).1
    have hrr : r < W.heap.size := by obtain ⟨es, c, h1, -⟩ := h.met; exact (Array.getElem?_eq_some_iff.1 h1).1
    have HOR := hid (And.intro hbo hrr)
    have H1 := hid H1
    clear h hl hd hbo hrr
    show Calls _ _ #[.agg #[.bool nl, .string ⟨lc.toArray⟩, .string ⟨dm.toArray⟩, .bool lt], _, _, _, _, _] _ _
    by_cases hm : (⟨nl, lc, dm, lt⟩ : Pt) ∈ s.met
    · rw [decide_eq_true hm] at hlk
      have HY := hid (exp_met (ts := ts) (k := k) hm)
      clear hm
      go_enter Tryz.func63, Tryz.ntmps63
      go_wp2_with fail
      refine bodyPost_ret (results_none rfl _ _ _) rfl ?_
      rw [HY.out]
      exact ⟨rfl, v, Xm.of_bel HB0.out, H1.out⟩
    · rw [decide_eq_false hm] at hlk
      have HM := hid hm
      obtain ⟨es, clock, hmu, hes⟩ := met_put H1.out.met ⟨nl, lc, dm, lt⟩ hm
      have hput := H1.out.put (clock := clock) hes
      have HP := hid hput
      obtain ⟨W2, hW2⟩ : ∃ W2, W2 = (W.alloc (.cells #[.bool nl, .string ⟨lc.toArray⟩, .string ⟨dm.toArray⟩, .bool lt] 39)).putObj r (.map es clock) := ⟨_, rfl⟩
      have h6 : W2.heap[W.heap.size]? = some (.cells #[.bool nl, .string ⟨lc.toArray⟩, .string ⟨dm.toArray⟩, .bool lt] 39 (0, 0)) := by
        rw [hW2]
        exact (World.putObj_heap_other (by have := HOR.out.2; omega)).trans (heap_alloc_new W _)
      rw [← hW2] at hmu HP
      have hmu : (Instr.mapUpdate 113 (.map (some r)) (.agg #[.bool nl, .string ⟨lc.toArray⟩, .string ⟨dm.toArray⟩, .bool lt]) (.bool true)).run Tryz.prog (W.alloc (.cells #[.bool nl, .string ⟨lc.toArray⟩, .string ⟨dm.toArray⟩, .bool lt] 39)) = .ok () W2 := hmu
      have HX2 := hid ((Xm.of_bel (bo := bo) (r := r) (v := v) HB0.out).trans HP.out.1)
      have a0 : W2.cell? ⟨ba, 0, none⟩ = some (.pointer a) := by rw [Lib.cell_of_heap HP.out.2.al]; rfl
      have d0 : W2.cell? ⟨W.heap.size, 0, none⟩ = some (.bool nl) := by rw [Lib.cell_of_heap h6]; rfl
      have d1 : W2.cell? ⟨W.heap.size, 1, none⟩ = some (.string ⟨lc.toArray⟩) := by rw [Lib.cell_of_heap h6]; rfl
      have d2 : W2.cell? ⟨W.heap.size, 2, none⟩ = some (.string ⟨dm.toArray⟩) := by rw [Lib.cell_of_heap h6]; rfl
      have d3 : W2.cell? ⟨W.heap.size, 3, none⟩ = some (.bool lt) := by rw [Lib.cell_of_heap h6]; rfl
      have H6 := hid h6
      have eg2 : ∀ args w, (callFunc 61 args).run Tryz.prog w = .ok (.enter 61 args) w := enters_of Tryz.func61 (by kernel_rfl) rfl
      have eg3 : ∀ args w, (callFunc 63 args).run Tryz.prog w = .ok (.enter 63 args) w := enters_of Tryz.func63 (by kernel_rfl) rfl
      clear hm hput hes hW2 h6
      cases ok with
      | false =>
        obtain rfl : l = [] := hrD rfl
        have HY := hid (exp_none (ts := ts) (k := k) HM.out (show dQ ts ⟨nl, lc, dm, lt⟩ = none from hdq))
        have HF := (show Hid (∀ w3, Bel W2 w3 → Calls Tryz.prog 61 #[.agg #[.bool nl, .string ⟨lc.toArray⟩, .string ⟨dm.toArray⟩, .bool lt], .pointer (some ⟨bo, 0, none⟩)] w3 (ExPost w0 ts a ba bo bm r bf be w3 v (findX ⟨s.met ++ [⟨nl, lc, dm, lt⟩], s.out⟩ ⟨nl, lc, dm, lt⟩))) from fun w3 hb => find_run w0 ts a ba bo bm r bf be w3 ⟨s.met ++ [(⟨nl, lc, dm, lt⟩ : Pt)], s.out⟩ v (⟨nl, lc, dm, lt⟩ : Pt) (HP.out.2.next hb))
        generalize findX ⟨s.met ++ [⟨nl, lc, dm, lt⟩], s.out⟩ ⟨nl, lc, dm, lt⟩ = R at HY HF
        clear hdq hdr hrD ih hlen
        cases R with
        | error c =>
          have HF := (show Hid (∀ w3, Bel W2 w3 → Calls Tryz.prog 61 #[.agg #[.bool nl, .string ⟨lc.toArray⟩, .string ⟨dm.toArray⟩, .bool lt], .pointer (some ⟨bo, 0, none⟩)] w3 fun e W' => e = .panicked (stopV c) ∧ ∃ s' v', Xm bo r w3 W' v v' ∧ ExM w0 ts a ba bo bm r bf be W' s' v') from HF.out)
          go_enter Tryz.func63, Tryz.ntmps63
          go_wp2_with (first | (go_at_call 24; refine (HDI.out _ HP.out.2.bel).mono ?_; rintro e w3 ⟨x, c, rfl, hb3, hp3, hf3⟩; have HB3 := hid hb3; have H63 := hb3.heap H6.out; have e0 : w3.cell? ⟨W.heap.size, 0, none⟩ = some (.bool nl) := (by rw [Lib.cell_of_heap H63]; rfl); have e1 : w3.cell? ⟨W.heap.size, 1, none⟩ = some (.string ⟨lc.toArray⟩) := (by rw [Lib.cell_of_heap H63]; rfl); have e2 : w3.cell? ⟨W.heap.size, 2, none⟩ = some (.string ⟨dm.toArray⟩) := (by rw [Lib.cell_of_heap H63]; rfl); have e3 : w3.cell? ⟨W.heap.size, 3, none⟩ = some (.bool lt) := (by rw [Lib.cell_of_heap H63]; rfl); have e4 : w3.cell? ⟨bf, 0, none⟩ = some (.func (.func 61) #[] #[.pointer (some ⟨bo, 0, none⟩)]) := (by rw [Lib.cell_of_heap (hb3.heap HP.out.2.fv)]; rfl); clear hb3 hp3 hf3 H63) | (go_at_fn 61; refine (HF.out w3 HB3.out).mono ?_; rintro e w4 ⟨rfl, s', v', hx4, hm4⟩))
          refine ⟨rfl, ?_⟩
          rw [HY.out]
          exact ⟨rfl, s', v', HX2.out.trans ((Xm.of_bel HB3.out).trans hx4), hm4⟩
        | ok s1 =>
          have HF := (show Hid (∀ w3, Bel W2 w3 → Calls Tryz.prog 61 #[.agg #[.bool nl, .string ⟨lc.toArray⟩, .string ⟨dm.toArray⟩, .bool lt], .pointer (some ⟨bo, 0, none⟩)] w3 fun e W' => e = .returned (.tuple #[]) ∧ ∃ v', Xm bo r w3 W' v v' ∧ ExM w0 ts a ba bo bm r bf be W' s1 v') from HF.out)
          go_enter Tryz.func63, Tryz.ntmps63
          go_wp2_with (first | (go_at_call 24; refine (HDI.out _ HP.out.2.bel).mono ?_; rintro e w3 ⟨x, c, rfl, hb3, hp3, hf3⟩; have HB3 := hid hb3; have H63 := hb3.heap H6.out; have e0 : w3.cell? ⟨W.heap.size, 0, none⟩ = some (.bool nl) := (by rw [Lib.cell_of_heap H63]; rfl); have e1 : w3.cell? ⟨W.heap.size, 1, none⟩ = some (.string ⟨lc.toArray⟩) := (by rw [Lib.cell_of_heap H63]; rfl); have e2 : w3.cell? ⟨W.heap.size, 2, none⟩ = some (.string ⟨dm.toArray⟩) := (by rw [Lib.cell_of_heap H63]; rfl); have e3 : w3.cell? ⟨W.heap.size, 3, none⟩ = some (.bool lt) := (by rw [Lib.cell_of_heap H63]; rfl); have e4 : w3.cell? ⟨bf, 0, none⟩ = some (.func (.func 61) #[] #[.pointer (some ⟨bo, 0, none⟩)]) := (by rw [Lib.cell_of_heap (hb3.heap HP.out.2.fv)]; rfl); clear hb3 hp3 hf3 H63) | (go_at_fn 61; refine (HF.out w3 HB3.out).mono ?_; rintro e w4 ⟨rfl, v', hx4, hm4⟩; have HX4 := hid hx4; have HM4 := hid hm4; clear hx4 hm4))
          go_loopg [34] 0 (fun gg v34 wr => v34 = .int .i64 0 ∧ gg = 0 ∧ wr = w4)
          case atStart => exact ⟨rfl, rfl, rfl⟩
          case round =>
            obtain ⟨rfl, -, rfl⟩ := hrel
            go_wp2_with fail
            refine bodyPost_ret (results_none rfl _ _ _) rfl ?_
            rw [HY.out]
            exact ⟨rfl, v', HX2.out.trans ((Xm.of_bel HB3.out).trans HX4.out), HM4.out⟩
      | true =>
        have HY := hid (exp_some (ts := ts) (k := k) HM.out (show dQ ts ⟨nl, lc, dm, lt⟩ = some l from hdq))
        have hdr : ∀ q ∈ l, Ma.Good q := hdr
        have HIH := hid ih
        have HDI := (show Hid (∀ W2, Bel w0 W2 → Calls Tryz.prog 24 #[.pointer a, .agg #[.bool nl, .string ⟨lc.toArray⟩, .string ⟨dm.toArray⟩, .bool lt]] W2 fun e w' => ∃ x c, e = .returned (.tuple #[.slice x l.length c, .bool true]) ∧ Bel W2 w' ∧ Pts w' x l ∧ ∀ ad, x = some ad → W2.heap.size ≤ ad.block) from HDI.out)
        clear hdq hrD ih
        go_enter Tryz.func63, Tryz.ntmps63
        go_wp2_with (first | (go_at_call 24; refine (HDI.out _ HP.out.2.bel).mono ?_; rintro e w3 ⟨x, c, rfl, hb3, hp3, hf3⟩; have HB3 := hid hb3; have HP3 := hid hp3; have HF3 := hid hf3; clear hb3 hp3 hf3))
        have hlI : LpI w0 ts a ba bo bm r bf be W v ⟨nl, lc, dm, lt⟩ x l (expX (dQ ts) k) (expX (dQ ts) (k + 1) s ⟨nl, lc, dm, lt⟩) 0 w3 ⟨s.met ++ [⟨nl, lc, dm, lt⟩], s.out⟩ v := by
          refine ⟨HP.out.2.next HB3.out, HX2.out.trans (Xm.of_bel HB3.out), HB3.out.heap H6.out, ?_, HH.out.own_lt (Nat.le_refl _), HY.out.symm⟩
          rcases HP3.out.at_ with f | ⟨b, o, e, hs, f⟩
          · exact .inl f
          · have hge := Nat.le_trans HX2.out.size (HF3.out _ e)
            exact .inr ⟨b, o, e, hge, hs, HH.out.own_lt hge, f⟩
        have HLI := hid hlI
        generalize htot : expX (dQ ts) (k + 1) s ⟨nl, lc, dm, lt⟩ = tot at HLI ⊢
        have hln : l.length ≤ 9223372036854775807 := by have := hlen (by simp); omega
        clear hlI htot
        go_loopg [34] l.length (fun gg v34 wr => ∃ (i : Nat) (si : Xs Pt) (vi : Value), v34 = .int .i64 i ∧ i + gg = l.length ∧ Hid (LpI w0 ts a ba bo bm r bf be W v ⟨nl, lc, dm, lt⟩ x l (expX (dQ ts) k) tot i wr si vi))
        case atStart => exact ⟨0, _, v, rfl, by omega, HLI⟩
        case round =>
          clear HLI
          obtain ⟨i, si, vi, rfl, hi, HL⟩ := hrel
          have Hi := hid hi
          have hin : i ≤ l.length := by omega
          clear hi
          by_cases hlt : i < l.length
          · obtain ⟨b, o, rfl, hge, hbw, hvb, hel⟩ : ∃ b o, x = some ⟨b, o, none⟩ ∧ W.heap.size ≤ b ∧ b < wr.heap.size ∧ vi.ownBlock ≠ some b ∧ ∀ k (hk : k < l.length), wr.rangeAt b (o + k * 4) (ptC l[k]) := by
              rcases HL.out.lst with f | f
              · rw [f] at hlt; cases hlt
              · exact f
            have hgq := good_small (hdr l[i] (List.getElem_mem hlt))
            have hr := hel i hlt
            have HLt := hid hlt
            have HER := fun (e : Int) => goX_err (f := expX (dQ ts) k) (p := ⟨nl, lc, dm, lt⟩) (s := si) (e := e) hlt
            have HOK := fun (s' : Xs Pt) => goX_ok (f := expX (dQ ts) k) (p := ⟨nl, lc, dm, lt⟩) (s := si) (s' := s') hlt
            generalize l[i] = q at hgq hr HER HOK
            obtain ⟨nq, lq, mq, tq⟩ := q
            have g0 : wr.cell? ⟨b, o + i * 4, none⟩ = some (.bool nq) := hr 0 _ rfl
            have g1 : wr.cell? ⟨b, o + i * 4 + 1, none⟩ = some (.string ⟨lq.toArray⟩) := hr 1 _ rfl
            have g2 : wr.cell? ⟨b, o + i * 4 + 2, none⟩ = some (.string ⟨mq.toArray⟩) := hr 2 _ rfl
            have g3 : wr.cell? ⟨b, o + i * 4 + 3, none⟩ = some (.bool tq) := hr 3 _ rfl
            have HB5 := hid ((Bel.refl wr).alloc (.cells #[.bool nq, .string ⟨lq.toArray⟩, .string ⟨mq.toArray⟩, .bool tq] 39))
            have H65 := HB5.out.heap HL.out.b6
            have e0 : (wr.alloc (.cells #[.bool nq, .string ⟨lq.toArray⟩, .string ⟨mq.toArray⟩, .bool tq] 39)).cell? ⟨W.heap.size, 0, none⟩ = some (.bool nl) := by rw [Lib.cell_of_heap H65]; rfl
            have e1 : (wr.alloc (.cells #[.bool nq, .string ⟨lq.toArray⟩, .string ⟨mq.toArray⟩, .bool tq] 39)).cell? ⟨W.heap.size, 1, none⟩ = some (.string ⟨lc.toArray⟩) := by rw [Lib.cell_of_heap H65]; rfl
            have e2 : (wr.alloc (.cells #[.bool nq, .string ⟨lq.toArray⟩, .string ⟨mq.toArray⟩, .bool tq] 39)).cell? ⟨W.heap.size, 2, none⟩ = some (.string ⟨dm.toArray⟩) := by rw [Lib.cell_of_heap H65]; rfl
            have e3 : (wr.alloc (.cells #[.bool nq, .string ⟨lq.toArray⟩, .string ⟨mq.toArray⟩, .bool tq] 39)).cell? ⟨W.heap.size, 3, none⟩ = some (.bool lt) := by rw [Lib.cell_of_heap H65]; rfl
            have e4 : (wr.alloc (.cells #[.bool nq, .string ⟨lq.toArray⟩, .string ⟨mq.toArray⟩, .bool tq] 39)).cell? ⟨bf, 0, none⟩ = some (.func (.func 61) #[] #[.pointer (some ⟨bo, 0, none⟩)]) := by rw [Lib.cell_of_heap (HB5.out.heap HL.out.m.fv)]; rfl
            have e5 : (wr.alloc (.cells #[.bool nq, .string ⟨lq.toArray⟩, .string ⟨mq.toArray⟩, .bool tq] 39)).cell? ⟨be, 0, none⟩ = some (.func (.func 63) #[] #[.pointer (some ⟨bm, 0, none⟩), .pointer (some ⟨ba, 0, none⟩), .pointer (some ⟨bf, 0, none⟩), .pointer (some ⟨be, 0, none⟩)]) := by rw [Lib.cell_of_heap (HB5.out.heap HL.out.m.ev)]; rfl
            have HE : ∀ w, (Op.equalIn 10000 39 (.agg #[.bool nq, .string ⟨lq.toArray⟩, .string ⟨mq.toArray⟩, .bool tq]) (.agg #[.bool nl, .string ⟨lc.toArray⟩, .string ⟨dm.toArray⟩, .bool lt])).run Tryz.prog w = .ok (decide ((⟨nq, lq, mq, tq⟩ : Pt) = ⟨nl, lc, dm, lt⟩)) w := fun w => eq_ptc ⟨nq, lq, mq, tq⟩ ⟨nl, lc, dm, lt⟩ w
            have b1 : decide ((i : Int) < 0) = false := decide_eq_false (by omega)
            have b2 : decide ((l.length : Int) ≤ (i : Int)) = false := decide_eq_false (by omega)
            have HGQ := hid hgq
            have HHR := hid (And.intro HER HOK)
            clear hel hr H65 hgq HER HOK
            by_cases hqp : (⟨nq, lq, mq, tq⟩ : Pt) = ⟨nl, lc, dm, lt⟩
            · rw [decide_eq_true hqp] at HE
              have HF := hid (find_run w0 ts a ba bo bm r bf be (wr.alloc (.cells #[.bool nq, .string ⟨lq.toArray⟩, .string ⟨mq.toArray⟩, .bool tq] 39)) si vi (⟨nl, lc, dm, lt⟩ : Pt) (HL.out.m.next HB5.out))
              have HSt : Hid (∀ R, findX si (⟨nl, lc, dm, lt⟩ : Pt) = R → (if (⟨nq, lq, mq, tq⟩ : Pt) = ⟨nl, lc, dm, lt⟩ then findX si ⟨nl, lc, dm, lt⟩ else expX (dQ ts) k si ⟨nq, lq, mq, tq⟩) = R) := hid fun R h => by rw [if_pos hqp]; exact h
              clear hqp
              generalize hRR : findX si (⟨nl, lc, dm, lt⟩ : Pt) = R at HF
              have HRR := hid hRR
              clear hRR
              cases R with
              | error e =>
                have HF := (show Hid (Calls Tryz.prog 61 #[.agg #[.bool nl, .string ⟨lc.toArray⟩, .string ⟨dm.toArray⟩, .bool lt], .pointer (some ⟨bo, 0, none⟩)] (wr.alloc (.cells #[.bool nq, .string ⟨lq.toArray⟩, .string ⟨mq.toArray⟩, .bool tq] 39)) fun e' W' => e' = .panicked (stopV e) ∧ ∃ s' v', Xm bo r (wr.alloc (.cells #[.bool nq, .string ⟨lq.toArray⟩, .string ⟨mq.toArray⟩, .bool tq] 39)) W' vi v' ∧ ExM w0 ts a ba bo bm r bf be W' s' v') from HF.out)
                have HTo := hid (HL.out.eq.symm.trans (HHR.out.1 e (HSt.out _ HRR.out)))
                go_wp2_with (first | (go_at_fn 61; refine HF.out.mono ?_; rintro e' w6 ⟨rfl, s', v', hx6, hm6⟩))
                refine ⟨rfl, ?_⟩
                rw [HTo.out]
                exact ⟨rfl, s', v', HL.out.go.trans ((Xm.of_bel HB5.out).trans hx6), hm6⟩
              | ok s1 =>
                have HF := (show Hid (Calls Tryz.prog 61 #[.agg #[.bool nl, .string ⟨lc.toArray⟩, .string ⟨dm.toArray⟩, .bool lt], .pointer (some ⟨bo, 0, none⟩)] (wr.alloc (.cells #[.bool nq, .string ⟨lq.toArray⟩, .string ⟨mq.toArray⟩, .bool tq] 39)) fun e' W' => e' = .returned (.tuple #[]) ∧ ∃ v', Xm bo r (wr.alloc (.cells #[.bool nq, .string ⟨lq.toArray⟩, .string ⟨mq.toArray⟩, .bool tq] 39)) W' vi v' ∧ ExM w0 ts a ba bo bm r bf be W' s1 v') from HF.out)
                have HTo := hid ((HHR.out.2 s1 (HSt.out _ HRR.out)).symm.trans HL.out.eq)
                go_wp2_with (first | (go_at_fn 61; refine HF.out.mono ?_; rintro e' w6 ⟨rfl, v', hx6, hm6⟩; have HX6 := hid hx6; have HM6 := hid hm6; clear hx6 hm6))
                go_roundg (gk - 1)
                case measure => have := Hi.out; omega
                case rel => exact ⟨i + 1, s1, v', by go_num, by have := Hi.out; omega, hid (HL.out.next HOR.out.1 HOR.out.2 HB5.out HX6.out HM6.out HTo.out)⟩
            · rw [decide_eq_false hqp] at HE
              have HF := hid (HIH.out (dp + 1) (by omega) (wr.alloc (.cells #[.bool nq, .string ⟨lq.toArray⟩, .string ⟨mq.toArray⟩, .bool tq] 39)) si vi (⟨nq, lq, mq, tq⟩ : Pt) (HL.out.m.next HB5.out) HGQ.out.1 HGQ.out.2)
              have HSt : Hid (∀ R, expX (dQ ts) k si (⟨nq, lq, mq, tq⟩ : Pt) = R → (if (⟨nq, lq, mq, tq⟩ : Pt) = ⟨nl, lc, dm, lt⟩ then findX si ⟨nl, lc, dm, lt⟩ else expX (dQ ts) k si ⟨nq, lq, mq, tq⟩) = R) := hid fun R h => by rw [if_neg hqp]; exact h
              clear hqp
              generalize hRR : expX (dQ ts) k si (⟨nq, lq, mq, tq⟩ : Pt) = R at HF
              have HRR := hid hRR
              clear hRR
              cases R with
              | error e =>
                have HF := (show Hid (Calls Tryz.prog 63 #[.agg #[.bool nq, .string ⟨lq.toArray⟩, .string ⟨mq.toArray⟩, .bool tq], .int .i64 ((dp : Int) + 1), .pointer (some ⟨bm, 0, none⟩), .pointer (some ⟨ba, 0, none⟩), .pointer (some ⟨bf, 0, none⟩), .pointer (some ⟨be, 0, none⟩)] (wr.alloc (.cells #[.bool nq, .string ⟨lq.toArray⟩, .string ⟨mq.toArray⟩, .bool tq] 39)) fun e' W' => e' = .panicked (stopV e) ∧ ∃ s' v', Xm bo r (wr.alloc (.cells #[.bool nq, .string ⟨lq.toArray⟩, .string ⟨mq.toArray⟩, .bool tq] 39)) W' vi v' ∧ ExM w0 ts a ba bo bm r bf be W' s' v') from HF.out)
                have HTo := hid (HL.out.eq.symm.trans (HHR.out.1 e (HSt.out _ HRR.out)))
                go_wp2_with (first | (go_at_fn 63; refine HF.out.mono ?_; rintro e' w6 ⟨rfl, s', v', hx6, hm6⟩))
                refine ⟨rfl, ?_⟩
                rw [HTo.out]
                exact ⟨rfl, s', v', HL.out.go.trans ((Xm.of_bel HB5.out).trans hx6), hm6⟩
              | ok s1 =>
                have HF := (show Hid (Calls Tryz.prog 63 #[.agg #[.bool nq, .string ⟨lq.toArray⟩, .string ⟨mq.toArray⟩, .bool tq], .int .i64 ((dp : Int) + 1), .pointer (some ⟨bm, 0, none⟩), .pointer (some ⟨ba, 0, none⟩), .pointer (some ⟨bf, 0, none⟩), .pointer (some ⟨be, 0, none⟩)] (wr.alloc (.cells #[.bool nq, .string ⟨lq.toArray⟩, .string ⟨mq.toArray⟩, .bool tq] 39)) fun e' W' => e' = .returned (.tuple #[]) ∧ ∃ v', Xm bo r (wr.alloc (.cells #[.bool nq, .string ⟨lq.toArray⟩, .string ⟨mq.toArray⟩, .bool tq] 39)) W' vi v' ∧ ExM w0 ts a ba bo bm r bf be W' s1 v') from HF.out)
                have HTo := hid ((HHR.out.2 s1 (HSt.out _ HRR.out)).symm.trans HL.out.eq)
                go_wp2_with (first | (go_at_fn 63; refine HF.out.mono ?_; rintro e' w6 ⟨rfl, v', hx6, hm6⟩; have HX6 := hid hx6; have HM6 := hid hm6; clear hx6 hm6))
                go_roundg (gk - 1)
                case measure => have := Hi.out; omega
                case rel => exact ⟨i + 1, s1, v', by go_num, by have := Hi.out; omega, hid (HL.out.next HOR.out.1 HOR.out.2 HB5.out HX6.out HM6.out HTo.out)⟩
          · obtain rfl : i = l.length := by omega
            have hend : tot = .ok si := by rw [← HL.out.eq, List.drop_length]; rfl
            have HEn := hid hend
            clear hend
            go_wp2_with fail
            refine bodyPost_ret (results_none rfl _ _ _) rfl ?_
            rw [HEn.out]
            exact ⟨rfl, vi, HL.out.go, HL.out.m⟩
end Go.Proofs.YtpmmaickjolimaaGreatDoor.Tb
