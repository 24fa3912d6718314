/- The end of a round: ends and its closure. -/
import Derived.Test.YtnakafmlenngnaaQn
import Derived.IntWalk
namespace Go.Proofs.Ytnakafmlenngnaa.Qm
open Go.RowKit Go.Proofs.Ytnakafmlenngnaa.Wi

theorem ints1 (w : World) (a : Nat) : IntsAt (w.alloc (.cells #[.int .i64 (a : Nat)] 3)) (some ⟨w.heap.size, 0, none⟩) 1 (fun k => (([a] : List Nat).getD k 0 : Nat)) := by
  have e := (MapKept.heap_alloc w (.cells #[.int .i64 (a : Nat)] 3)).1
  refine ⟨by omega, fun k hk => ⟨w.heap.size, 0, rfl, by simp, ?_⟩⟩
  obtain rfl : k = 0 := by omega
  unfold World.cell?
  rw [e]
  rfl
theorem ints2 (w : World) (a b : Nat) : IntsAt (w.alloc (.cells #[.int .i64 (a : Nat), .int .i64 (b : Nat)] 3)) (some ⟨w.heap.size, 0, none⟩) 2 (fun k => (([a, b] : List Nat).getD k 0 : Nat)) := by
  have e := (MapKept.heap_alloc w (.cells #[.int .i64 (a : Nat), .int .i64 (b : Nat)] 3)).1
  refine ⟨by omega, fun k hk => ⟨w.heap.size, 0, rfl, by simp, ?_⟩⟩
  rcases (by omega : k = 0 ∨ k = 1) with rfl | rfl <;>
  · unfold World.cell?
    rw [e]
    rfl

def turned (L : Lq) (i : Nat) (m : Ml) : Lq := { L with ms := L.ms.modify i fun z => { z with m := m } }

theorem turned_self (L : Lq) (i : Nat) (hi : i < L.ms.length) : turned L i L.ms[i].m = L := by
  unfold turned
  have : L.ms.modify i (fun z => { z with m := L.ms[i].m }) = L.ms := by
    refine List.ext_getElem (by simp) fun j h1 h2 => ?_
    rw [List.getElem_modify]
    split
    · rename_i e; subst e; rfl
    · rfl
  rw [this]

theorem modify_set {α : Type} (l : List α) (i : Nat) (f : α → α) (hi : i < l.length) : l.modify i f = l.set i (f l[i]) := by
  refine List.ext_getElem (by simp) fun j h1 h2 => ?_
  rw [List.getElem_modify, List.getElem_set]
  split
  · rename_i e; subst e; rfl
  · rfl
theorem turned_set (L : Lq) (i : Nat) (hi : i < L.ms.length) (m : Ml) : turned L i m = { L with ms := L.ms.set i { L.ms[i] with m := m } } := by
  unfold turned
  rw [modify_set _ _ _ hi]

theorem Core.waits {w : World} {mb : Nat} {L : Lq} {F : Nat → Prop} (h : Core w mb L F) (i : Nat) (hi : i < L.ms.length) (b : Bool) (due : Int) (hd : 0 ≤ due ∧ due ≤ 1000000000) :
    Core ((w.setCell ⟨L.ms[i].b, 3, none⟩ (.bool b)).setCell ⟨L.ms[i].b, 4, none⟩ (.int .i64 due)) mb (turned L i { L.ms[i].m with waits := b, due := due }) F := by
  have hz := h.mails _ (List.getElem_mem hi)
  rw [turned_set L i hi]
  have hx : ∀ k, k ≠ L.ms[i].b → ((w.setCell ⟨L.ms[i].b, 3, none⟩ (.bool b)).setCell ⟨L.ms[i].b, 4, none⟩ (.int .i64 due)).heap[k]? = w.heap[k]? := fun k hk =>
    (Below.heap_setCell _ _ _ _ hk).trans (Below.heap_setCell _ _ _ _ hk)
  refine h.mail i hi { L.ms[i] with m := { L.ms[i].m with waits := b, due := due } } rfl rfl (by simp [World.setCell]) (fun k _ hk _ => hx k hk) ⟨?_, row_keep hz.row fun g hg => ?_, hz.came, hd⟩
  · simp [World.setCell, Array.getElem?_modify, hz.cell]
  · obtain ⟨cur, hr⟩ := row_type hz.row g hg
    exact hx g (neT hr hz.cell (by decide))

def EndPost (mb : Nat) (L : Lq) (F : Nat → Prop) (i : Nat) (now : Int) (m : Ml) (b : Nat) (w : World) (e : Ending) (w' : World) : Prop :=
  e = .returned (.bool (gone m)) ∧ Core w' mb (turned L i (wait L.lm now m)) F ∧ Ext (· = b) w w'

set_option maxHeartbeats 4000000 in
set_option maxRecDepth 100000 in
theorem ends1_run (mb : Nat) (L : Lq) (F : Nat → Prop) (i : Nat) (hi : i < L.ms.length) (now : Int) (hnow : 0 ≤ now ∧ now ≤ 1000000000) (ba bb : Nat) (w : World) (h : Core w mb L F)
    (h1 : w.heap[ba]? = some (.cells #[.pointer (some ⟨mb, 0, none⟩)] 39 (0, 0))) (h2 : w.heap[bb]? = some (.cells #[.int .i64 now] 3 (0, 0))) :
    Calls Try.prog 74 #[.pointer (some ⟨L.ms[i].b, 0, none⟩), .pointer (some ⟨ba, 0, none⟩), .pointer (some ⟨bb, 0, none⟩)] w (EndPost mb L F i now L.ms[i].m L.ms[i].b w) := by
  have hz := h.mails _ (List.getElem_mem hi)
  have hself := turned_self L i hi
  obtain ⟨c0, c1, c2, c3, c4⟩ := hz.cells
  have hb := hz.blt
  have hcame := hz.came
  unfold EndPost gone wait
  by_cases hw : L.ms[i].m.waits = true
  · rw [hw] at c3 ⊢
    have HP := (show Hid (Core w mb (turned L i L.ms[i].m) F) from by rw [hself]; exact h)
    clear h hz c0 c1 c2 c4 hself hw
    generalize L.ms[i].b = zb at c3 hb ⊢
    go_enter Try.func74, Try.ntmps74
    go_wp2_with fail
    go_ret
    exact ⟨rfl, HP.out, Ext.refl _ _⟩
  · have hw : L.ms[i].m.waits = false := by simpa using hw
    have HA := (show Hid (∀ W, Ext (fun _ => False) w W → Calls Try.prog 63 #[.pointer (some ⟨L.ms[i].b, 0, none⟩), .slice (some ⟨W.heap.size, 0, none⟩) 2 2] (W.alloc (.cells #[.int .i64 1, .int .i64 2] 3)) (QuietPost (.bool (hasIn [1, 2] L.ms[i].m.rs)) (W.alloc (.cells #[.int .i64 1, .int .i64 2] 3)))) from fun W hW =>
      has_run L.ms[i] _ 2 2 [1, 2] _ (hz.quiet (hW.alloc _)) (ints2 W 1 2) rfl)
    have HB := (show Hid (∀ W, Ext (fun _ => False) w W → Calls Try.prog 63 #[.pointer (some ⟨L.ms[i].b, 0, none⟩), .slice (some ⟨W.heap.size, 0, none⟩) 1 1] (W.alloc (.cells #[.int .i64 3] 3)) (QuietPost (.bool (hasIn [3] L.ms[i].m.rs)) (W.alloc (.cells #[.int .i64 3] 3)))) from fun W hW =>
      has_run L.ms[i] _ 1 1 [3] _ (hz.quiet (hW.alloc _)) (ints1 W 3) rfl)
    rw [hw] at c3 ⊢
    cases h12 : hasIn [1, 2] L.ms[i].m.rs with
    | true =>
      rw [h12] at HA
      have HP := (show Hid (∀ W, Ext (fun _ => False) w W → Core W mb (turned L i L.ms[i].m) F) from fun W hW => by rw [hself]; exact h.quiet hW)
      clear h hz c0 c1 c2 c4 hself hw h12 HB
      generalize L.ms[i].b = zb at c3 hb HA ⊢
      go_enter Try.func74, Try.ntmps74
      go_wp2_with fail
      refine (HA.out w (Ext.refl _ _)).mono ?_
      rintro e w1 ⟨rfl, hx1⟩
      have HX := hid (((Ext.refl (fun _ => False) w).alloc _).trans hx1)
      clear hx1 HA
      go_wp2_with fail
      go_ret
      exact ⟨rfl, HP.out _ HX.out, HX.out.mono fun _ f => f.elim⟩
    | false =>
      rw [h12] at HA
      cases h3 : hasIn [3] L.ms[i].m.rs with
      | false =>
        rw [h3] at HB
        have HP := (show Hid (∀ W, Ext (fun _ => False) w W → Core W mb (turned L i L.ms[i].m) F) from fun W hW => by rw [hself]; exact h.quiet hW)
        clear h hz c0 c1 c2 c4 hself hw h12 h3
        generalize L.ms[i].b = zb at c3 hb HA HB ⊢
        go_enter Try.func74, Try.ntmps74
        go_wp2_with fail
        refine (HA.out w (Ext.refl _ _)).mono ?_
        rintro e w1 ⟨rfl, hx1⟩
        have HX := hid (((Ext.refl (fun _ => False) w).alloc _).trans hx1)
        clear hx1 HA
        go_wp2_with fail
        refine (HB.out w1 HX.out).mono ?_
        rintro e w2 ⟨rfl, hx2⟩
        have HX2 := hid ((HX.out.alloc _).trans hx2)
        clear hx2 HB HX
        go_wp2_with fail
        go_ret
        exact ⟨rfl, HP.out _ HX2.out, HX2.out.mono fun _ f => f.elim⟩
      | true =>
        rw [h3] at HB
        have hlm := h.lim
        have HC := (show Hid (∀ W, Ext (fun _ => False) w W → Core W mb L F) from fun W hW => h.quiet hW)
        have hl1 := heap_lt h1
        have hl2 := heap_lt h2
        have hml := h.mblt
        have q1 : w.cell? ⟨ba, 0, none⟩ = some (.pointer (some ⟨mb, 0, none⟩)) := by simp [World.cell?, h1]
        have q2 : w.cell? ⟨bb, 0, none⟩ = some (.int .i64 now) := by simp [World.cell?, h2]
        have HH := (show Hid (∀ W, Ext (fun _ => False) w W → W.cell? ⟨ba, 0, none⟩ = some (.pointer (some ⟨mb, 0, none⟩)) ∧ W.cell? ⟨bb, 0, none⟩ = some (.int .i64 now)) from fun W hW =>
          ⟨(hW.cell hl1 (fun f => f) 0).trans q1, (hW.cell hl2 (fun f => f) 0).trans q2⟩)
        clear hself hw h12 h3 h h1 h2 q1 q2 hz c0 c1 c2 c4
        go_enter Try.func74, Try.ntmps74
        go_wp2_with fail
        refine (HA.out w (Ext.refl _ _)).mono ?_
        rintro e w1 ⟨rfl, hx1⟩
        have HX := hid (((Ext.refl (fun _ => False) w).alloc _).trans hx1)
        clear hx1 HA
        go_wp2_with fail
        refine (HB.out w1 HX.out).mono ?_
        rintro e w2 ⟨rfl, hx2⟩
        have HX2 := hid ((HX.out.alloc _).trans hx2)
        clear hx2 HB HX
        have hC := HC.out _ HX2.out
        obtain ⟨-, -, -, t3, t4, -⟩ := hC.tops
        obtain ⟨q1, q2⟩ := HH.out _ HX2.out
        obtain ⟨-, d1, -, d3, d4⟩ := (hC.mails _ (List.getElem_mem hi)).cells
        have d3f := (hC.mails _ (List.getElem_mem hi)).free 3
        have d4f := (hC.mails _ (List.getElem_mem hi)).free 4
        have hml2 := hC.mblt
        clear HH HC c3
        obtain ⟨l1, l2, l3, l4, l5, l6, l7, l8, l9, l10⟩ := hlm
        have hbk : 0 ≤ back L.lm now L.ms[i].m.came ∧ back L.lm now L.ms[i].m.came ≤ 1000000 := by unfold back; omega
        have HCC := hid hC
        clear hC
        have hw1 : IntKind.i64.wrap (now - L.ms[i].m.came) = now - L.ms[i].m.came := IntWalk.i64_in _ (by omega)
        have hw2 : IntKind.i64.wrap (now + L.lm.minb) = now + L.lm.minb := IntWalk.i64_in _ (by omega)
        have hw3 : IntKind.i64.wrap (now + L.lm.maxb) = now + L.lm.maxb := IntWalk.i64_in _ (by omega)
        have hw4 : IntKind.i64.wrap (now + (now - L.ms[i].m.came)) = now + (now - L.ms[i].m.came) := IntWalk.i64_in _ (by omega)
        have HE : Hid (∀ nq due W, due = min 1000000000 (now + back L.lm now L.ms[i].m.came) → W = ((w2.drewN nq).setCell ⟨L.ms[i].b, 3, none⟩ (.bool true)).setCell ⟨L.ms[i].b, 4, none⟩ (.int .i64 due) → Core W mb (turned L i { L.ms[i].m with waits := true, due := min 1000000000 (now + back L.lm now L.ms[i].m.came) }) F ∧ Ext (· = L.ms[i].b) w W) := by
          show ∀ _ _ _, _
          rintro nq due W rfl rfl
          exact ⟨(HCC.out.quiet ((Ext.refl _ _).drewN nq)).waits i hi true _ (by omega), ((((HX2.out.mono (G := (· = L.ms[i].b)) fun _ f => f.elim).drewN nq).setCell L.ms[i].b 3 _ rfl).setCell L.ms[i].b 4 _ rfl)⟩
        go_wp2_with fail
        go_quiet (fail)
        go_wp2_with fail
        all_goals go_region
        all_goals go_wp2_with fail
        all_goals go_ret
        all_goals exact ⟨rfl, HE.out _ _ _ (by unfold back; omega) rfl⟩
end Go.Proofs.Ytnakafmlenngnaa.Qm
