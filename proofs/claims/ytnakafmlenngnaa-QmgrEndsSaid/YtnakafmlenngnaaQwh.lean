/- When, Dead, Size, Flight. -/
import Derived.Test.YtnakafmlenngnaaQk
namespace Go.Proofs.Ytnakafmlenngnaa.Qm
open Go.RowKit Go.Proofs.Ytnakafmlenngnaa.Wi

theorem when_run (mb : Nat) (L : Lq) (F : Nat → Prop) (id : ByteArray) (w : World) (h : Mg w mb L F) :
    Calls Try.prog 31 #[.pointer (some ⟨mb, 0, none⟩), .string id] w (QuietPost (.int .i64 (whenQ L.q id)) w) := by
  have HF := hid (find_run mb L F id w h)
  unfold whenQ
  by_cases hi : mIdx L.q.ms id < L.ms.length
  · have e1 : foundV L (mIdx L.q.ms id) = .pointer (some ⟨L.ms[mIdx L.q.ms id].b, 0, none⟩) := by unfold foundV; rw [List.getElem?_eq_getElem hi]; rfl
    have e2 : L.q.ms[mIdx L.q.ms id]? = some L.ms[mIdx L.q.ms id].m := by
      show (L.ms.map (·.m))[mIdx L.q.ms id]? = _
      rw [List.getElem?_map, List.getElem?_eq_getElem hi]; rfl
    rw [e1] at HF
    rw [e2]
    dsimp only
    have HM := (show Hid (∀ W, Ext (fun _ => False) w W → MailAt W L.ms[mIdx L.q.ms id]) from fun W hW => (h.quiet hW).mails _ (List.getElem_mem hi))
    generalize L.ms[mIdx L.q.ms id] = z at HF HM ⊢
    clear h e1 e2 hi
    cases hw : z.m.waits with
    | true =>
      simp only [if_true]
      go_enter Try.func31, Try.ntmps31
      go_wp2_with fail
      refine HF.out.mono ?_
      rintro e w1 ⟨rfl, hx1⟩
      obtain ⟨-, -, -, c3, c4⟩ := (HM.out _ hx1).cells
      rw [hw] at c3
      have HX := hid hx1
      clear hx1 HM HF
      go_wp2_with fail
      go_ret
      exact ⟨rfl, HX.out⟩
    | false =>
      simp only [Bool.false_eq_true, if_false]
      go_enter Try.func31, Try.ntmps31
      go_wp2_with fail
      refine HF.out.mono ?_
      rintro e w1 ⟨rfl, hx1⟩
      obtain ⟨-, -, -, c3, c4⟩ := (HM.out _ hx1).cells
      rw [hw] at c3
      have HX := hid hx1
      clear hx1 HM HF
      go_wp2_with fail
      go_ret
      exact ⟨rfl, HX.out⟩
  · have e1 : foundV L (mIdx L.q.ms id) = .pointer none := by unfold foundV; rw [List.getElem?_eq_none (by omega)]; rfl
    have e2 : L.q.ms[mIdx L.q.ms id]? = none := by
      show (L.ms.map (·.m))[mIdx L.q.ms id]? = _
      rw [List.getElem?_map, List.getElem?_eq_none (by omega)]; rfl
    rw [e1] at HF
    rw [e2]
    dsimp only
    clear h e1 e2 hi
    go_enter Try.func31, Try.ntmps31
    go_wp2_with fail
    refine HF.out.mono ?_
    rintro e w1 ⟨rfl, hx1⟩
    have HX := hid hx1
    clear hx1 HF
    go_wp2_with fail
    go_ret
    exact ⟨rfl, HX.out⟩

/-- What stands of a destination. -/
def ofD {α : Type} (q : Qs) (n : ByteArray) (z : α) (f : Ds → α) : α :=
  match q.ds[dIdx q.ds n]? with
  | none => z
  | some d => f d

theorem dead_q_run (mb : Nat) (L : Lq) (F : Nat → Prop) (n : ByteArray) (w : World) (h : Mg w mb L F) :
    Calls Try.prog 32 #[.pointer (some ⟨mb, 0, none⟩), .string n] w (QuietPost (.bool (ofD L.q n false fun d => decide (d.s = 0))) w) := by
  obtain ⟨-, -, -, -, -, -, -, -, t8, -, -⟩ := h.tops
  have hlk := run_lookup_s (P := Try.prog) w L.mp _ n (.pointer none) Try.underlying83 Try.underlying9 (fun w => by kernel_rfl) h.map
  rw [look_dIdx, ← q_dIdx] at hlk
  unfold ofD
  by_cases hi : dIdx L.q.ds n < L.ds.length
  · have e2 : L.q.ds[dIdx L.q.ds n]? = some L.ds[dIdx L.q.ds n].d := by
      show (L.ds.map (·.d))[dIdx L.q.ds n]? = _
      rw [List.getElem?_map, List.getElem?_eq_getElem hi]; rfl
    rw [List.getElem?_eq_getElem hi] at hlk
    simp only [Option.map_some, Option.getD_some, dPtr] at hlk
    rw [e2]
    dsimp only
    have hz := h.dests _ (List.getElem_mem hi)
    obtain ⟨-, z1, -⟩ := hz.cells
    have hlim := h.lim.2.2.2.2.1
    have HD := hid (dead_run _ _ _ _ _ _ w (by have := hz.st.1; omega) hz.win)
    generalize L.ds[dIdx L.q.ds n] = z at hlk z1 HD ⊢
    clear h hz hi e2
    go_enter Try.func32, Try.ntmps32
    go_wp2_with fail
    refine HD.out.mono ?_
    rintro e w1 ⟨rfl, rfl⟩
    go_wp2_with fail
    go_ret
    exact ⟨rfl, Ext.refl _ _⟩
  · have e2 : L.q.ds[dIdx L.q.ds n]? = none := by
      show (L.ds.map (·.d))[dIdx L.q.ds n]? = _
      rw [List.getElem?_map, List.getElem?_eq_none (by omega)]; rfl
    rw [List.getElem?_eq_none (by omega)] at hlk
    simp only [Option.map_none, Option.getD_none] at hlk
    rw [e2]
    dsimp only
    clear h hi e2
    go_enter Try.func32, Try.ntmps32
    go_wp2_with fail
    go_ret
    exact ⟨rfl, Ext.refl _ _⟩
end Go.Proofs.Ytnakafmlenngnaa.Qm
