/- find, and those that read a message by its id. -/
import Derived.Test.YtnakafmlenngnaaQr
namespace Go.Proofs.Ytnakafmlenngnaa.Qm
open Go.RowKit Go.Proofs.Ytnakafmlenngnaa.Wi

theorem ix_find {α : Type} (l : List α) (q : α → Bool) (p : Nat → Bool) (hp : ∀ k (hk : k < l.length), p k = q l[k]) {I : Nat → World → Prop} {e : Ending} {w' : World} (h : IxPost p l.length I e w') :
    ∃ r : Int, e = .returned (.int .i64 r) ∧ ((l.findIdx q < l.length ∧ r = (l.findIdx q : Nat)) ∨ (r = -1 ∧ ¬ l.findIdx q < l.length)) ∧ ∃ m, I m w' := by
  obtain ⟨r, rfl, ⟨k, h1, rfl, h2, h3, h4⟩ | ⟨rfl, h2, h4⟩⟩ := h
  · refine ⟨k, rfl, .inl ?_, _, h4⟩
    have : l.findIdx q = k := by
      rw [List.findIdx_eq h1]
      exact ⟨by rw [← hp k h1]; exact h2, fun j hj => by rw [← hp j (by omega)]; exact h3 j hj⟩
    rw [this]
    exact ⟨h1, rfl⟩
  · refine ⟨-1, rfl, .inr ⟨rfl, fun f => ?_⟩, _, h4⟩
    have := List.findIdx_getElem (xs := l) (p := q) (w := f)
    rw [← hp _ f, h2 _ f] at this
    cases this

theorem tl_inj {a b : ByteArray} (h : a.toList = b.toList) : a = b := by
  rw [ByteArray.toList_eq, ByteArray.toList_eq] at h
  cases a with | mk a => cases b with | mk b => exact congrArg _ (Array.toList_inj.1 h)
theorem tl_beq (a b : ByteArray) : (a.toList == b.toList) = decide (a = b) := by
  rw [Bool.eq_iff_iff]
  simp only [beq_iff_eq, decide_eq_true_eq]
  exact ⟨tl_inj, fun e => by rw [e]⟩

theorem find1_run (z : LM) (ib : Nat) (id : ByteArray) (w : World) (hz : MailAt w z) (hi : w.cell? ⟨ib, 0, none⟩ = some (.string id)) :
    Calls Try.prog 73 #[.pointer (some ⟨z.b, 0, none⟩), .pointer (some ⟨ib, 0, none⟩)] w fun e w' => e = .returned (.bool (decide (z.m.id = id))) ∧ Ext (fun _ => False) w w' := by
  obtain ⟨c0, -, -, -, -⟩ := hz.cells
  clear hz
  generalize z.m.id = a at c0 ⊢
  generalize z.b = b at c0 ⊢
  go_enter Try.func73, Try.ntmps73
  go_wp2_with fail
  go_quiet (fail)
  go_wp2_with fail
  go_ret
  refine ⟨?_, (Ext.refl _ _).drewN _⟩
  rw [← tl_beq]
  rfl

theorem Mg.mail_at {w : World} {mb : Nat} {L : Lq} {F : Nat → Prop} (h : Mg w mb L F) (k : Nat) (hk : k < L.ms.length) : ∃ g cap, L.mv = .slice (some ⟨g, 0, none⟩) L.ms.length cap ∧ L.ms.length ≤ cap ∧ cap ≤ 9223372036854775807 ∧ g < w.heap.size ∧ w.cell? ⟨g, k, none⟩ = some (mPtr L.ms[k]) ∧ F g := by
  obtain ⟨g, cap, e, h1, h2, h3, h4, h5⟩ := row_at h.mrow k (by simpa using hk)
  exact ⟨g, cap, e, h1, h2, h3, by rw [h4]; simp, h.fr.1 g (by rw [e]; rfl)⟩
theorem Core.tops {w : World} {mb : Nat} {L : Lq} {F : Nat → Prop} (h : Core w mb L F) : w.cell? ⟨mb, 0, none⟩ = some (.int .i64 L.lm.active) ∧ w.cell? ⟨mb, 1, none⟩ = some (.int .i64 (L.lm.ini : Nat)) ∧ w.cell? ⟨mb, 2, none⟩ = some (.int .i64 (L.lm.lim : Nat)) ∧ w.cell? ⟨mb, 3, none⟩ = some (.int .i64 L.lm.minb) ∧ w.cell? ⟨mb, 4, none⟩ = some (.int .i64 L.lm.maxb) ∧
    w.cell? ⟨mb, 5, none⟩ = some (.int .i64 L.lm.life) ∧ w.cell? ⟨mb, 6, none⟩ = some L.mv ∧ w.cell? ⟨mb, 7, none⟩ = some L.dv ∧ w.cell? ⟨mb, 8, none⟩ = some (.map (some L.mp)) ∧ w.cell? ⟨mb, 9, none⟩ = some (.int .i64 (L.turn : Nat)) ∧ w.cell? ⟨mb, 10, none⟩ = some L.jv := by
  have := h.top
  simp [World.cell?, this, topC]
theorem Core.free {w : World} {mb : Nat} {L : Lq} {F : Nat → Prop} (h : Core w mb L F) (o : Nat) : w.frozen? ⟨mb, o, none⟩ = false := by
  have := h.top
  simp [World.frozen?, this]
theorem Core.mblt {w : World} {mb : Nat} {L : Lq} {F : Nat → Prop} (h : Core w mb L F) : mb < w.heap.size := heap_lt h.top

theorem q_mIdx (L : Lq) (id : ByteArray) : mIdx L.q.ms id = L.ms.findIdx fun z => decide (z.m.id = id) := by
  unfold mIdx Lq.q
  rw [List.findIdx_map]
  rfl

/-- The message that is found. -/
def foundV (L : Lq) (i : Nat) : Value := .pointer ((L.ms[i]?).map fun z => ⟨z.b, 0, none⟩)

def QuietPost (v : Value) (w : World) (e : Ending) (w' : World) : Prop := e = .returned v ∧ Ext (fun _ => False) w w'

set_option maxHeartbeats 1000000 in
theorem find_run (mb : Nat) (L : Lq) (F : Nat → Prop) (id : ByteArray) (w : World) (h : Mg w mb L F) :
    Calls Try.prog 48 #[.pointer (some ⟨mb, 0, none⟩), .string id] w (QuietPost (foundV L (mIdx L.q.ms id)) w) := by
  obtain ⟨y, cap, hv, hy1, hy2⟩ := row_shape h.mrow
  obtain ⟨-, -, -, -, -, -, c6, -⟩ := h.tops
  rw [hv] at c6
  have hml := h.mblt
  have hxa : Ext (fun _ => False) w (w.alloc (.cells #[.string id] 9)) := (Ext.refl _ _).alloc _
  have HC : Hid (Calls Try.prog 53 #[.slice y L.ms.length cap, .func (.func 73) #[] #[.pointer (some ⟨w.heap.size, 0, none⟩)]] (w.alloc (.cells #[.string id] 9)) (IxPost (fun k => decide (((L.ms[k]?).map (·.m.id)).getD ByteArray.empty = id)) L.ms.length fun _ W => Ext (fun _ => False) (w.alloc (.cells #[.string id] 9)) W)) := by
    show Calls _ _ _ _ _
    refine ix53 73 #[.pointer (some ⟨w.heap.size, 0, none⟩)] (enters_of Try.func73 (by kernel_rfl) rfl) y L.ms.length cap (fun k => foundV L k) _ _ _ (by omega) (Ext.refl _ _) (fun k W hk hW => ?_) (fun k W hk hW => ?_)
    · obtain ⟨g, cap', e, -, -, -, h1, -⟩ := (h.quiet (hxa.trans hW)).mail_at k hk
      rw [hv] at e
      injection e with e1 e2 e3
      exact ⟨g, 0, e1, by rw [Nat.zero_add, h1]; simp [mPtr, foundV, hk]⟩
    · have hb : W.cell? ⟨w.heap.size, 0, none⟩ = some (.string id) := by
        have e := (MapKept.heap_alloc w (.cells #[.string id] 9)).1
        have := hW.block w.heap.size (by simp) fun f => f
        rw [e] at this
        simp [World.cell?, this]
      have e : foundV L k = .pointer (some ⟨L.ms[k].b, 0, none⟩) := by simp [foundV, hk]
      rw [e]
      refine (find1_run L.ms[k] w.heap.size id W ((h.quiet (hxa.trans hW)).mails _ (List.getElem_mem hk)) hb).mono ?_
      rintro e W' ⟨rfl, hx⟩
      exact ⟨by simp [hk], hW.trans hx⟩
  have HH := (show Hid (∀ W, Ext (fun _ => False) w W → Mg W mb L F) from fun W hW => h.quiet hW)
  rw [q_mIdx]
  have Hp := (show Hid (∀ k (hk : k < L.ms.length), (fun k => decide (((L.ms[k]?).map (·.m.id)).getD ByteArray.empty = id)) k = (fun z : LM => decide (z.m.id = id)) L.ms[k]) from fun k hk => by simp [hk])
  have HF := (show Hid (∀ W e', IxPost (fun k => decide (((L.ms[k]?).map (·.m.id)).getD ByteArray.empty = id)) L.ms.length (fun _ W => Ext (fun _ => False) (w.alloc (.cells #[.string id] 9)) W) e' W → _) from fun W e' hix => ix_find L.ms (fun z => decide (z.m.id = id)) _ Hp.out hix)
  generalize (L.ms.findIdx fun z => decide (z.m.id = id)) = i at HF ⊢
  clear h
  go_enter Try.func48, Try.ntmps48
  go_wp2_with fail
  refine HC.out.mono ?_
  rintro e w1 hix
  obtain ⟨r, rfl, hr, m, hx1⟩ := HF.out _ _ hix
  clear hix HF HC Hp
  have hx := hxa.trans hx1
  rcases hr with ⟨hlt, rfl⟩ | ⟨rfl, hlt⟩
  · obtain ⟨g, cap', e, -, -, hg1, hg2, -⟩ := (HH.out _ hx).mail_at _ hlt
    obtain ⟨-, -, -, -, -, -, d6, -⟩ := (HH.out _ hx).tops
    have Hefd := (show Hid (foundV L i = .pointer (some ⟨L.ms[i].b, 0, none⟩)) from by
      show _ = _
      unfold foundV
      rw [List.getElem?_eq_getElem hlt]
      rfl)
    unfold mPtr at hg2
    rw [hv] at e d6
    injection e with e1 _ _
    subst e1
    have Hx := (show Hid (Ext (fun _ => False) w w1) from hx)
    clear hx hx1 HH
    go_wp2_with fail
    go_ret
    exact ⟨by rw [Hefd.out]; rfl, Hx.out⟩
  · have Hefd := (show Hid (foundV L i = .pointer none) from by
      show _ = _
      unfold foundV
      rw [List.getElem?_eq_none (by omega)]
      rfl)
    have Hx := (show Hid (Ext (fun _ => False) w w1) from hx)
    clear hx hx1 HH
    go_wp2_with fail
    go_ret
    exact ⟨by rw [Hefd.out]; rfl, Hx.out⟩
end Go.Proofs.Ytnakafmlenngnaa.Qm
