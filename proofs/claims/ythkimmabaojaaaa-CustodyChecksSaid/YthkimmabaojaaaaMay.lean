/- The contracts of 'may' and 'do' of a care. -/
import Derived.Test.YthkimmabaojaaaaMem
namespace Go.Proofs.Ythkimmabaojaaaa.Cm
open Go.RowKit Go.Proofs.Ythkimmabaojaaaa.Cu

/-- A deed as a value. -/
def ddV (d : Dd) : Value := .agg #[.int .i64 d.kind, .string d.id, .int .i64 d.who, .int .i64 d.count]

theorem CareAt.drewN' {w : World} {cb lb T n : Nat} {c : Care} (h : CareAt w cb lb c T) : CareAt (w.drewN n) cb lb c T := h.ext ((Ext.refl (fun _ => False) w).drewN n) (fun f => f) (fun f => f)

theorem may_2 (cb lb T : Nat) (c : Care) (d : Dd) (w : World) (h : CareAt w cb lb c T) (hk : d.kind = 2) :
    Calls Try.prog 17 #[.pointer (some ⟨cb, 0, none⟩), ddV d] w fun e w' => e = .returned (.bool (may c d)) ∧ Ext (fun _ => False) w w' := by
  obtain ⟨h0, h1, h2⟩ := h.cells
  have hm : may c d = ((!c.held && pend c d.who) && !c.removed) := by simp [may, mayK, hk]
  rw [hm, ddV, hk]
  have hl : cb < w.heap.size := (Array.getElem?_eq_some_iff.1 h.care).1
  have hw := h.ext ((Ext.refl (fun _ => False) w).alloc (.cells #[.int .i64 2, .string d.id, .int .i64 d.who, .int .i64 d.count] 30)) (fun f => f) (fun f => f)
  generalize hp : pend c d.who = p
  generalize c.held = x at h1
  generalize c.removed = y at h2
  clear hm hk h
  cases p <;> cases x <;> cases y
  all_goals
    go_enter Try.func17, Try.ntmps17
    go_wp2_with (go_at_call 23; refine (pending_run cb lb T c d.who _ hw).mono ?_; rw [hp]; rintro e w' ⟨rfl, rfl⟩)
    go_ret
    exact ⟨rfl, (Ext.refl _ _).alloc _⟩

theorem may_4 (cb lb T : Nat) (c : Care) (d : Dd) (w : World) (h : CareAt w cb lb c T) (hk : d.kind = 4) :
    Calls Try.prog 17 #[.pointer (some ⟨cb, 0, none⟩), ddV d] w fun e w' => e = .returned (.bool (may c d)) ∧ Ext (fun _ => False) w w' := by
  obtain ⟨h0, h1, h2⟩ := h.cells
  have hm : may c d = (pend c d.who && !c.removed) := by simp [may, mayK, hk]
  rw [hm, ddV, hk]
  have hl : cb < w.heap.size := (Array.getElem?_eq_some_iff.1 h.care).1
  have hw := h.ext ((Ext.refl (fun _ => False) w).alloc (.cells #[.int .i64 4, .string d.id, .int .i64 d.who, .int .i64 d.count] 30)) (fun f => f) (fun f => f)
  generalize hp : pend c d.who = p
  generalize c.removed = y at h2
  clear hm hk h
  cases p <;> cases y
  all_goals
    go_enter Try.func17, Try.ntmps17
    go_wp2_with (go_at_call 23; refine (pending_run cb lb T c d.who _ hw).mono ?_; rw [hp]; rintro e w' ⟨rfl, rfl⟩)
    go_ret
    exact ⟨rfl, (Ext.refl _ _).alloc _⟩

theorem may_5 (cb lb T : Nat) (c : Care) (d : Dd) (w : World) (h : CareAt w cb lb c T) (hk : d.kind = 5) :
    Calls Try.prog 17 #[.pointer (some ⟨cb, 0, none⟩), ddV d] w fun e w' => e = .returned (.bool (may c d)) ∧ Ext (fun _ => False) w w' := by
  obtain ⟨h0, h1, h2⟩ := h.cells
  have hm : may c d = (pend c d.who && !c.removed) := by simp [may, mayK, hk]
  rw [hm, ddV, hk]
  have hl : cb < w.heap.size := (Array.getElem?_eq_some_iff.1 h.care).1
  have hw := h.ext ((Ext.refl (fun _ => False) w).alloc (.cells #[.int .i64 5, .string d.id, .int .i64 d.who, .int .i64 d.count] 30)) (fun f => f) (fun f => f)
  generalize hp : pend c d.who = p
  generalize c.removed = y at h2
  clear hm hk h
  cases p <;> cases y
  all_goals
    go_enter Try.func17, Try.ntmps17
    go_wp2_with (go_at_call 23; refine (pending_run cb lb T c d.who _ hw).mono ?_; rw [hp]; rintro e w' ⟨rfl, rfl⟩)
    go_ret
    exact ⟨rfl, (Ext.refl _ _).alloc _⟩

theorem may_6 (cb lb T : Nat) (c : Care) (d : Dd) (w : World) (h : CareAt w cb lb c T) (hk : d.kind = 6) :
    Calls Try.prog 17 #[.pointer (some ⟨cb, 0, none⟩), ddV d] w fun e w' => e = .returned (.bool (may c d)) ∧ Ext (fun _ => False) w w' := by
  obtain ⟨h0, h1, h2⟩ := h.cells
  have hm : may c d = ((!c.held) && !c.removed) := by simp [may, mayK, hk]
  rw [hm, ddV, hk]
  have hl : cb < w.heap.size := (Array.getElem?_eq_some_iff.1 h.care).1
  have hw := h.ext ((Ext.refl (fun _ => False) w).alloc (.cells #[.int .i64 6, .string d.id, .int .i64 d.who, .int .i64 d.count] 30)) (fun f => f) (fun f => f)
  generalize c.held = x at h1
  generalize c.removed = y at h2
  clear hm hk h hw
  cases x <;> cases y
  all_goals
    go_enter Try.func17, Try.ntmps17
    go_wp2_with (fail)
    go_ret
    exact ⟨rfl, (Ext.refl _ _).alloc _⟩

theorem may_7 (cb lb T : Nat) (c : Care) (d : Dd) (w : World) (h : CareAt w cb lb c T) (hk : d.kind = 7) :
    Calls Try.prog 17 #[.pointer (some ⟨cb, 0, none⟩), ddV d] w fun e w' => e = .returned (.bool (may c d)) ∧ Ext (fun _ => False) w w' := by
  obtain ⟨h0, h1, h2⟩ := h.cells
  have hm : may c d = (c.held && !c.removed) := by simp [may, mayK, hk]
  rw [hm, ddV, hk]
  have hl : cb < w.heap.size := (Array.getElem?_eq_some_iff.1 h.care).1
  have hw := h.ext ((Ext.refl (fun _ => False) w).alloc (.cells #[.int .i64 7, .string d.id, .int .i64 d.who, .int .i64 d.count] 30)) (fun f => f) (fun f => f)
  generalize c.held = x at h1
  generalize c.removed = y at h2
  clear hm hk h hw
  cases x <;> cases y
  all_goals
    go_enter Try.func17, Try.ntmps17
    go_wp2_with (fail)
    go_ret
    exact ⟨rfl, (Ext.refl _ _).alloc _⟩

theorem may_8 (cb lb T : Nat) (c : Care) (d : Dd) (w : World) (h : CareAt w cb lb c T) (hk : d.kind = 8) :
    Calls Try.prog 17 #[.pointer (some ⟨cb, 0, none⟩), ddV d] w fun e w' => e = .returned (.bool (may c d)) ∧ Ext (fun _ => False) w w' := by
  obtain ⟨h0, h1, h2⟩ := h.cells
  have hm : may c d = (true && !c.removed) := by simp [may, mayK, hk]
  rw [hm, ddV, hk]
  have hl : cb < w.heap.size := (Array.getElem?_eq_some_iff.1 h.care).1
  have hw := h.ext ((Ext.refl (fun _ => False) w).alloc (.cells #[.int .i64 8, .string d.id, .int .i64 d.who, .int .i64 d.count] 30)) (fun f => f) (fun f => f)
  generalize c.removed = y at h2
  clear hm hk h hw
  cases y
  all_goals
    go_enter Try.func17, Try.ntmps17
    go_wp2_with (fail)
    go_ret
    exact ⟨rfl, (Ext.refl _ _).alloc _⟩

theorem may_9 (cb lb T : Nat) (c : Care) (d : Dd) (w : World) (h : CareAt w cb lb c T) (hk : d.kind = 9) :
    Calls Try.prog 17 #[.pointer (some ⟨cb, 0, none⟩), ddV d] w fun e w' => e = .returned (.bool (may c d)) ∧ Ext (fun _ => False) w w' := by
  obtain ⟨h0, h1, h2⟩ := h.cells
  have hm : may c d = (over c && !c.removed) := by simp [may, mayK, hk]
  rw [hm, ddV, hk]
  have hl : cb < w.heap.size := (Array.getElem?_eq_some_iff.1 h.care).1
  have hw := h.ext ((Ext.refl (fun _ => False) w).alloc (.cells #[.int .i64 9, .string d.id, .int .i64 d.who, .int .i64 d.count] 30)) (fun f => f) (fun f => f)
  have H := over_run cb lb T c _ hw
  generalize hob : over c = b at H
  generalize hy : c.removed = y at h2
  have HH := (show Hid (Calls Try.prog 24 #[.pointer (some ⟨cb, 0, none⟩)] (w.alloc (.cells #[.int .i64 9, .string d.id, .int .i64 d.who, .int .i64 d.count] 30)) fun e w' => e = .returned (.bool b) ∧ Ext (fun _ => False) (w.alloc (.cells #[.int .i64 9, .string d.id, .int .i64 d.who, .int .i64 d.count] 30)) w') from H)
  clear hm hk H hob
  cases b <;> cases y
  all_goals
    go_enter Try.func17, Try.ntmps17
    go_wp2_with (go_at_call 24; refine HH.out.mono ?_; rintro e w1 ⟨rfl, hx⟩; have h2' := (hw.ext hx (fun f => f) (fun f => f)).cells.2.2; rw [hy] at h2')
    go_ret
    exact ⟨rfl, ((Ext.refl _ _).alloc _).trans hx⟩

theorem may_3 (cb lb T : Nat) (c : Care) (d : Dd) (w : World) (h : CareAt w cb lb c T) (hk : d.kind = 3) :
    Calls Try.prog 17 #[.pointer (some ⟨cb, 0, none⟩), ddV d] w fun e w' => e = .returned (.bool (may c d)) ∧ Ext (fun _ => False) w w' := by
  obtain ⟨h0, h1, h2⟩ := h.cells
  have hm : may c d = ((pend c d.who && decide (0 < (c.l.getD d.who.toNat (0, 0)).2)) && !c.removed) := by simp [may, mayK, hk]
  rw [hm, ddV, hk]
  have hl : cb < w.heap.size := (Array.getElem?_eq_some_iff.1 h.care).1
  have hw := h.ext ((Ext.refl (fun _ => False) w).alloc (.cells #[.int .i64 3, .string d.id, .int .i64 d.who, .int .i64 d.count] 30)) (fun f => f) (fun f => f)
  have hti : pend c d.who = true → ∃ k t : Nat, d.who = k ∧ k < c.l.length ∧ (c.l.getD d.who.toNat (0, 0)).2 = t ∧ w.cell? ⟨lb, k * 2 + 1, none⟩ = some (.int .i64 t) := by
    intro hp
    obtain ⟨p1, p2, -⟩ := pend_yes hp
    obtain ⟨k, hkk⟩ := Int.eq_ofNat_of_zero_le p1
    rw [hkk] at p2 ⊢
    exact ⟨k, _, rfl, p2, rfl, h.time k p2⟩
  have hll : lb < w.heap.size := (Array.getElem?_eq_some_iff.1 h.list).1
  have htop := h.top
  generalize hp : pend c d.who = p at hti
  generalize hy : c.removed = y at h2
  cases p
  · have HP := (show Hid (∀ W, CareAt W cb lb c T → Calls Try.prog 23 #[.pointer (some ⟨cb, 0, none⟩), .int .i64 d.who] W fun e w' => e = .returned (.bool false) ∧ w' = W) from fun W hW => (pending_run cb lb T c d.who W hW).mono fun _ _ hh => ⟨by rw [← hp]; exact hh.1, hh.2.symm⟩)
    clear hti hm hk h hl hll htop
    cases y
    all_goals
      go_enter Try.func17, Try.ntmps17
      go_wp2_with fail
      go_quiet ((go_at_call 23; exact Calls.quiet_of_same (HP.out _ (CareAt.drewN' hw))))
      go_wp2
      go_ret
      exact ⟨rfl, ((Ext.refl _ _).alloc _).drewN _⟩
  · obtain ⟨k, t, hkk, hlt, hte, hct⟩ := hti rfl
    rw [hte]
    rw [hkk] at hw hp ⊢
    have HP := (show Hid (∀ W, CareAt W cb lb c T → Calls Try.prog 23 #[.pointer (some ⟨cb, 0, none⟩), .int .i64 k] W fun e w' => e = .returned (.bool true) ∧ w' = W) from fun W hW => (pending_run cb lb T c k W hW).mono fun _ _ hh => ⟨by rw [← hp]; exact hh.1, hh.2.symm⟩)
    clear hti hm hte hkk hk
    generalize hn : c.l.length = n at h0 hlt htop
    clear hn
    by_cases hpos : 0 < t
    · cases y
      all_goals
        go_enter Try.func17, Try.ntmps17
        go_wp2_with fail
        go_quiet ((go_at_call 23; exact Calls.quiet_of_same (HP.out _ (CareAt.drewN' hw))))
        go_wp2
        go_ret
        exact ⟨by simp [hpos], ((Ext.refl _ _).alloc _).drewN _⟩
    · obtain rfl : t = 0 := by omega
      cases y
      all_goals
        go_enter Try.func17, Try.ntmps17
        go_wp2_with fail
        go_quiet ((go_at_call 23; exact Calls.quiet_of_same (HP.out _ (CareAt.drewN' hw))))
        go_wp2
        go_ret
        exact ⟨rfl, ((Ext.refl _ _).alloc _).drewN _⟩

theorem may_run (cb lb T : Nat) (c : Care) (d : Dd) (w : World) (h : CareAt w cb lb c T) (h1 : 2 ≤ d.kind) (h2 : d.kind ≤ 9) :
    Calls Try.prog 17 #[.pointer (some ⟨cb, 0, none⟩), ddV d] w fun e w' => e = .returned (.bool (may c d)) ∧ Ext (fun _ => False) w w' := by
  rcases (by omega : d.kind = 2 ∨ d.kind = 3 ∨ d.kind = 4 ∨ d.kind = 5 ∨ d.kind = 6 ∨ d.kind = 7 ∨ d.kind = 8 ∨ d.kind = 9) with k | k | k | k | k | k | k | k
  · exact may_2 cb lb T c d w h k
  · exact may_3 cb lb T c d w h k
  · exact may_4 cb lb T c d w h k
  · exact may_5 cb lb T c d w h k
  · exact may_6 cb lb T c d w h k
  · exact may_7 cb lb T c d w h k
  · exact may_8 cb lb T c d w h k
  · exact may_9 cb lb T c d w h k
end Go.Proofs.Ythkimmabaojaaaa.Cm
