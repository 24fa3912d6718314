/- The contract of 'do' of a care. -/
import Derived.Test.YthkimmabaojaaaaMay
namespace Go.Proofs.Ythkimmabaojaaaa.Cm
open Go.RowKit Go.Proofs.Ythkimmabaojaaaa.Cu

theorem CareAt.mono {w : World} {cb lb T T' : Nat} {c : Care} (h : CareAt w cb lb c T) (hT : T ≤ T') (hs : T' ≤ 100000) : CareAt w cb lb c T' :=
  ⟨h.care, h.list, h.ne, h.pos, h.top, fun x hx => Nat.le_trans (h.times x hx) hT, hs⟩

/-- The first k of the pending ones are gone. -/
def goneTo : Nat → List (Nat × Nat) → List (Nat × Nat)
  | 0, l => l
  | _ + 1, [] => []
  | k + 1, x :: l => gone x :: goneTo k l

theorem goneTo_length (k : Nat) (l : List (Nat × Nat)) : (goneTo k l).length = l.length := by
  induction l generalizing k with
  | nil => cases k <;> rfl
  | cons x l ih => cases k with
    | zero => rfl
    | succ k => simp [goneTo, ih]
theorem goneTo_all (k : Nat) (l : List (Nat × Nat)) (h : l.length ≤ k) : goneTo k l = l.map gone := by
  induction l generalizing k with
  | nil => cases k <;> rfl
  | cons x l ih => cases k with
    | zero => simp at h
    | succ k => simp only [goneTo, List.map_cons]; rw [ih k (by simpa using h)]
theorem goneTo_at (k : Nat) (l : List (Nat × Nat)) : (goneTo k l).getD k (0, 0) = l.getD k (0, 0) := by
  induction l generalizing k with
  | nil => cases k <;> rfl
  | cons x l ih => cases k with
    | zero => rfl
    | succ k => simpa [goneTo] using ih k
theorem goneTo_set (k : Nat) (l : List (Nat × Nat)) (h : (l.getD k (0, 0)).1 = 1) : (goneTo k l).set k (5, (l.getD k (0, 0)).2) = goneTo (k + 1) l := by
  induction l generalizing k with
  | nil => simp at h
  | cons x l ih => cases k with
    | zero =>
      have h : x.1 = 1 := by simpa using h
      simp [goneTo, gone, h]
    | succ k => simpa [goneTo] using ih k (by simpa using h)
theorem goneTo_keep (k : Nat) (l : List (Nat × Nat)) (h : (l.getD k (0, 0)).1 ≠ 1) : goneTo k l = goneTo (k + 1) l := by
  induction l generalizing k with
  | nil => cases k <;> rfl
  | cons x l ih => cases k with
    | zero =>
      have h : x.1 ≠ 1 := by simpa using h
      simp [goneTo, gone, h]
    | succ k =>
      have := ih k (by simpa using h)
      simp only [goneTo]; rw [this]

theorem CareAt.setHeld {w : World} {cb lb T : Nat} {c : Care} (h : CareAt w cb lb c T) (x : Bool) : CareAt (w.setCell ⟨cb, 1, none⟩ (.bool x)) cb lb { c with held := x } T := by
  refine ⟨?_, ?_, h.ne, h.pos, h.top, h.times, h.small⟩
  · simp [World.setCell, Array.getElem?_modify, h.care]
  · rw [Below.heap_setCell _ _ _ _ h.ne.symm]; exact h.list
theorem CareAt.setRemoved {w : World} {cb lb T : Nat} {c : Care} (h : CareAt w cb lb c T) (x : Bool) : CareAt (w.setCell ⟨cb, 2, none⟩ (.bool x)) cb lb { c with removed := x } T := by
  refine ⟨?_, ?_, h.ne, h.pos, h.top, h.times, h.small⟩
  · simp [World.setCell, Array.getElem?_modify, h.care]
  · rw [Below.heap_setCell _ _ _ _ h.ne.symm]; exact h.list

/-- Behind 'do'. -/
def DidPost (cb lb T : Nat) (c : Care) (w : World) (e : Ending) (w' : World) : Prop := e = .returned (.tuple #[]) ∧ CareAt w' cb lb c T ∧ Ext (fun k => k = cb ∨ k = lb) w w'

theorem do_3 (cb lb T : Nat) (c : Care) (d : Dd) (w : World) (hT : T + 1 ≤ 100000) (h : CareAt w cb lb c T) (hk : d.kind = 3) (hp : pend c d.who = true) :
    Calls Try.prog 18 #[.pointer (some ⟨cb, 0, none⟩), ddV d] w (DidPost cb lb (T + 1) (act c d) w) := by
  obtain ⟨h0, h1, h2⟩ := h.cells
  have hm : act c d = setSt c d.who.toNat 2 := by simp [act, hk]
  rw [hm, ddV, hk]
  have hl : cb < w.heap.size := (Array.getElem?_eq_some_iff.1 h.care).1
  have hll : lb < w.heap.size := (Array.getElem?_eq_some_iff.1 h.list).1
  have hw := h.ext ((Ext.refl (fun _ => False) w).alloc (.cells #[.int .i64 3, .string d.id, .int .i64 d.who, .int .i64 d.count] 30)) (fun f => f) (fun f => f)
  have hx0 := (Ext.refl (fun k => k = cb ∨ k = lb) w).alloc (.cells #[.int .i64 3, .string d.id, .int .i64 d.who, .int .i64 d.count] 30)
  obtain ⟨p1, p2, -⟩ := pend_yes hp
  obtain ⟨k, hkk⟩ := Int.eq_ofNat_of_zero_le p1
  rw [hkk] at p2 hw hx0 ⊢
  clear hm hkk hp hk
  go_enter Try.func18, Try.ntmps18
  go_wp2_with (go_at_call 25; refine (end_run cb lb T c k 2 _ p2 hw).mono ?_; rintro e w1 ⟨rfl, hc1, hx1⟩)
  go_end0
  exact ⟨rfl, hc1.mono (Nat.le_succ _) hT, hx0.trans (hx1.mono fun _ e => .inr e)⟩

theorem do_4 (cb lb T : Nat) (c : Care) (d : Dd) (w : World) (hT : T + 1 ≤ 100000) (h : CareAt w cb lb c T) (hk : d.kind = 4) (hp : pend c d.who = true) :
    Calls Try.prog 18 #[.pointer (some ⟨cb, 0, none⟩), ddV d] w (DidPost cb lb (T + 1) (act c d) w) := by
  obtain ⟨h0, h1, h2⟩ := h.cells
  have hm : act c d = setSt c d.who.toNat 3 := by simp [act, hk]
  rw [hm, ddV, hk]
  have hl : cb < w.heap.size := (Array.getElem?_eq_some_iff.1 h.care).1
  have hll : lb < w.heap.size := (Array.getElem?_eq_some_iff.1 h.list).1
  have hw := h.ext ((Ext.refl (fun _ => False) w).alloc (.cells #[.int .i64 4, .string d.id, .int .i64 d.who, .int .i64 d.count] 30)) (fun f => f) (fun f => f)
  have hx0 := (Ext.refl (fun k => k = cb ∨ k = lb) w).alloc (.cells #[.int .i64 4, .string d.id, .int .i64 d.who, .int .i64 d.count] 30)
  obtain ⟨p1, p2, -⟩ := pend_yes hp
  obtain ⟨k, hkk⟩ := Int.eq_ofNat_of_zero_le p1
  rw [hkk] at p2 hw hx0 ⊢
  clear hm hkk hp hk
  go_enter Try.func18, Try.ntmps18
  go_wp2_with (go_at_call 25; refine (end_run cb lb T c k 3 _ p2 hw).mono ?_; rintro e w1 ⟨rfl, hc1, hx1⟩)
  go_end0
  exact ⟨rfl, hc1.mono (Nat.le_succ _) hT, hx0.trans (hx1.mono fun _ e => .inr e)⟩

theorem do_5 (cb lb T : Nat) (c : Care) (d : Dd) (w : World) (hT : T + 1 ≤ 100000) (h : CareAt w cb lb c T) (hk : d.kind = 5) (hp : pend c d.who = true) :
    Calls Try.prog 18 #[.pointer (some ⟨cb, 0, none⟩), ddV d] w (DidPost cb lb (T + 1) (act c d) w) := by
  obtain ⟨h0, h1, h2⟩ := h.cells
  have hm : act c d = setSt c d.who.toNat 4 := by simp [act, hk]
  rw [hm, ddV, hk]
  have hl : cb < w.heap.size := (Array.getElem?_eq_some_iff.1 h.care).1
  have hll : lb < w.heap.size := (Array.getElem?_eq_some_iff.1 h.list).1
  have hw := h.ext ((Ext.refl (fun _ => False) w).alloc (.cells #[.int .i64 5, .string d.id, .int .i64 d.who, .int .i64 d.count] 30)) (fun f => f) (fun f => f)
  have hx0 := (Ext.refl (fun k => k = cb ∨ k = lb) w).alloc (.cells #[.int .i64 5, .string d.id, .int .i64 d.who, .int .i64 d.count] 30)
  obtain ⟨p1, p2, -⟩ := pend_yes hp
  obtain ⟨k, hkk⟩ := Int.eq_ofNat_of_zero_le p1
  rw [hkk] at p2 hw hx0 ⊢
  clear hm hkk hp hk
  go_enter Try.func18, Try.ntmps18
  go_wp2_with (go_at_call 25; refine (end_run cb lb T c k 4 _ p2 hw).mono ?_; rintro e w1 ⟨rfl, hc1, hx1⟩)
  go_end0
  exact ⟨rfl, hc1.mono (Nat.le_succ _) hT, hx0.trans (hx1.mono fun _ e => .inr e)⟩

theorem do_6 (cb lb T : Nat) (c : Care) (d : Dd) (w : World) (hT : T + 1 ≤ 100000) (h : CareAt w cb lb c T) (hk : d.kind = 6) :
    Calls Try.prog 18 #[.pointer (some ⟨cb, 0, none⟩), ddV d] w (DidPost cb lb (T + 1) (act c d) w) := by
  obtain ⟨h0, h1, h2⟩ := h.cells
  have hm : act c d = { c with held := !c.held } := by simp [act, hk]
  rw [hm, ddV, hk]
  have hl : cb < w.heap.size := (Array.getElem?_eq_some_iff.1 h.care).1
  have hll : lb < w.heap.size := (Array.getElem?_eq_some_iff.1 h.list).1
  have hw := h.ext ((Ext.refl (fun _ => False) w).alloc (.cells #[.int .i64 6, .string d.id, .int .i64 d.who, .int .i64 d.count] 30)) (fun f => f) (fun f => f)
  have hx0 := (Ext.refl (fun k => k = cb ∨ k = lb) w).alloc (.cells #[.int .i64 6, .string d.id, .int .i64 d.who, .int .i64 d.count] 30)
  have hz := h.free 1
  have H := (h.setHeld (!c.held)).ext ((Ext.refl (fun _ => False) _).alloc (.cells #[.int .i64 6, .string d.id, .int .i64 d.who, .int .i64 d.count] 30)) (fun f => f) (fun f => f)
  generalize c.held = x at h1 H
  clear hm hk
  go_enter Try.func18, Try.ntmps18
  go_wp2
  go_end0
  exact ⟨rfl, H.mono (Nat.le_succ _) hT, ((Ext.refl _ _).setCell _ _ _ (.inl rfl)).alloc _⟩

theorem do_7 (cb lb T : Nat) (c : Care) (d : Dd) (w : World) (hT : T + 1 ≤ 100000) (h : CareAt w cb lb c T) (hk : d.kind = 7) :
    Calls Try.prog 18 #[.pointer (some ⟨cb, 0, none⟩), ddV d] w (DidPost cb lb (T + 1) (act c d) w) := by
  obtain ⟨h0, h1, h2⟩ := h.cells
  have hm : act c d = { c with held := !c.held } := by simp [act, hk]
  rw [hm, ddV, hk]
  have hl : cb < w.heap.size := (Array.getElem?_eq_some_iff.1 h.care).1
  have hll : lb < w.heap.size := (Array.getElem?_eq_some_iff.1 h.list).1
  have hw := h.ext ((Ext.refl (fun _ => False) w).alloc (.cells #[.int .i64 7, .string d.id, .int .i64 d.who, .int .i64 d.count] 30)) (fun f => f) (fun f => f)
  have hx0 := (Ext.refl (fun k => k = cb ∨ k = lb) w).alloc (.cells #[.int .i64 7, .string d.id, .int .i64 d.who, .int .i64 d.count] 30)
  have hz := h.free 1
  have H := (h.setHeld (!c.held)).ext ((Ext.refl (fun _ => False) _).alloc (.cells #[.int .i64 7, .string d.id, .int .i64 d.who, .int .i64 d.count] 30)) (fun f => f) (fun f => f)
  generalize c.held = x at h1 H
  clear hm hk
  go_enter Try.func18, Try.ntmps18
  go_wp2
  go_end0
  exact ⟨rfl, H.mono (Nat.le_succ _) hT, ((Ext.refl _ _).setCell _ _ _ (.inl rfl)).alloc _⟩

theorem do_9 (cb lb T : Nat) (c : Care) (d : Dd) (w : World) (hT : T + 1 ≤ 100000) (h : CareAt w cb lb c T) (hk : d.kind = 9) :
    Calls Try.prog 18 #[.pointer (some ⟨cb, 0, none⟩), ddV d] w (DidPost cb lb (T + 1) (act c d) w) := by
  obtain ⟨h0, h1, h2⟩ := h.cells
  have hm : act c d = { c with removed := true } := by simp [act, hk]
  rw [hm, ddV, hk]
  have hl : cb < w.heap.size := (Array.getElem?_eq_some_iff.1 h.care).1
  have hll : lb < w.heap.size := (Array.getElem?_eq_some_iff.1 h.list).1
  have hw := h.ext ((Ext.refl (fun _ => False) w).alloc (.cells #[.int .i64 9, .string d.id, .int .i64 d.who, .int .i64 d.count] 30)) (fun f => f) (fun f => f)
  have hx0 := (Ext.refl (fun k => k = cb ∨ k = lb) w).alloc (.cells #[.int .i64 9, .string d.id, .int .i64 d.who, .int .i64 d.count] 30)
  have hz := h.free 2
  have H := (h.setRemoved true).ext ((Ext.refl (fun _ => False) _).alloc (.cells #[.int .i64 9, .string d.id, .int .i64 d.who, .int .i64 d.count] 30)) (fun f => f) (fun f => f)
  clear hm hk
  go_enter Try.func18, Try.ntmps18
  go_wp2
  go_end0
  exact ⟨rfl, H.mono (Nat.le_succ _) hT, ((Ext.refl _ _).setCell _ _ _ (.inl rfl)).alloc _⟩

theorem do_2 (cb lb T : Nat) (c : Care) (d : Dd) (w : World) (hT : T + 1 ≤ 100000) (h : CareAt w cb lb c T) (hk : d.kind = 2) (hp : pend c d.who = true) :
    Calls Try.prog 18 #[.pointer (some ⟨cb, 0, none⟩), ddV d] w (DidPost cb lb (T + 1) (act c d) w) := by
  obtain ⟨h0, h1, h2⟩ := h.cells
  have hm : act c d = { c with l := c.l.set d.who.toNat ((c.l.getD d.who.toNat (0, 0)).1, (c.l.getD d.who.toNat (0, 0)).2 + 1) } := by simp [act, hk]
  rw [hm, ddV, hk]
  have hl : cb < w.heap.size := (Array.getElem?_eq_some_iff.1 h.care).1
  have hll : lb < w.heap.size := (Array.getElem?_eq_some_iff.1 h.list).1
  have hw := h.ext ((Ext.refl (fun _ => False) w).alloc (.cells #[.int .i64 2, .string d.id, .int .i64 d.who, .int .i64 d.count] 30)) (fun f => f) (fun f => f)
  have hx0 := (Ext.refl (fun k => k = cb ∨ k = lb) w).alloc (.cells #[.int .i64 2, .string d.id, .int .i64 d.who, .int .i64 d.count] 30)
  obtain ⟨p1, p2, -⟩ := pend_yes hp
  obtain ⟨k, hkk⟩ := Int.eq_ofNat_of_zero_le p1
  rw [hkk] at p2 hw hx0 ⊢
  clear hm hkk hp hk
  have hk : k < c.l.length := p2
  have ht := h.time k hk
  have hz := h.freeL (k * 2 + 1)
  have hb := h.times _ (List.getElem_mem hk)
  rw [← getD_lt c.l (0, 0) k hk] at hb
  have htop := h.top
  have H := (h.setTime hT k hk).ext ((Ext.refl (fun _ => False) _).alloc (.cells #[.int .i64 2, .string d.id, .int .i64 (k : Int), .int .i64 d.count] 30)) (fun f => f) (fun f => f)
  simp only [Int.toNat_natCast]
  have HH := (show Hid (CareAt ((w.setCell ⟨lb, k * 2 + 1, none⟩ (.int .i64 ((c.l.getD k (0, 0)).2 + 1 : Nat))).alloc (.cells #[.int .i64 2, .string d.id, .int .i64 (k : Int), .int .i64 d.count] 30)) cb lb { c with l := c.l.set k ((c.l.getD k (0, 0)).1, (c.l.getD k (0, 0)).2 + 1) } (T + 1)) from H)
  clear H
  generalize { c with l := c.l.set k ((c.l.getD k (0, 0)).1, (c.l.getD k (0, 0)).2 + 1) } = c' at HH ⊢
  generalize (c.l.getD k (0, 0)).2 = t at ht hb HH
  generalize c.l.length = n at h0 hk htop
  clear p2
  go_enter Try.func18, Try.ntmps18
  go_wp2
  go_region
  go_wp2
  go_end0
  exact ⟨rfl, HH.out.ext (show Ext (fun _ => False) _ _ from ⟨rfl, rfl, rfl, Nat.le_refl _, fun _ _ _ => rfl⟩) (fun f => f) (fun f => f), (((Ext.refl _ _).setCell lb _ _ (.inr rfl)).alloc _).trans ⟨rfl, rfl, rfl, Nat.le_refl _, fun _ _ _ => rfl⟩⟩

theorem do_8 (cb lb T : Nat) (c : Care) (d : Dd) (w : World) (hT : T + 1 ≤ 100000) (h : CareAt w cb lb c T) (hk : d.kind = 8) :
    Calls Try.prog 18 #[.pointer (some ⟨cb, 0, none⟩), ddV d] w (DidPost cb lb (T + 1) (act c d) w) := by
  obtain ⟨h0, h1, h2⟩ := h.cells
  have hm : act c d = { c with l := c.l.map gone } := by simp [act, hk]
  rw [hm, ddV, hk]
  have hl : cb < w.heap.size := (Array.getElem?_eq_some_iff.1 h.care).1
  have hll : lb < w.heap.size := (Array.getElem?_eq_some_iff.1 h.list).1
  have hw := h.ext ((Ext.refl (fun _ => False) w).alloc (.cells #[.int .i64 8, .string d.id, .int .i64 d.who, .int .i64 d.count] 30)) (fun f => f) (fun f => f)
  have hx0 := (Ext.refl (fun k => k = cb ∨ k = lb) w).alloc (.cells #[.int .i64 8, .string d.id, .int .i64 d.who, .int .i64 d.count] 30)
  have ht := h.top
  have Hall := (show Hid (goneTo c.l.length c.l = c.l.map gone) from goneTo_all _ _ (Nat.le_refl _))
  generalize hn : c.l.length = n at h0 ht Hall
  have Hn := (show Hid (c.l.length = n) from hn)
  clear hm hk hn
  go_enter Try.func18, Try.ntmps18
  go_wp2_with fail
  go_loopg [57] n (fun g k wr => ∃ k' : Nat, k = .int .i64 k' ∧ k' + g = n ∧ CareAt wr cb lb { c with l := goneTo k' c.l } T ∧ Ext (fun k => k = cb ∨ k = lb) w wr)
  case atStart => exact ⟨0, rfl, by omega, hw, hx0⟩
  case round =>
    obtain ⟨k, rfl, hk, hr, hx⟩ := hrel
    have Hk := (show Hid (k + gk = n) from hk)
    have hkn : k ≤ n := by omega
    clear hk
    by_cases hlt : k < n
    · have hlen : k < (goneTo k c.l).length := by rw [goneTo_length, Hn.out]; exact hlt
      have hpe : pend { c with l := goneTo k c.l } k = ((c.l.getD k (0, 0)).1 == 1) := by
        unfold pend
        simp only [Int.toNat_natCast, goneTo_at]
        have e1 : decide ((0 : Int) ≤ k) = true := by simp
        have e2 : decide ((k : Int) < (goneTo k c.l).length) = true := by simp; omega
        rw [e1, e2]; simp
      have HP := (show Hid (pend { c with l := goneTo k c.l } k = ((c.l.getD k (0, 0)).1 == 1)) from hpe)
      have Hlen := (show Hid (k < (goneTo k c.l).length) from hlen)
      clear hpe hlen
      by_cases h1 : (c.l.getD k (0, 0)).1 = 1
      · have H1 := (show Hid ((c.l.getD k (0, 0)).1 = 1) from h1)
        clear h1
        go_wp2_with (first
          | (go_at_call 23; refine (pending_run cb lb T _ k _ hr).mono ?_; rw [HP.out, H1.out]; rintro e w' ⟨rfl, rfl⟩)
          | (go_at_call 25; refine (end_run cb lb T _ k 5 _ Hlen.out hr).mono ?_; rintro e w2 ⟨rfl, hc2, hx2⟩))
        go_roundg (gk - 1)
        case measure => have := Hk.out; omega
        case rel =>
          refine ⟨k + 1, by go_num, by have := Hk.out; omega, ?_, hx.trans (hx2.mono fun _ e => .inr e)⟩
          have e : setSt { c with l := goneTo k c.l } k 5 = { c with l := goneTo (k + 1) c.l } := by
            simp only [setSt, goneTo_at]
            rw [goneTo_set k c.l H1.out]
          rw [← e]; exact hc2
      · have H1 := (show Hid ((c.l.getD k (0, 0)).1 ≠ 1) from h1)
        have hb : ((c.l.getD k (0, 0)).1 == 1) = false := by simpa using h1
        have Hb := (show Hid (((c.l.getD k (0, 0)).1 == 1) = false) from hb)
        clear h1 hb
        go_wp2_with (go_at_call 23; refine (pending_run cb lb T _ k _ hr).mono ?_; rw [HP.out, Hb.out]; rintro e w' ⟨rfl, rfl⟩)
        go_roundg (gk - 1)
        case measure => have := Hk.out; omega
        case rel =>
          refine ⟨k + 1, by go_num, by have := Hk.out; omega, ?_, hx⟩
          rw [← goneTo_keep k c.l H1.out]; exact hr
    · obtain rfl : k = n := by omega
      go_wp2_with fail
      go_end0
      refine ⟨rfl, ?_, hx⟩
      rw [← Hall.out]
      exact hr.mono (Nat.le_succ _) hT

theorem do_run (cb lb T : Nat) (c : Care) (d : Dd) (w : World) (hT : T + 1 ≤ 100000) (h : CareAt w cb lb c T) (h1 : 2 ≤ d.kind) (h2 : d.kind ≤ 9) (hm : may c d = true) :
    Calls Try.prog 18 #[.pointer (some ⟨cb, 0, none⟩), ddV d] w (DidPost cb lb (T + 1) (act c d) w) := by
  have hm := hm
  unfold may mayK at hm
  simp only [Bool.and_eq_true] at hm
  have hm := hm.1
  rcases (by omega : d.kind = 2 ∨ d.kind = 3 ∨ d.kind = 4 ∨ d.kind = 5 ∨ d.kind = 6 ∨ d.kind = 7 ∨ d.kind = 8 ∨ d.kind = 9) with k | k | k | k | k | k | k | k
  · exact do_2 cb lb T c d w hT h k (by simp [k] at hm; exact hm.2)
  · exact do_3 cb lb T c d w hT h k (by simp [k] at hm; exact hm.1)
  · exact do_4 cb lb T c d w hT h k (by simpa [k] using hm)
  · exact do_5 cb lb T c d w hT h k (by simpa [k] using hm)
  · exact do_6 cb lb T c d w hT h k
  · exact do_7 cb lb T c d w hT h k
  · exact do_8 cb lb T c d w hT h k
  · exact do_9 cb lb T c d w hT h k
end Go.Proofs.Ythkimmabaojaaaa.Cm
