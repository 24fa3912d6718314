/- The readers: isTime, has, find. -/
import Derived.Test.YtnakafmlenngnaaQg
namespace Go.Proofs.Ytnakafmlenngnaa.Qm
open Go.RowKit Go.Proofs.Ytnakafmlenngnaa.Wi

theorem istime1_run (a : Int) (w : World) : Calls Try.prog 71 #[.int .i64 a] w fun e w' => e = .returned (.bool (!isT a)) ∧ w = w' := by
  have e : (!isT a) = (decide (a < 0) || decide (1000000000 < a)) := by
    unfold isT
    rw [Bool.eq_iff_iff]; simp
  rw [e]
  by_cases h : a < 0
  · go_enter Try.func71, Try.ntmps71
    go_wp2_with fail
    go_ret
    exact ⟨by simp [h], rfl⟩
  · by_cases h2 : 1000000000 < a
    · go_enter Try.func71, Try.ntmps71
      go_wp2_with fail
      go_ret
      exact ⟨by simp, rfl⟩
    · go_enter Try.func71, Try.ntmps71
      go_wp2_with fail
      go_ret
      exact ⟨by simp [h, h2], rfl⟩

/-- A slice of n ints. -/
def IntsAt (w : World) (x : Option Addr) (n : Nat) (f : Nat → Int) : Prop :=
  n ≤ 9223372036854775807 ∧ ∀ k, k < n → ∃ b o, x = some ⟨b, o, none⟩ ∧ b < w.heap.size ∧ w.cell? ⟨b, o + k, none⟩ = some (.int .i64 (f k))

theorem Ext.cell {F : Nat → Prop} {w w' : World} (h : Ext F w w') {b : Nat} (hb : b < w.heap.size) (hF : ¬ F b) (o : Nat) : w'.cell? ⟨b, o, none⟩ = w.cell? ⟨b, o, none⟩ :=
  World.cell?_of_block (w := w) (h.block b hb hF)

theorem IntsAt.ext {w w' : World} {x : Option Addr} {n : Nat} {f : Nat → Int} {F : Nat → Prop} (h : IntsAt w x n f) (hx : Ext F w w') (hF : ∀ b o, x = some ⟨b, o, none⟩ → ¬ F b) : IntsAt w' x n f :=
  ⟨h.1, fun k hk => by
    obtain ⟨b, o, e, hb, hc⟩ := h.2 k hk
    exact ⟨b, o, e, Nat.lt_of_lt_of_le hb hx.size, (hx.cell hb (hF b o e) _).trans hc⟩⟩

theorem istime_run (x : Option Addr) (n c : Nat) (f : Nat → Int) (w : World) (h : IntsAt w x n f) :
    Calls Try.prog 44 #[.slice x n c] w fun e w' => (∃ b : Bool, e = .returned (.bool b) ∧ (b = true ↔ ∀ k, k < n → isT (f k) = true)) ∧ w = w' := by
  have HC := (show Hid (Calls Try.prog 58 #[.slice x n c, .func (.func 71) #[] #[]] w (CoPost (fun k => !isT (f k)) n fun _ W => W = w)) from
    co58 71 #[] (enters_of Try.func71 (by kernel_rfl) rfl) x n c (fun k => .int .i64 (f k)) _ _ w h.1 rfl
      (fun k W hk hW => by obtain ⟨b, o, e, -, hc⟩ := h.2 k hk; exact ⟨b, o, e, by rw [hW]; exact hc⟩)
      (fun k W hk hW => (istime1_run (f k) W).mono (by rintro e W' ⟨rfl, rfl⟩; exact ⟨rfl, hW⟩)))
  clear h
  go_enter Try.func44, Try.ntmps44
  go_wp2_with (go_at_call 58; refine HC.out.mono ?_; rintro e w1 ⟨b, rfl, hb, m, rfl⟩)
  go_ret
  refine ⟨⟨!b, rfl, ?_⟩, rfl⟩
  cases b
  · refine ⟨fun _ k hk => ?_, fun _ => rfl⟩
    cases ht : isT (f k) with
    | true => rfl
    | false => exact absurd (hb.2 ⟨k, hk, by rw [ht]; rfl⟩) (by decide)
  · refine ⟨fun f => (nomatch f), fun h => ?_⟩
    obtain ⟨k, hk, hq⟩ := hb.1 rfl
    rw [h k hk] at hq
    cases hq

def IndexPost (f : Nat → Int) (n : Nat) (a : Int) (w : World) (e : Ending) (w' : World) : Prop :=
  (∃ r : Int, e = .returned (.int .i64 r) ∧ ((0 ≤ r ∧ ∃ k, k < n ∧ f k = a) ∨ (r = -1 ∧ ∀ k, k < n → f k ≠ a))) ∧ w = w'

set_option maxHeartbeats 1000000 in
theorem index_run (x : Option Addr) (n c : Nat) (f : Nat → Int) (a : Int) (w : World) (h : IntsAt w x n f) :
    Calls Try.prog 86 #[.slice x n c, .int .i64 a] w (IndexPost f n a w) := by
  have H := (show Hid (IntsAt w x n f) from h)
  have hn := h.1
  clear h
  go_enter Try.func86, Try.ntmps86
  go_wp2_with fail
  go_loopg [8] n (fun gg i wr => ∃ k : Nat, i = .int .i64 k ∧ k + gg = n ∧ Hid (∀ j, j < k → f j ≠ a) ∧ wr = w)
  case atStart => exact ⟨0, rfl, by omega, fun j hj => absurd hj (Nat.not_lt_zero _), rfl⟩
  case round =>
    obtain ⟨k, rfl, hk, hno, rfl⟩ := hrel
    have Hk := (show Hid (k + gk = n) from hk)
    have hkn : k ≤ n := by omega
    clear hk
    by_cases hlt : k < n
    · obtain ⟨b, o, rfl, -, c0⟩ := H.out.2 k hlt
      by_cases hq : a = f k
      · have hd : (a == f k) = true := by simpa using hq
        have Hq := (show Hid (a = f k) from hq)
        clear hq
        go_wp2_with fail
        go_ret
        exact ⟨⟨k, rfl, .inl ⟨by omega, k, hlt, Hq.out.symm⟩⟩, rfl⟩
      · have hd : (a == f k) = false := by simpa using hq
        have Hq := (show Hid (¬ a = f k) from hq)
        clear hq
        go_wp2_with fail
        go_roundg (gk - 1)
        case measure => have := Hk.out; omega
        case rel => exact ⟨k + 1, by go_num, by have := Hk.out; omega, fun j hj => by
                      by_cases e : j = k
                      · subst e; exact fun e => Hq.out e.symm
                      · exact hno.out j (by omega), rfl⟩
    · obtain rfl : k = n := by omega
      go_wp2_with fail
      go_ret
      exact ⟨⟨-1, rfl, .inr ⟨rfl, hno.out⟩⟩, rfl⟩

theorem contains_run (x : Option Addr) (n c : Nat) (l : List Nat) (a : Nat) (w : World) (h : IntsAt w x n (fun k => (l.getD k 0 : Nat))) (hl : l.length = n) :
    Calls Try.prog 81 #[.slice x n c, .int .i64 (a : Nat)] w fun e w' => e = .returned (.bool (decide (a ∈ l))) ∧ w = w' := by
  have HI := (show Hid (Calls Try.prog 86 #[.slice x n c, .int .i64 (a : Nat)] w (IndexPost (fun k => (l.getD k 0 : Nat)) n (a : Nat) w)) from index_run x n c _ (a : Nat) w h)
  clear h
  go_enter Try.func81, Try.ntmps81
  go_wp2_with fail
  refine HI.out.mono ?_
  rintro e w1 ⟨⟨r, rfl, hr⟩, rfl⟩
  rcases hr with ⟨h0, hk⟩ | ⟨rfl, hk⟩
  · have Hk := (show Hid (_) from hk)
    clear hk
    go_wp2_with fail
    go_ret
    refine ⟨?_, rfl⟩
    obtain ⟨k, hk, e⟩ := Hk.out
    have : a ∈ l := by
      have e : l.getD k 0 = a := by omega
      rw [← e, List.getD_eq_getElem?_getD, List.getElem?_eq_getElem (by omega)]
      exact List.getElem_mem _
    simp [this]
  · have Hk := (show Hid (_) from hk)
    clear hk
    go_wp2_with fail
    go_ret
    refine ⟨?_, rfl⟩
    have : a ∉ l := by
      intro hm
      obtain ⟨k, hk, e⟩ := List.getElem_of_mem hm
      refine Hk.out k (by omega) ?_
      rw [List.getD_eq_getElem?_getD, List.getElem?_eq_getElem hk]
      simp [e]
    simp [this]

theorem IntsAt.quiet {w w' : World} {x : Option Addr} {n : Nat} {f : Nat → Int} (h : IntsAt w x n f) (hx : Ext (fun _ => False) w w') : IntsAt w' x n f := h.ext hx fun _ _ _ f => f

theorem has1_run (sb : Nat) (x : Option Addr) (n c : Nat) (l : List Nat) (r : Rc) (w : World) (hs : w.cell? ⟨sb, 0, none⟩ = some (.slice x n c)) (hsl : sb < w.heap.size) (h : IntsAt w x n (fun k => (l.getD k 0 : Nat))) (hl : l.length = n) :
    Calls Try.prog 80 #[.agg #[.string r.dest, .int .i64 (r.st : Nat)], .pointer (some ⟨sb, 0, none⟩)] w fun e w' => e = .returned (.bool (decide (r.st ∈ l))) ∧ Ext (fun _ => False) w w' := by
  have HC := (show Hid (∀ W, Ext (fun _ => False) w W → Calls Try.prog 81 #[.slice x n c, .int .i64 (r.st : Nat)] W fun e w' => e = .returned (.bool (decide (r.st ∈ l))) ∧ W = w') from fun W hW => contains_run x n c l r.st W (h.quiet hW) hl)
  clear h hl
  obtain ⟨d, st⟩ := r
  go_enter Try.func80, Try.ntmps80
  go_wp2_with (go_at_call 81; refine (HC.out _ ((Ext.refl _ _).alloc _)).mono ?_; rintro e w1 ⟨rfl, rfl⟩)
  go_ret
  exact ⟨rfl, (Ext.refl _ _).alloc _⟩

theorem MailAt.cells {w : World} {z : LM} (h : MailAt w z) : w.cell? ⟨z.b, 0, none⟩ = some (.string z.m.id) ∧ w.cell? ⟨z.b, 1, none⟩ = some (.int .i64 z.m.came) ∧ w.cell? ⟨z.b, 2, none⟩ = some z.v ∧ w.cell? ⟨z.b, 3, none⟩ = some (.bool z.m.waits) ∧ w.cell? ⟨z.b, 4, none⟩ = some (.int .i64 z.m.due) := by
  have := h.cell
  simp [World.cell?, this]
theorem MailAt.free {w : World} {z : LM} (h : MailAt w z) (o : Nat) : w.frozen? ⟨z.b, o, none⟩ = false := by
  have := h.cell
  simp [World.frozen?, this]
theorem MailAt.blt {w : World} {z : LM} (h : MailAt w z) : z.b < w.heap.size := heap_lt h.cell
theorem MailAt.rc {w : World} {z : LM} (h : MailAt w z) (k : Nat) (hk : k < z.m.rs.length) : ∃ g cap, z.v = .slice (some ⟨g, 0, none⟩) z.m.rs.length cap ∧ z.v.ownBlock = some g ∧ z.m.rs.length ≤ cap ∧ cap ≤ 9223372036854775807 ∧ g < w.heap.size ∧
    w.cell? ⟨g, k * 2, none⟩ = some (.string z.m.rs[k].dest) ∧ w.cell? ⟨g, k * 2 + 1, none⟩ = some (.int .i64 (z.m.rs[k].st : Nat)) ∧ ∀ o, w.frozen? ⟨g, o, none⟩ = false := by
  have hl := rcsC_length z.m.rs
  obtain ⟨a1, a2⟩ := rcsC_at z.m.rs k hk
  obtain ⟨g, cap, e, h1, h2, h3, h4, h5⟩ := row_at h.row (k * 2) (by omega)
  obtain ⟨g', cap', e', -, -, -, h4', -⟩ := row_at h.row (k * 2 + 1) (by omega)
  have eg : g' = g := by rw [e] at e'; injection e' with e1 _ _; injection e1 with e1; injection e1 with e1; exact e1.symm
  subst eg
  refine ⟨g', cap, e, by rw [e]; rfl, h1, h2, h3, ?_, ?_, fun o => ?_⟩
  · rw [h4, ← a1, List.getElem?_eq_getElem (by omega)]
  · rw [h4', ← a2, List.getElem?_eq_getElem (by omega)]
  · obtain ⟨cur, hc⟩ := row_type h.row g' (by rw [e]; rfl)
    simp [World.frozen?, hc]

theorem MailAt.quiet {w w' : World} {z : LM} (h : MailAt w z) (hx : Ext (fun _ => False) w w') : MailAt w' z :=
  h.same (hx.block _ h.blt fun f => f) fun g hg => hx.block g (row_lt h.row g hg) fun f => f

theorem any_iff (rs : List Rc) (q : Rc → Bool) (p : Nat → Bool) (hp : ∀ k (hk : k < rs.length), p k = q rs[k]) : (rs.any q = true ↔ ∃ k, k < rs.length ∧ p k = true) := by
  rw [List.any_eq_true]
  constructor
  · rintro ⟨r, hr, hq⟩
    obtain ⟨k, hk, rfl⟩ := List.getElem_of_mem hr
    exact ⟨k, hk, by rw [hp k hk]; exact hq⟩
  · rintro ⟨k, hk, h⟩
    exact ⟨rs[k], List.getElem_mem hk, by rw [← hp k hk]; exact h⟩

theorem has_run (z : LM) (x : Option Addr) (n c : Nat) (l : List Nat) (w : World) (hz : MailAt w z) (h : IntsAt w x n (fun k => (l.getD k 0 : Nat))) (hl : l.length = n) :
    Calls Try.prog 63 #[.pointer (some ⟨z.b, 0, none⟩), .slice x n c] w fun e w' => e = .returned (.bool (hasIn l z.m.rs)) ∧ Ext (fun _ => False) w w' := by
  obtain ⟨y, cap, hv, hy1, hy2⟩ := row_shape hz.row
  have hcl := hz.cells
  obtain ⟨c0, c1, c2, c3, c4⟩ := hcl
  rw [hv] at c2
  have hp : ∀ k (hk : k < z.m.rs.length), (fun k => decide ((z.m.rs.getD k ⟨ByteArray.empty, 0⟩).st ∈ l)) k = (fun r : Rc => decide (r.st ∈ l)) z.m.rs[k] := fun k hk => by
    simp [List.getD_eq_getElem?_getD, hk]
  have hbl := hz.blt
  have HC : Hid (Calls Try.prog 55 #[.slice y z.m.rs.length cap, .func (.func 80) #[] #[.pointer (some ⟨w.heap.size, 0, none⟩)]] (w.alloc (.cells #[.slice x n c] 30)) (CoPost (fun k => decide ((z.m.rs.getD k ⟨ByteArray.empty, 0⟩).st ∈ l)) z.m.rs.length fun _ W => Ext (fun _ => False) (w.alloc (.cells #[.slice x n c] 30)) W)) := by
    show Calls _ _ _ _ _
    have hxa : Ext (fun _ => False) w (w.alloc (.cells #[.slice x n c] 30)) := (Ext.refl _ _).alloc _
    refine co55 80 #[.pointer (some ⟨w.heap.size, 0, none⟩)] (enters_of Try.func80 (by kernel_rfl) rfl) y z.m.rs.length cap (fun k => .string (z.m.rs.getD k ⟨ByteArray.empty, 0⟩).dest) (fun k => .int .i64 ((z.m.rs.getD k ⟨ByteArray.empty, 0⟩).st : Nat)) _ _ _ (by omega) (Ext.refl _ _) (fun k W hk hW => ?_) (fun k W hk hW => ?_)
    · obtain ⟨g, cap', e, -, -, -, -, h1, h2, -⟩ := (hz.quiet (hxa.trans hW)).rc k hk
      rw [hv] at e
      injection e with e1 e2 e3
      refine ⟨g, 0, e1, ?_, ?_⟩
      · simpa [List.getD_eq_getElem?_getD, hk] using h1
      · simpa [List.getD_eq_getElem?_getD, hk] using h2
    · have hb : W.cell? ⟨w.heap.size, 0, none⟩ = some (.slice x n c) := by
        have e := (MapKept.heap_alloc w (.cells #[.slice x n c] 30)).1
        have := hW.block w.heap.size (by simp) fun f => f
        rw [e] at this
        simp [World.cell?, this]
      refine (has1_run w.heap.size x n c l (z.m.rs.getD k ⟨ByteArray.empty, 0⟩) W hb ?_ (h.quiet (hxa.trans hW)) hl).mono ?_
      · have := hW.size; simp at this; omega
      · rintro e W' ⟨rfl, hx⟩
        exact ⟨rfl, hW.trans hx⟩
  have Hp := (show Hid (∀ k (hk : k < z.m.rs.length), (fun k => decide ((z.m.rs.getD k ⟨ByteArray.empty, 0⟩).st ∈ l)) k = (fun r : Rc => decide (r.st ∈ l)) z.m.rs[k]) from hp)
  clear hp h hl hz
  go_enter Try.func63, Try.ntmps63
  go_wp2_with (go_at_call 55; refine HC.out.mono ?_; rintro e w1 ⟨b, rfl, hb, m, hx⟩)
  go_ret
  refine ⟨?_, ((Ext.refl _ _).alloc _).trans hx⟩
  have := (any_iff z.m.rs (fun r : Rc => decide (r.st ∈ l)) _ Hp.out)
  have e : b = hasIn l z.m.rs := by
    rw [Bool.eq_iff_iff, hb]
    exact this.symm
  rw [e]
  rfl
end Go.Proofs.Ytnakafmlenngnaa.Qm
