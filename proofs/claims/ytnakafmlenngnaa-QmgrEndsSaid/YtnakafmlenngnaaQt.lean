/- Next: its closures, and what its loops keep. -/
import Derived.Test.YtnakafmlenngnaaQad2
namespace Go.Proofs.Ytnakafmlenngnaa.Qm
open Go.RowKit Go.Proofs.Ytnakafmlenngnaa.Wi

set_option maxHeartbeats 1000000 in
theorem goes1_run (db zb : Nat) (n : ByteArray) (r : Rc) (w : World) (h1 : w.cell? ⟨db, 0, none⟩ = some (.pointer (some ⟨zb, 0, none⟩))) (h2 : w.cell? ⟨zb, 0, none⟩ = some (.string n)) :
    Calls Try.prog 52 #[.agg #[.string r.dest, .int .i64 (r.st : Nat)], .pointer (some ⟨db, 0, none⟩)] w (QuietPost (.bool (goes n r)) w) := by
  obtain ⟨d, st⟩ := r
  have l1 : db < w.heap.size := by
    rcases Nat.lt_or_ge db w.heap.size with f | f
    · exact f
    · simp [World.cell?, Array.getElem?_eq_none f] at h1
  have l2 : zb < w.heap.size := by
    rcases Nat.lt_or_ge zb w.heap.size with f | f
    · exact f
    · simp [World.cell?, Array.getElem?_eq_none f] at h2
  unfold goes
  dsimp only
  by_cases hs : st = 1
  · have hd : ((st : Int) == 1) = true := by simp [hs]
    have e : (decide (st = 1) && decide (d = n)) = (d.toList == n.toList) := by rw [tl_beq]; simp [hs]
    rw [e]
    clear hs e
    go_enter Try.func52, Try.ntmps52
    go_wp2_with fail
    go_quiet (fail)
    go_wp2_with fail
    go_ret
    exact ⟨rfl, ((Ext.refl _ _).alloc _).drewN _⟩
  · have hd : ((st : Int) == 1) = false := by simp; omega
    have e : (decide (st = 1) && decide (d = n)) = false := by simp [hs]
    rw [e]
    clear hs e
    go_enter Try.func52, Try.ntmps52
    go_wp2_with fail
    go_quiet (fail)
    go_wp2_with fail
    go_ret
    exact ⟨rfl, ((Ext.refl _ _).alloc _).drewN _⟩

/-- The boxes of a round of Next: the destination's, and the closure's. -/
structure Boxes (w : World) (db tb zb : Nat) (n : ByteArray) : Prop where
  d : w.heap[db]? = some (.cells #[.pointer (some ⟨zb, 0, none⟩)] 99 (0, 0))
  t : w.heap[tb]? = some (.cells #[.func (.func 52) #[] #[.pointer (some ⟨db, 0, none⟩)]] 102 (0, 0))
  n : ∃ a b, w.heap[zb]? = some (.cells #[.string n, a, b] 101 (0, 0))

theorem Boxes.ext {w w' : World} {db tb zb : Nat} {n : ByteArray} {F : Nat → Prop} (h : Boxes w db tb zb n) (hx : Ext F w w') (h1 : ¬ F db) (h2 : ¬ F tb) (h3 : ¬ F zb) : Boxes w' db tb zb n :=
  ⟨(hx.block _ (heap_lt h.d) h1).trans h.d, (hx.block _ (heap_lt h.t) h2).trans h.t, by
    obtain ⟨a, b, e⟩ := h.n
    exact ⟨a, b, (hx.block _ (heap_lt e) h3).trans e⟩⟩
theorem Boxes.quiet {w w' : World} {db tb zb : Nat} {n : ByteArray} (h : Boxes w db tb zb n) (hx : Ext (fun _ => False) w w') : Boxes w' db tb zb n := h.ext hx (fun f => f) (fun f => f) (fun f => f)
theorem Boxes.cells {w : World} {db tb zb : Nat} {n : ByteArray} (h : Boxes w db tb zb n) : w.cell? ⟨db, 0, none⟩ = some (.pointer (some ⟨zb, 0, none⟩)) ∧ w.cell? ⟨tb, 0, none⟩ = some (.func (.func 52) #[] #[.pointer (some ⟨db, 0, none⟩)]) := by
  have h1 := h.d
  have h2 := h.t
  simp [World.cell?, h1, h2]

theorem Boxes.goes {w : World} {db tb zb : Nat} {n : ByteArray} (h : Boxes w db tb zb n) (r : Rc) :
    Calls Try.prog 52 #[.agg #[.string r.dest, .int .i64 (r.st : Nat)], .pointer (some ⟨db, 0, none⟩)] w (QuietPost (.bool (goes n r)) w) := by
  obtain ⟨a, b, e⟩ := h.n
  exact goes1_run db zb n r w h.cells.1 (by simp [World.cell?, e])

theorem goes_any (z : LM) (db tb zb : Nat) (n : ByteArray) (y : Option Addr) (cap : Nat) (hv : z.v = .slice y z.m.rs.length cap) (w : World) (hz : MailAt w z) (hB : Boxes w db tb zb n) :
    Calls Try.prog 55 #[.slice y z.m.rs.length cap, .func (.func 52) #[] #[.pointer (some ⟨db, 0, none⟩)]] w (QuietPost (.bool (z.m.rs.any (goes n))) w) := by
  obtain ⟨y', cap', hv', hy1, hy2⟩ := row_shape hz.row
  rw [hv] at hv'
  injection hv' with e1 e2 e3
  subst e1
  subst e3
  have hp : ∀ k (hk : k < z.m.rs.length), (fun k => goes n (z.m.rs.getD k ⟨ByteArray.empty, 0⟩)) k = goes n z.m.rs[k] := fun k hk => by simp [List.getD_eq_getElem?_getD, hk]
  refine (co55 52 #[.pointer (some ⟨db, 0, none⟩)] (enters_of Try.func52 (by kernel_rfl) rfl) y z.m.rs.length cap (fun k => .string (z.m.rs.getD k ⟨ByteArray.empty, 0⟩).dest) (fun k => .int .i64 ((z.m.rs.getD k ⟨ByteArray.empty, 0⟩).st : Nat)) (fun k => goes n (z.m.rs.getD k ⟨ByteArray.empty, 0⟩)) (fun _ W => Ext (fun _ => False) w W) w (by omega) (Ext.refl _ _) (fun k W hk hW => ?_) (fun k W hk hW => ?_)).mono ?_
  · obtain ⟨g, cap', e, -, -, -, -, h1, h2, -⟩ := (hz.quiet hW).rc k hk
    rw [hv] at e
    injection e with e1 e2 e3
    refine ⟨g, 0, e1, ?_, ?_⟩
    · simpa [List.getD_eq_getElem?_getD, hk] using h1
    · simpa [List.getD_eq_getElem?_getD, hk] using h2
  · refine ((hB.quiet hW).goes (z.m.rs.getD k ⟨ByteArray.empty, 0⟩)).mono ?_
    rintro e W' ⟨rfl, hx⟩
    exact ⟨rfl, hW.trans hx⟩
  · rintro e w' ⟨b, rfl, hb, m, hx⟩
    refine ⟨?_, hx⟩
    have : b = z.m.rs.any (Qm.goes n) := by
      rw [Bool.eq_iff_iff, hb]
      exact (anyp z.m.rs (Qm.goes n) _ hp).symm
    rw [this]

theorem hold3 {w W W' : World} {b tb : Nat} {v1 v2 v3 : Value} (h : W.cell? ⟨b, 3, none⟩ = some v1 ∧ W.cell? ⟨b, 2, none⟩ = some v2 ∧ W.cell? ⟨tb, 0, none⟩ = some v3 ∧ Ext (fun _ => False) w W) (hb : b < w.heap.size) (ht : tb < w.heap.size) (hx : Ext (fun _ => False) W W') :
    W'.cell? ⟨b, 3, none⟩ = some v1 ∧ W'.cell? ⟨b, 2, none⟩ = some v2 ∧ W'.cell? ⟨tb, 0, none⟩ = some v3 ∧ Ext (fun _ => False) w W' := by
  obtain ⟨h1, h2, h3, h4⟩ := h
  exact ⟨(hx.cell (Nat.lt_of_lt_of_le hb h4.size) (fun f => f) _).trans h1, (hx.cell (Nat.lt_of_lt_of_le hb h4.size) (fun f => f) _).trans h2, (hx.cell (Nat.lt_of_lt_of_le ht h4.size) (fun f => f) _).trans h3, h4.trans hx⟩

set_option maxHeartbeats 1000000 in
theorem serves1_run (z : LM) (db tb zb : Nat) (n : ByteArray) (w : World) (hz : MailAt w z) (hB : Boxes w db tb zb n) :
    Calls Try.prog 54 #[.pointer (some ⟨z.b, 0, none⟩), .pointer (some ⟨tb, 0, none⟩)] w (QuietPost (.bool (serves n z.m)) w) := by
  obtain ⟨y, cap, hv, hy1, hy2⟩ := row_shape hz.row
  obtain ⟨-, -, c2, c3, -⟩ := hz.cells
  rw [hv] at c2
  obtain ⟨-, t0⟩ := hB.cells
  have HG := (show Hid (∀ W, Ext (fun _ => False) w W → Calls Try.prog 55 #[.slice y z.m.rs.length cap, .func (.func 52) #[] #[.pointer (some ⟨db, 0, none⟩)]] W (QuietPost (.bool (z.m.rs.any (goes n))) W)) from fun W hW => goes_any z db tb zb n y cap hv W (hz.quiet hW) (hB.quiet hW))
  have hbl := hz.blt
  have htl := heap_lt hB.t
  unfold serves
  cases hw : z.m.waits with
  | true =>
    rw [hw] at c3
    generalize z.b = b at c2 c3 hbl ⊢
    clear hz hB hv HG hw
    go_enter Try.func54, Try.ntmps54
    go_wp2_with fail
    go_quiet (fail)
    go_wp2_with fail
    go_ret
    exact ⟨rfl, (Ext.refl _ _).drewN _⟩
  | false =>
    rw [hw] at c3
    generalize z.b = b at c2 c3 hbl ⊢
    generalize z.m.rs.length = len at c2 HG
    generalize z.m.rs.any (goes n) = ans at HG ⊢
    clear hz hB hv hw
    go_enter Try.func54, Try.ntmps54
    go_wp2_with fail
    have hS0 : w.drew.cell? ⟨b, 3, none⟩ = some (.bool false) ∧ w.drew.cell? ⟨b, 2, none⟩ = some (.slice y len cap) ∧ w.drew.cell? ⟨tb, 0, none⟩ = some (.func (.func 52) #[] #[.pointer (some ⟨db, 0, none⟩)]) ∧ Ext (fun _ => False) w w.drew := ⟨c3, c2, t0, (Ext.refl _ _).drew⟩
    go_region_held3 (fun w' => w'.cell? ⟨b, 3, none⟩ = some (.bool false) ∧ w'.cell? ⟨b, 2, none⟩ = some (.slice y len cap) ∧ w'.cell? ⟨tb, 0, none⟩ = some (.func (.func 52) #[] #[.pointer (some ⟨db, 0, none⟩)]) ∧ Ext (fun _ => False) w w') (assumption)
      ((go_at_call 55; refine (HG.out _ ?_).mono ?_; (apply And.right; apply And.right; apply And.right; assumption); rintro e w1 ⟨rfl, hx1⟩; have hs' := hold3 (by assumption) hbl htl hx1))
    go_wp2_with fail
    go_ret
    exact ⟨rfl, hs'.2.2.2⟩

theorem q_sIdx (L : Lq) (n : ByteArray) : sIdx L.q.ms n = L.ms.findIdx fun z => serves n z.m := by
  unfold sIdx Lq.q
  rw [List.findIdx_map]
  rfl

/-- Which message is served. -/
theorem serve_idx (mb : Nat) (L : Lq) (F : Nat → Prop) (db tb zb : Nat) (n : ByteArray) (y : Option Addr) (cap : Nat) (hv : L.mv = .slice y L.ms.length cap) (w : World) (h : Mg w mb L F) (hB : Boxes w db tb zb n) :
    Calls Try.prog 53 #[.slice y L.ms.length cap, .func (.func 54) #[] #[.pointer (some ⟨tb, 0, none⟩)]] w fun e w' => (∃ r : Int, e = .returned (.int .i64 r) ∧ ((sIdx L.q.ms n < L.ms.length ∧ r = (sIdx L.q.ms n : Nat)) ∨ (r = -1 ∧ ¬ sIdx L.q.ms n < L.ms.length))) ∧ Ext (fun _ => False) w w' := by
  rw [q_sIdx]
  obtain ⟨y', cap', hv', hy1, hy2⟩ := row_shape h.mrow
  have hle : L.ms.length ≤ 9223372036854775807 := by omega
  refine (ix53 54 #[.pointer (some ⟨tb, 0, none⟩)] (enters_of Try.func54 (by kernel_rfl) rfl) y L.ms.length cap (fun k => foundV L k) (fun k => (((L.ms[k]?).map fun z => serves n z.m)).getD false) (fun _ W => Ext (fun _ => False) w W) w hle (Ext.refl _ _) (fun k W hk hW => ?_) (fun k W hk hW => ?_)).mono ?_
  · obtain ⟨g, cap', e, -, -, -, h1, -⟩ := (h.quiet hW).mail_at k hk
    rw [hv] at e
    injection e with e1 e2 e3
    exact ⟨g, 0, e1, by rw [Nat.zero_add, h1]; simp [mPtr, foundV, hk]⟩
  · have e : foundV L k = .pointer (some ⟨L.ms[k].b, 0, none⟩) := by simp [foundV, hk]
    rw [e]
    refine (serves1_run L.ms[k] db tb zb n W ((h.quiet hW).mails _ (List.getElem_mem hk)) (hB.quiet hW)).mono ?_
    rintro e W' ⟨rfl, hx⟩
    exact ⟨by simp [hk], hW.trans hx⟩
  · intro e w' hix
    obtain ⟨r, rfl, hr, m, hx⟩ := ix_find L.ms (fun z => serves n z.m) _ (fun k hk => by simp [hk]) hix
    exact ⟨⟨r, rfl, hr⟩, hx⟩
end Go.Proofs.Ytnakafmlenngnaa.Qm
