/- The rows that a law holds beside a manager of its own. -/
import Derived.Test.YtnakafmlenngnaaQww
import Derived.Test.YtnakafmlenngnaaQot
import Derived.Test.YtnakafmlenngnaaQst
namespace Go.Proofs.Ytnakafmlenngnaa.Qm
open Go.RowKit Go.Proofs.Ytnakafmlenngnaa.Wi

theorem wpList_append_run {P : Program} {ops : Array Oper} {rest : List Oper} {o : Oper} {a : Act} {w : World} {Q : Exit → Act → World → Prop} (hgd : o.guard = none) (s x : Operand) (t : TypeId)
    (ho : o.op = .call { callee := .builtin .append, args := #[s, x], argTypes := #[t, t] }) (v u r : Value) (w' : World) (hs : a.eval s = v) (hx : a.eval x = u) (hrun : (Builtin.append_ #[t, t] o.type #[v, u]).run P w = .ok r w')
    (h : wpList P ops Q rest (a.put o.dst r) w') : wpList P ops Q (o :: rest) a w := by
  refine wpList_plain hgd fun K hK => ?_
  unfold Oper.wp execOp
  simp only [ho, resolve, invoke, builtin, Sem.run_bind, Sem.run_pure, Result.andThen_ok, List.map_toArray, List.map_cons, List.map_nil, hs, hx, hrun]
  exact hK _ _ h

structure Row where
  e : Nat
  s : Nat
  v : Value
  n : Nat
  xs : List Value
structure Rows_ (w wr : World) (F : Nat → Prop) (l : List Row) : Prop where
  lie : ∀ r ∈ l, wr.ownsRow w.heap.size r.e r.s r.v r.n r.xs
  off : ∀ r ∈ l, ∀ g, r.v.ownBlock = some g → ¬ F g
  sep : l.Pairwise fun a b => ∀ g, a.v.ownBlock = some g → b.v.ownBlock ≠ some g

section
variable {w wr W : World} {F F' : Nat → Prop} {l : List Row} {r r' : Row}
theorem Rows_.nil (w wr : World) (F : Nat → Prop) : Rows_ w wr F [] := ⟨by simp, by simp, by simp⟩
theorem Rows_.call (h : Rows_ w wr F l) (hx : Ext F wr W) (hg : Grow F wr W F') : Rows_ w W F' l where
  lie r hr := row_keep (h.lie r hr) fun g hg => hx.block g (row_lt (h.lie r hr) g hg) (h.off r hr g hg)
  off r hr g hb f := by
    rcases hg g f with q | q
    · exact h.off r hr g hb q
    · have := row_lt (h.lie r hr) g hb; omega
  sep := h.sep
theorem Rows_.quiet (h : Rows_ w wr F l) (hx : Ext (fun _ => False) wr W) : Rows_ w W F l :=
  ⟨fun r hr => row_keep (h.lie r hr) fun g hg => hx.block g (row_lt (h.lie r hr) g hg) fun f => f, h.off, h.sep⟩
theorem Rows_.perm {l' : List Row} (h : Rows_ w wr F l) (hp : l.Perm l') : Rows_ w wr F l' :=
  ⟨fun r hr => h.lie r (hp.mem_iff.2 hr), fun r hr => h.off r (hp.mem_iff.2 hr), (hp.pairwise_iff fun h g h1 h2 => h g h2 h1).1 h.sep⟩
theorem Rows_.tail (h : Rows_ w wr F (r :: l)) : Rows_ w wr F l :=
  ⟨fun x hx => h.lie x (List.mem_cons_of_mem _ hx), fun x hx => h.off x (List.mem_cons_of_mem _ hx), (List.pairwise_cons.1 h.sep).2⟩
theorem Rows_.head (h : Rows_ w wr F (r :: l)) : wr.ownsRow w.heap.size r.e r.s r.v r.n r.xs := h.lie r (List.mem_cons_self ..)
/-- A slice that is nil is a row, too. -/
theorem Rows_.empty (h : Rows_ w wr F l) (e s : Nat) : Rows_ w wr F (⟨e, s, .slice none 0 0, 0, []⟩ :: l) := by
  refine ⟨fun x hx => ?_, fun x hx g hg => ?_, List.pairwise_cons.2 ⟨fun b _ g hg => (by cases hg), h.sep⟩⟩
  · rcases List.mem_cons.1 hx with rfl | f
    · exact ⟨by simp, .inl ⟨rfl, rfl⟩⟩
    · exact h.lie x f
  · rcases List.mem_cons.1 hx with rfl | f
    · cases hg
    · exact h.off x f g hg
/-- A new row, its block as yet nobody's. -/
theorem Rows_.push (h : Rows_ w wr F l) (hr : wr.ownsRow w.heap.size r.e r.s r.v r.n r.xs) (ho : ∀ g, r.v.ownBlock = some g → ¬ F g ∧ ∀ x ∈ l, x.v.ownBlock ≠ some g) : Rows_ w wr F (r :: l) := by
  refine ⟨fun x hx => ?_, fun x hx g hg => ?_, List.pairwise_cons.2 ⟨fun b hb g hg => (ho g hg).2 b hb, h.sep⟩⟩
  · rcases List.mem_cons.1 hx with rfl | f
    · exact hr
    · exact h.lie x f
  · rcases List.mem_cons.1 hx with rfl | f
    · exact (ho g hg).1
    · exact h.off x f g hg
/-- The first row turned, at its block or at a new one. -/
theorem Rows_.turn (h : Rows_ w wr F (r :: l)) (hr : W.ownsRow w.heap.size r'.e r'.s r'.v r'.n r'.xs) (hlt : ∀ k, F k → k < wr.heap.size) (hb : r'.v.ownBlock = r.v.ownBlock ∨ ∀ g, r'.v.ownBlock = some g → wr.heap.size ≤ g)
    (hx : ∀ k, k < wr.heap.size → r.v.ownBlock ≠ some k → W.heap[k]? = wr.heap[k]?) : Rows_ w W F (r' :: l) := by
  have hs := List.pairwise_cons.1 h.sep
  have ht : Rows_ w W F l := ⟨fun x hx' => row_keep (h.lie x (List.mem_cons_of_mem _ hx')) fun g hg => hx g (row_lt (h.lie x (List.mem_cons_of_mem _ hx')) g hg) fun e => hs.1 x hx' g e hg, fun x hx' => h.off x (List.mem_cons_of_mem _ hx'), hs.2⟩
  refine ht.push hr fun g hg => ?_
  rcases hb with e | e
  · rw [e] at hg
    exact ⟨h.off r (List.mem_cons_self ..) g hg, fun x hx' e2 => hs.1 x hx' g hg e2⟩
  · have := e g hg
    exact ⟨fun f => by have := hlt g f; omega, fun x hx' e2 => by have := row_lt (h.lie x (List.mem_cons_of_mem _ hx')) g e2; omega⟩
end

/-- A manager of the law's own that stands as q, and its rows. -/
def HasR (w wr : World) (mb : Nat) (q : Qs) (l : List Row) : Prop :=
  ∃ L F, Mg wr mb L F ∧ L.q = q ∧ (∀ k, F k → w.heap.size ≤ k) ∧ Ext (fun _ => False) w wr ∧ Rows_ w wr F l

section
variable {w wr W : World} {mb : Nat} {q : Qs} {l : List Row} {r : Row}
theorem HasR.has (h : HasR w wr mb q l) : Has w wr mb q := by
  obtain ⟨L, F, h1, h2, h3, h4, -⟩ := h
  exact ⟨L, F, h1, h2, h3, h4⟩
theorem HasR.ext (h : HasR w wr mb q l) : Ext (fun _ => False) w wr := by
  obtain ⟨_, _, -, -, -, h, -⟩ := h
  exact h
theorem HasR.quiet (h : HasR w wr mb q l) (hx : Ext (fun _ => False) wr W) : HasR w W mb q l := by
  obtain ⟨L, F, h1, h2, h3, h4, h5⟩ := h
  exact ⟨L, F, h1.quiet hx, h2, h3, h4.trans hx, h5.quiet hx⟩
theorem HasR.perm {l' : List Row} (h : HasR w wr mb q l) (hp : l.Perm l') : HasR w wr mb q l' := by
  obtain ⟨L, F, h1, h2, h3, h4, h5⟩ := h
  exact ⟨L, F, h1, h2, h3, h4, h5.perm hp⟩
theorem HasR.tail (h : HasR w wr mb q (r :: l)) : HasR w wr mb q l := by
  obtain ⟨L, F, h1, h2, h3, h4, h5⟩ := h
  exact ⟨L, F, h1, h2, h3, h4, h5.tail⟩
theorem HasR.empty (h : HasR w wr mb q l) (e s : Nat) : HasR w wr mb q (⟨e, s, .slice none 0 0, 0, []⟩ :: l) := by
  obtain ⟨L, F, h1, h2, h3, h4, h5⟩ := h
  exact ⟨L, F, h1, h2, h3, h4, h5.empty e s⟩
theorem HasR.row (h : HasR w wr mb q l) {r : Row} (hr : r ∈ l) : wr.ownsRow w.heap.size r.e r.s r.v r.n r.xs := by
  obtain ⟨L, F, h1, h2, h3, h4, h5⟩ := h
  exact h5.lie r hr
/-- What a call of the manager leaves. -/
theorem HasR.step {q' : Qs} (h : HasR w wr mb q l) (hs : ∀ L F, Mg wr mb L F → L.q = q → StepPost mb F q' wr W) : HasR w W mb q' l := by
  obtain ⟨L, F, h1, h2, h3, h4, h5⟩ := h
  obtain ⟨L', F', k1, k2, k3, k4⟩ := hs L F h1 h2
  exact ⟨L', F', k1, k4, own_grow h3 h4.size k2, own_ext h3 h4 k3, h5.call k3 k2⟩

theorem HasR.add (h : HasR w wr mb q l) {x : Option Addr} {D : List ByteArray} (hD : StrsAt w x D) (id : ByteArray) (came now : Int) (c : Nat) (h1 : q.ms.length ≤ 50000) (h2 : q.ds.length ≤ 50000) :
    Calls Try.prog 28 #[.pointer (some ⟨mb, 0, none⟩), .string id, .int .i64 came, .slice x D.length c, .int .i64 now] wr fun e w' => e = .returned (.int .i64 (add q id came D now).1) ∧ HasR w w' mb (add q id came D now).2 l := by
  obtain ⟨L, F, hM, rfl, h3, h4, h5⟩ := h
  simp only [Lq.q, List.length_map] at h1 h2
  have hlt : ∀ b o, x = some ⟨b, o, none⟩ → 0 < D.length → b < w.heap.size := fun b o e hp => by
    obtain ⟨b', o', e', hb, -⟩ := hD.2 0 hp
    rw [e] at e'
    injection e' with e'
    injection e' with e'
    subst e'
    exact hb
  by_cases hp : 0 < D.length
  · refine (add_run mb L F id came now x D c wr hM h1 h2 (hD.ext h4 fun _ _ _ f => f) (fun b o e f => ?_)).mono ?_
    · have := hlt b o e hp
      have := h3 b f
      omega
    · rintro e w' ⟨rfl, L', F', k1, k2, k3, k4⟩
      exact ⟨rfl, L', F', k1, k4, own_grow h3 h4.size k2, own_ext h3 h4 k3, h5.call k3 k2⟩
  · have hb : addOk id came D now = false := by
      cases ho : addOk id came D now with
      | false => rfl
      | true => exact absurd (addOk_true ho).2.2.2.1 (by omega)
    refine (add_bad_run (.pointer (some ⟨mb, 0, none⟩)) id came now x D c wr (hD.ext h4 fun _ _ _ f => f) hb).mono ?_
    rintro e w' ⟨rfl, hx⟩
    have e1 : Qm.add L.q id came D now = (1, L.q) := by unfold Qm.add; rw [hb]; rfl
    rw [e1]
    exact ⟨rfl, L, F, hM.quiet hx, rfl, h3, h4.trans hx, h5.quiet hx⟩

/-- A job's row. -/
def jRow (v : Value) (j : Jb) : Row := ⟨3, 1, v, j.rs.length, intsC j.rs⟩
theorem HasR.next (h : HasR w wr mb q l) (h1 : q.ms.length ≤ 50000) (h2 : q.ds.length ≤ 50000) (h3 : q.jobs.length ≤ 50000) :
    Calls Try.prog 29 #[.pointer (some ⟨mb, 0, none⟩)] wr fun e w' =>
      (Qm.next q = none ∧ e = .returned (.tuple #[.agg #[.string ByteArray.empty, .string ByteArray.empty, .slice none 0 0], .bool false]) ∧ HasR w w' mb q l) ∨
      ∃ j q' x c, Qm.next q = some (j, q') ∧ e = .returned (.tuple #[.agg #[.string j.id, .string j.dest, .slice x j.rs.length c], .bool true]) ∧ j.rs.length ≤ c ∧ c ≤ 9223372036854775807 ∧ HasR w w' mb q' (jRow (.slice x j.rs.length c) j :: l) := by
  obtain ⟨L, F, hM, rfl, k3, k4, k5⟩ := h
  simp only [Lq.q, List.length_map] at h1 h2 h3
  refine (next_run mb L F wr hM h1 h2 h3).mono ?_
  rintro e w' (⟨g1, rfl, L', F', g2, g3, g4, g5⟩ | ⟨j, q', v, g1, rfl, L', F', g2, g3, g4, g5, g6, g7⟩)
  · exact .inl ⟨g1, rfl, L', F', g2, g5, own_grow k3 k4.size g3, own_ext k3 k4 g4, k5.call g4 g3⟩
  · obtain ⟨x, c, rfl, y1, y2⟩ := row_shape g6
    refine .inr ⟨j, q', x, c, g1, rfl, y1, y2, L', F', g2, g5, own_grow k3 k4.size g3, own_ext k3 k4 g4, (k5.call g4 g3).push ?_ fun g hg => ⟨g7 g hg, fun r hr e => ?_⟩⟩
    · exact row_lower g6 _ k4.size
    · have i1 := row_lt (k5.lie r hr) g e
      rcases g6.2 with ⟨e2, -⟩ | ⟨g', cap, cur, e2, hb, -⟩
      · rw [e2] at hg; cases hg
      · rw [e2] at hg
        injection hg with hg
        change g' = g at hg
        omega

theorem ints_of_row {w : World} {base : Nat} {v : Value} {l : List Nat} (h : w.ownsRow base 3 1 v l.length (intsC l)) {x : Option Addr} {c : Nat} (e : v = .slice x l.length c) : IntsL w x l := by
  obtain ⟨x', c', e', hi, -⟩ := row_ints h
  rw [e] at e'
  injection e' with e1 _ _
  rw [e1]
  exact hi

theorem HasR.done (h : HasR w wr mb q l) {j : Jb} {x : Option Addr} {c : Nat} (hj : jRow (.slice x j.rs.length c) j ∈ l) {rx : Option Addr} {res : List Int} (hr : ResL w rx res) (rc : Nat) (g : Bool) (now : Int) (h1 : q.ms.length ≤ 50000) (h2 : q.ds.length ≤ 50000) (hfit : JobFits q j) (hne : j.rs ≠ []) :
    Calls Try.prog 30 #[.pointer (some ⟨mb, 0, none⟩), .agg #[.string j.id, .string j.dest, .slice x j.rs.length c], .slice rx res.length rc, .bool g, .int .i64 now] wr fun e w' => e = .returned (.int .i64 (Qm.done q j res g now).1) ∧ HasR w w' mb (Qm.done q j res g now).2 l := by
  have hrow := h.row hj
  obtain ⟨L, F, hM, rfl, k3, k4, k5⟩ := h
  simp only [Lq.q, List.length_map] at h1 h2
  have hi := ints_of_row hrow rfl
  have hyF : ∀ b o, x = some ⟨b, o, none⟩ → ¬ F b := fun b o e => k5.off _ hj b (by rw [e]; rfl)
  by_cases hp : 0 < res.length
  · refine (done_run mb L F j x c rx rc res g now wr hM h1 h2 hi hyF (IntsAt.ext hr k4 fun _ _ _ f => f) (fun b o e f => ?_) hfit).mono ?_
    · obtain ⟨b', o', e', hb, -⟩ := hr.2 0 hp
      rw [e] at e'
      injection e' with e'
      injection e' with e'
      subst e'
      have := k3 b f
      omega
    · rintro e w' ⟨rfl, L', F', g1, g2, g3, g4⟩
      exact ⟨rfl, L', F', g1, g4, own_grow k3 k4.size g2, own_ext k3 k4 g3, k5.call g3 g2⟩
  · have hb : doneOk j res now = false := by
      have hl : decide (res.length = j.rs.length) = false := decide_eq_false fun e => hne (List.length_eq_zero_iff.1 (by omega))
      unfold doneOk
      rw [hl]; simp
    refine (done_bad_run (.pointer (some ⟨mb, 0, none⟩)) j x c rx rc res g now wr (IntsAt.ext hr k4 fun _ _ _ f => f) hb).mono ?_
    rintro e w' ⟨rfl, hx⟩
    have e1 : Qm.done L.q j res g now = (1, L.q) := by unfold Qm.done; rw [hb]; rfl
    rw [e1]
    exact ⟨rfl, L, F, hM.quiet hx, rfl, k3, k4.trans hx, k5.quiet hx⟩

theorem HasR.again (h : HasR w wr mb q l) (id : ByteArray) (now : Int) (h1 : q.ms.length ≤ 50000) (h2 : q.ds.length ≤ 50000) (h3 : ∀ m ∈ q.ms, m.rs.length ≤ 200) :
    Calls Try.prog 36 #[.pointer (some ⟨mb, 0, none⟩), .string id, .int .i64 now] wr fun e w' => e = .returned (.int .i64 (Qm.again q id now).1) ∧ HasR w w' mb (Qm.again q id now).2 l := by
  obtain ⟨L, F, hM, rfl, k3, k4, k5⟩ := h
  simp only [Lq.q, List.length_map] at h1 h2
  refine (again_run mb L F id now wr hM h1 h2 h3).mono ?_
  rintro e w' ⟨rfl, L', F', g1, g2, g3, g4⟩
  exact ⟨rfl, L', F', g1, g4, own_grow k3 k4.size g2, own_ext k3 k4 g3, k5.call g3 g2⟩
theorem HasR.drop (h : HasR w wr mb q l) (id : ByteArray) :
    Calls Try.prog 37 #[.pointer (some ⟨mb, 0, none⟩), .string id] wr fun e w' => e = .returned (.int .i64 (Qm.drop q id).1) ∧ HasR w w' mb (Qm.drop q id).2 l := by
  obtain ⟨L, F, hM, rfl, k3, k4, k5⟩ := h
  refine (drop_run mb L F id wr hM).mono ?_
  rintro e w' ⟨rfl, L', F', g1, g2, g3, g4⟩
  exact ⟨rfl, L', F', g1, g4, own_grow k3 k4.size g2, own_ext k3 k4 g3, k5.call g3 g2⟩
theorem HasR.size (h : HasR w wr mb q l) (n : ByteArray) : Calls Try.prog 33 #[.pointer (some ⟨mb, 0, none⟩), .string n] wr (QuietPost (.int .i64 (ofD q n (0 : Int) fun d => (d.s : Int))) wr) := by
  obtain ⟨L, F, hM, rfl, -⟩ := h
  exact size_q_run mb L F n wr hM
theorem HasR.flight (h : HasR w wr mb q l) (n : ByteArray) : Calls Try.prog 34 #[.pointer (some ⟨mb, 0, none⟩), .string n] wr (QuietPost (.int .i64 (ofD q n (0 : Int) fun d => (d.f : Int))) wr) := by
  obtain ⟨L, F, hM, rfl, -⟩ := h
  exact flight_q_run mb L F n wr hM
/-- How many messages are in hand. -/
theorem HasR.active (h : HasR w wr mb q l) (h1 : q.ms.length ≤ 50000) : Calls Try.prog 38 #[.pointer (some ⟨mb, 0, none⟩)] wr fun e w' => ∃ x c, e = .returned (.slice x (inHand q.ms) c) ∧ HasR w w' mb q l := by
  have hh := h
  obtain ⟨L, F, hM, rfl, k3, k4, k5⟩ := h
  simp only [Lq.q, List.length_map] at h1
  refine (active_run mb L F wr hM (by omega)).mono ?_
  rintro e w' ⟨v', rfl, hr, hx⟩
  obtain ⟨x, c, rfl, -, -⟩ := row_shape hr
  rw [q_inHand]
  exact ⟨x, c, rfl, hh.quiet hx⟩
/-- Every window stands within its limits. -/
theorem HasR.win (h : HasR w wr mb q l) {d : Ds} (hd : d ∈ q.ds) : d.s ≤ q.lm.lim := by
  obtain ⟨L, F, hM, rfl, -⟩ := h
  obtain ⟨z, hz, rfl⟩ := List.mem_map.1 hd
  exact (hM.dests z hz).st.1

/-- The first row's slice with more behind it. -/
theorem HasR.app (h : HasR w wr mb q (r :: l)) {t : TypeId} {z : Value} {bytes : Nat} {i : TypeInfo} (ht : Try.prog.underlying t = some (.slice r.e)) (hi : Try.prog.info? r.e = some i) (hz : i.zero = some z) (hsz : i.size = r.s) (hby : i.bytes = bytes) (hzs : z.cells.size = r.s) (hs0 : 0 < r.s)
    (us : List Value) (hx : Ext (fun _ => False) wr W) (g m c : Nat) (hus : us.length = m * r.s) (hcell : ∀ j u, us[j]? = some u → W.cell? ⟨g, j, none⟩ = some u) (hone : ∀ u ∈ us, u.oneCell' = true) (hn : r.n + m ≤ 1000000) (hb : bytes ≤ 1000) :
    ∃ x c' wA, (Builtin.append_ #[t, t] t #[r.v, .slice (some ⟨g, 0, none⟩) m c]).run Try.prog W = .ok (.slice x (r.n + m) c') wA ∧ r.n + m ≤ c' ∧ c' ≤ 9223372036854775807 ∧ HasR w wA mb q ({ r with v := .slice x (r.n + m) c', n := r.n + m, xs := r.xs ++ us } :: l) := by
  obtain ⟨L, F, hM, hq, k3, k4, k5⟩ := h.quiet hx
  have hbytes : (r.n + m) * bytes ≤ 140737488355328 := Nat.le_trans (Nat.mul_le_mul hn hb) (by omega)
  obtain ⟨v', wA, hr, hown, hg, -, hbk⟩ := run_append_own_at (P := Try.prog) W w.heap.size t t r.e i z r.s bytes ht hi hz hsz hby hzs hs0 r.v r.n r.xs k5.head ⟨g, 0, none⟩ m c us hus (fun j u hu => by rw [add_none]; simpa using hcell j u hu) hone (by unfold maxLen; omega) hbytes k4.size
  obtain ⟨x, c', rfl, y1, y2⟩ := row_shape hown
  have hkeep : ∀ k, k < W.heap.size → r.v.ownBlock ≠ some k → wA.heap[k]? = W.heap[k]? := fun k hk hne => hg.block k hk fun e => hne e.symm
  have hXF : Ext (fun _ => False) w wA := by
    refine ⟨hg.os.trans k4.os, hg.tape.trans k4.tape, hg.output.trans k4.output, Nat.le_trans k4.size hg.size, fun k hk _ => (hkeep k (Nat.lt_of_lt_of_le hk k4.size) fun e => ?_).trans (k4.block k hk fun f => f)⟩
    rcases k5.head.2 with ⟨e2, -⟩ | ⟨g', cap, cur, e2, hb', -⟩
    · rw [e2] at e; cases e
    · rw [e2] at e
      injection e with e
      change g' = k at e
      omega
  refine ⟨x, c', wA, hr, y1, y2, L, F, hM.same hg.size fun k hk => hkeep k (hM.lt k hk) fun e => k5.off r (List.mem_cons_self ..) k e hk, hq, k3, hXF, k5.turn hown hM.lt ?_ hkeep⟩
  rcases hbk with e | e
  · exact .inl e
  · refine .inr fun g' hg' => ?_
    dsimp only at hg'
    rw [e] at hg'
    injection hg' with hg'
    omega

/-- A cell of the first row stored. -/
theorem HasR.store (h : HasR w wr mb q (r :: l)) (g : Nat) (hg : r.v.ownBlock = some g) (k : Nat) (u : Value) :
    HasR w (wr.setCell ⟨g, k, none⟩ u) mb q ({ r with xs := r.xs.set k u } :: l) := by
  obtain ⟨L, F, h1, h2, h3, h4, h5⟩ := h
  have hnf := h5.off r (List.mem_cons_self ..) g hg
  have hge : w.heap.size ≤ g := by
    rcases h5.head.2 with ⟨e2, -⟩ | ⟨g', cap, cur, e2, hb', -⟩
    · rw [e2] at hg; cases hg
    · rw [e2] at hg
      injection hg with hg
      change g' = g at hg
      omega
  refine ⟨L, F, h1.setX g k u hnf, h2, h3, h4.setCell_new g k u hge, h5.turn (r' := { r with xs := r.xs.set k u }) (row_set h5.head g hg k u) h1.lt (.inl rfl) fun i _ hne => Below.heap_setCell _ _ _ _ fun e => hne (hg.trans (congrArg some e.symm))⟩
/-- The cells of a row. -/
theorem HasR.at (h : HasR w wr mb q l) {r : Row} (hr : r ∈ l) (k : Nat) (hk : k < r.xs.length) : ∃ g cap, r.v = .slice (some ⟨g, 0, none⟩) r.n cap ∧ r.n ≤ cap ∧ cap ≤ 9223372036854775807 ∧ g < wr.heap.size ∧ wr.cell? ⟨g, k, none⟩ = some r.xs[k] ∧ wr.frozen? ⟨g, k, none⟩ = false :=
  row_at (h.row hr) k hk

/-- A box of the law's own is a row, too. -/
def boxR (b : Nat) (t : TypeId) (xs : List Value) : Row := ⟨t, xs.length, .slice (some ⟨b, 0, none⟩) 1 1, 1, xs⟩
theorem HasR.box (h : HasR w wr mb q l) (cs : List Value) (t : TypeId) : HasR w (wr.alloc (.cells cs.toArray t)) mb q (boxR wr.heap.size t cs :: l) := by
  have hx : Ext (fun _ => False) wr (wr.alloc (.cells cs.toArray t)) := (Ext.refl _ _).alloc _
  have hl : ∀ r ∈ l, r.v.ownBlock ≠ some wr.heap.size := fun r hr e => by
    have := row_lt (h.row hr) _ e
    omega
  obtain ⟨L, F, h1, h2, h3, h4, h5⟩ := h
  refine ⟨L, F, h1.quiet hx, h2, h3, h4.trans hx, (h5.quiet hx).push ⟨?_, .inr ⟨wr.heap.size, 1, cs.toArray, rfl, h4.size, (MapKept.heap_alloc wr _).1, Nat.le_refl _, by unfold maxLen; omega, ?_, ?_⟩⟩ fun g hg => ?_⟩
  · simp [boxR]
  · simp [boxR]
  · simp [boxR]
  · injection hg with hg
    change wr.heap.size = g at hg
    subst hg
    exact ⟨fun f => by have := h1.lt _ f; omega, hl⟩
theorem HasR.boxAt (h : HasR w wr mb q l) {b : Nat} {t : TypeId} {xs : List Value} (hr : boxR b t xs ∈ l) (k : Nat) (hk : k < xs.length) : wr.cell? ⟨b, k, none⟩ = some xs[k] ∧ b < wr.heap.size ∧ wr.frozen? ⟨b, k, none⟩ = false := by
  obtain ⟨g, cap, e, -, -, h1, h2, h3⟩ := row_at (h.row hr) k hk
  injection e with e
  injection e with e
  injection e with e
  subst e
  exact ⟨h2, h1, h3⟩
end
end Go.Proofs.Ytnakafmlenngnaa.Qm
