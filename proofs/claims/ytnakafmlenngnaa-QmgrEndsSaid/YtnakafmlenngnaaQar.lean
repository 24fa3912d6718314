/- The rows that the law of Apart holds. -/
import Derived.Test.YtnakafmlenngnaaQap
import Derived.Test.YtnakafmlenngnaaQrw
namespace Go.Proofs.Ytnakafmlenngnaa.Qm
open Go.RowKit Go.Proofs.Ytnakafmlenngnaa.Wi

def fyC (p : ByteArray × Nat) : List Value := [.string p.1, .int .i64 (p.2 : Nat)]
def jobR (v : Value) (js : List LJ) : Row := ⟨49, 3, v, js.length, js.flatMap jbC⟩
def opnR (v : Value) (o : List Bool) : Row := ⟨4, 1, v, o.length, o.map Value.bool⟩
def airR (v : Value) (a : List (ByteArray × Nat)) : Row := ⟨66, 2, v, a.length, a.flatMap fyC⟩
def jRows (js : List LJ) : List Row := js.map fun z => jRow z.v z.j
/-- What stands at the head of the law's loop. -/
def ApP (w wr : World) (mb : Nat) (lm : Lm) (q : Qs) (jv ov av : Value) (js : List LJ) (opn : List Bool) (air : List (ByteArray × Nat)) (i : Nat) : Prop :=
  HasR w wr mb q (jobR jv js :: opnR ov opn :: airR av air :: jRows js) ∧ ApI q (js.map (·.j)) opn air i ∧ q.lm = lm

theorem add_lm (q : Qs) (id : ByteArray) (came : Int) (D : List ByteArray) (now : Int) : (Qm.add q id came D now).2.lm = q.lm := by
  unfold Qm.add
  split
  · rfl
  split
  · rfl
  split <;> rfl
theorem next_lm {q q' : Qs} {j : Jb} (h : Qm.next q = some (j, q')) : q'.lm = q.lm := by
  obtain ⟨i, d, a, m, -, -, -, -, rfl, -⟩ := (next_begun h).ex
  rfl
theorem ApP.hand {w wr : World} {mb : Nat} {lm : Lm} {q : Qs} {jv ov av : Value} {js : List LJ} {opn : List Bool} {air : List (ByteArray × Nat)} {i : Nat} (h : ApP w wr mb lm q jv ov av js opn air i) : ¬ lm.active < (inHand q.ms : Int) := by
  have := h.2.1.inv.hand
  rw [h.2.2] at this
  omega
/-- A step's box. -/
def stC (s : St) (x5 : Option Addr) (c5 : Nat) (x6 : Option Addr) (c6 : Nat) (t u : ByteArray) (x : Option Addr) (n c : Nat) : List Value :=
  [.int .i64 s.op, .int .i64 s.n, .string s.id, .int .i64 s.came, .int .i64 s.now, .slice x5 s.dests.length c5, .slice x6 s.results.length c6, .bool s.well, .string t, .string u, .slice x n c]

theorem HasR.sub {w wr : World} {mb : Nat} {q : Qs} {l l' : List Row} (h : HasR w wr mb q l) (hs : l'.Sublist l) : HasR w wr mb q l' := by
  obtain ⟨L, F, h1, h2, h3, h4, h5⟩ := h
  exact ⟨L, F, h1, h2, h3, h4, fun r hr => h5.lie r (hs.subset hr), fun r hr => h5.off r (hs.subset hr), h5.sep.sublist hs⟩

theorem fy_at (l : List (ByteArray × Nat)) (k : Nat) (hk : k < l.length) : (l.flatMap fyC)[k * 2]? = some (.string l[k].1) ∧ (l.flatMap fyC)[k * 2 + 1]? = some (.int .i64 (l[k].2 : Nat)) := by
  induction l generalizing k with
  | nil => simp at hk
  | cons r l ih =>
    cases k with
    | zero => exact ⟨rfl, rfl⟩
    | succ k =>
      have := ih k (by simpa using hk)
      simp only [List.flatMap_cons, fyC, List.cons_append, List.nil_append, List.getElem_cons_succ] at this ⊢
      rw [show (k + 1) * 2 = k * 2 + 1 + 1 by omega, show k * 2 + 1 + 1 + 1 = (k * 2 + 1) + 1 + 1 by omega]
      simp only [List.getElem?_cons_succ]
      exact this
theorem jb_at (l : List LJ) (k : Nat) (hk : k < l.length) : (l.flatMap jbC)[k * 3]? = some (.string l[k].j.id) ∧ (l.flatMap jbC)[k * 3 + 1]? = some (.string l[k].j.dest) ∧ (l.flatMap jbC)[k * 3 + 2]? = some l[k].v := by
  induction l generalizing k with
  | nil => simp at hk
  | cons r l ih =>
    cases k with
    | zero => exact ⟨rfl, rfl, rfl⟩
    | succ k =>
      have := ih k (by simpa using hk)
      simp only [List.flatMap_cons, jbC, List.cons_append, List.nil_append, List.getElem_cons_succ] at this ⊢
      rw [show (k + 1) * 3 = k * 3 + 1 + 1 + 1 by omega, show k * 3 + 1 + 1 + 1 + 1 = (k * 3 + 1) + 1 + 1 + 1 by omega, show k * 3 + 1 + 1 + 1 + 2 = (k * 3 + 2) + 1 + 1 + 1 by omega]
      simp only [List.getElem?_cons_succ]
      exact this

theorem info66 : ∃ i, Try.prog.info? 66 = some i ∧ i.zero = some (.agg #[.string ByteArray.empty, .int .i64 0]) ∧ i.size = 2 ∧ i.bytes = 24 :=
  info_parts (show (Try.prog.info? 66).map (fun i => (i.zero, i.size, i.bytes)) = some (some (.agg #[.string ByteArray.empty, .int .i64 0]), 2, 24) by kernel_rfl)
theorem info4 : ∃ i, Try.prog.info? 4 = some i ∧ i.zero = some (.bool false) ∧ i.size = 1 ∧ i.bytes = 1 :=
  info_parts (show (Try.prog.info? 4).map (fun i => (i.zero, i.size, i.bytes)) = some (some (.bool false), 1, 1) by kernel_rfl)

/-- The cells of what was just made. -/
theorem cells_new (w : World) (cs : List Value) (t : TypeId) (j : Nat) (u : Value) (h : cs[j]? = some u) : (w.alloc (.cells cs.toArray t)).cell? ⟨w.heap.size, j, none⟩ = some u := by
  have := (MapKept.heap_alloc w (.cells cs.toArray t)).1
  unfold World.cell?
  simp only [this]
  simpa using h

section
variable {w wr W : World} {mb : Nat} {q : Qs} {l : List Row}
theorem HasR.air1 {v : Value} {a : List (ByteArray × Nat)} (h : HasR w wr mb q (airR v a :: l)) (id : ByteArray) (r : Nat) (ha : a.length ≤ 100000) :
    ∃ x c wA, (Builtin.append_ #[62, 62] 62 #[v, .slice (some ⟨wr.heap.size, 0, none⟩) 1 1]).run Try.prog ((wr.alloc (.cells #[.string id, .int .i64 (r : Nat)] 66)).drew) = .ok (.slice x (a.length + 1) c) wA ∧ a.length + 1 ≤ c ∧ c ≤ 9223372036854775807 ∧
      HasR w wA mb q (airR (.slice x (a.length + 1) c) (a ++ [(id, r)]) :: l) := by
  obtain ⟨i, j1, j2, j3, j4⟩ := info66
  obtain ⟨x, c, wA, h1, h2, h3, h4⟩ := h.app (t := 62) Try.underlying62 j1 j2 j3 j4 rfl (show 0 < 2 by decide) [.string id, .int .i64 (r : Nat)] (W := (wr.alloc (.cells #[.string id, .int .i64 (r : Nat)] 66)).drew) ((Ext.refl _ _).alloc _).drew wr.heap.size 1 1 rfl
    (fun k u hu => cells_new wr [.string id, .int .i64 (r : Nat)] 66 k u hu) (fun u hu => by simp at hu; rcases hu with rfl | rfl <;> rfl) (by show a.length + 1 ≤ _; omega) (by omega)
  refine ⟨x, c, wA, h1, h2, h3, ?_⟩
  have e : ({ airR v a with v := .slice x (a.length + 1) c, n := a.length + 1, xs := a.flatMap fyC ++ [.string id, .int .i64 (r : Nat)] } : Row) = airR (.slice x (a.length + 1) c) (a ++ [(id, r)]) := by
    simp [airR, fyC]
  rw [← e]
  exact h4
theorem HasR.job1 {v : Value} {js : List LJ} (h : HasR w wr mb q (jobR v js :: l)) (z : LJ) {xz : Option Addr} {nz cz : Nat} (hz : z.v = .slice xz nz cz) (hj : js.length ≤ 100000) :
    ∃ x c wA, (Builtin.append_ #[60, 60] 60 #[v, .slice (some ⟨wr.heap.size, 0, none⟩) 1 1]).run Try.prog (wr.alloc (.cells #[.string z.j.id, .string z.j.dest, z.v] 49)) = .ok (.slice x (js.length + 1) c) wA ∧ js.length + 1 ≤ c ∧ c ≤ 9223372036854775807 ∧
      HasR w wA mb q (jobR (.slice x (js.length + 1) c) (js ++ [z]) :: l) := by
  obtain ⟨i, j1, j2, j3, j4⟩ := info49
  obtain ⟨x, c, wA, h1, h2, h3, h4⟩ := h.app (t := 60) Try.underlying60 j1 j2 j3 j4 rfl (show 0 < 3 by decide) [.string z.j.id, .string z.j.dest, z.v] (W := wr.alloc (.cells #[.string z.j.id, .string z.j.dest, z.v] 49)) ((Ext.refl _ _).alloc _) wr.heap.size 1 1 rfl
    (fun k u hu => cells_new wr [.string z.j.id, .string z.j.dest, z.v] 49 k u hu) (fun u hu => by rw [hz] at hu; simp at hu; rcases hu with rfl | rfl | rfl <;> rfl) (by show js.length + 1 ≤ _; omega) (by omega)
  refine ⟨x, c, wA, h1, h2, h3, ?_⟩
  have e : ({ jobR v js with v := .slice x (js.length + 1) c, n := js.length + 1, xs := js.flatMap jbC ++ [.string z.j.id, .string z.j.dest, z.v] } : Row) = jobR (.slice x (js.length + 1) c) (js ++ [z]) := by
    simp [jobR, jbC]
  rw [← e]
  exact h4
theorem HasR.opn1 {v : Value} {o : List Bool} (h : HasR w wr mb q (opnR v o :: l)) (b : Bool) (ho : o.length ≤ 100000) :
    ∃ x c wA, (Builtin.append_ #[61, 61] 61 #[v, .slice (some ⟨wr.heap.size, 0, none⟩) 1 1]).run Try.prog (wr.alloc (.cells #[.bool b] 4)) = .ok (.slice x (o.length + 1) c) wA ∧ o.length + 1 ≤ c ∧ c ≤ 9223372036854775807 ∧
      HasR w wA mb q (opnR (.slice x (o.length + 1) c) (o ++ [b]) :: l) := by
  obtain ⟨i, j1, j2, j3, j4⟩ := info4
  obtain ⟨x, c, wA, h1, h2, h3, h4⟩ := h.app (t := 61) Try.underlying61 j1 j2 j3 j4 rfl (show 0 < 1 by decide) [.bool b] (W := wr.alloc (.cells #[.bool b] 4)) ((Ext.refl _ _).alloc _) wr.heap.size 1 1 rfl
    (fun k u hu => cells_new wr [.bool b] 4 k u hu) (fun u hu => by simp at hu; subst hu; rfl) (by show o.length + 1 ≤ _; omega) (by omega)
  refine ⟨x, c, wA, h1, h2, h3, ?_⟩
  have e : ({ opnR v o with v := .slice x (o.length + 1) c, n := o.length + 1, xs := o.map Value.bool ++ [.bool b] } : Row) = opnR (.slice x (o.length + 1) c) (o ++ [b]) := by
    simp [opnR]
  rw [← e]
  exact h4
/-- What is read of the air, of the jobs, of what is open, of a job's row. -/
theorem HasR.airAt {v : Value} {a : List (ByteArray × Nat)} (h : HasR w wr mb q l) (hm : airR v a ∈ l) (k : Nat) (hk : k < a.length) : ∃ g c, v = .slice (some ⟨g, 0, none⟩) a.length c ∧ g < wr.heap.size ∧ wr.cell? ⟨g, k * 2, none⟩ = some (.string a[k].1) ∧ wr.cell? ⟨g, k * 2 + 1, none⟩ = some (.int .i64 (a[k].2 : Nat)) := by
  have hl : (a.flatMap fyC).length = a.length * 2 := (h.row hm).1
  obtain ⟨f1, f2⟩ := fy_at a k hk
  obtain ⟨g, c, e, -, -, g1, g2, -⟩ := row_at (h.row hm) (k * 2) (by show _ < (a.flatMap fyC).length; omega)
  obtain ⟨g', c', e', -, -, -, g2', -⟩ := row_at (h.row hm) (k * 2 + 1) (by show _ < (a.flatMap fyC).length; omega)
  have eg : g' = g := by rw [e] at e'; injection e' with e1 _ _; injection e1 with e1; injection e1 with e1; exact e1.symm
  subst eg
  exact ⟨g', c, e, g1, g2.trans ((List.getElem?_eq_getElem (l := a.flatMap fyC) (by omega)).symm.trans f1), g2'.trans ((List.getElem?_eq_getElem (l := a.flatMap fyC) (by omega)).symm.trans f2)⟩
theorem HasR.jobAt {v : Value} {js : List LJ} (h : HasR w wr mb q l) (hm : jobR v js ∈ l) (k : Nat) (hk : k < js.length) : ∃ g c, v = .slice (some ⟨g, 0, none⟩) js.length c ∧ g < wr.heap.size ∧ wr.cell? ⟨g, k * 3, none⟩ = some (.string js[k].j.id) ∧ wr.cell? ⟨g, k * 3 + 1, none⟩ = some (.string js[k].j.dest) ∧ wr.cell? ⟨g, k * 3 + 2, none⟩ = some js[k].v := by
  have hl : (js.flatMap jbC).length = js.length * 3 := (h.row hm).1
  obtain ⟨f1, f2, f3⟩ := jb_at js k hk
  obtain ⟨g, c, e, -, -, g1, g2, -⟩ := row_at (h.row hm) (k * 3) (by show _ < (js.flatMap jbC).length; omega)
  obtain ⟨g', c', e', -, -, -, g2', -⟩ := row_at (h.row hm) (k * 3 + 1) (by show _ < (js.flatMap jbC).length; omega)
  obtain ⟨g3, c3, e3, -, -, -, g23, -⟩ := row_at (h.row hm) (k * 3 + 2) (by show _ < (js.flatMap jbC).length; omega)
  have eg : g' = g := by rw [e] at e'; injection e' with e1 _ _; injection e1 with e1; injection e1 with e1; exact e1.symm
  have eg3 : g3 = g := by rw [e] at e3; injection e3 with e1 _ _; injection e1 with e1; injection e1 with e1; exact e1.symm
  subst eg eg3
  exact ⟨g3, c, e, g1, g2.trans ((List.getElem?_eq_getElem (l := js.flatMap jbC) (by omega)).symm.trans f1), g2'.trans ((List.getElem?_eq_getElem (l := js.flatMap jbC) (by omega)).symm.trans f2), g23.trans ((List.getElem?_eq_getElem (l := js.flatMap jbC) (by omega)).symm.trans f3)⟩
theorem HasR.opnAt {v : Value} {o : List Bool} (h : HasR w wr mb q l) (hm : opnR v o ∈ l) (k : Nat) (hk : k < o.length) : ∃ g c, v = .slice (some ⟨g, 0, none⟩) o.length c ∧ g < wr.heap.size ∧ wr.cell? ⟨g, k, none⟩ = some (.bool o[k]) ∧ wr.frozen? ⟨g, k, none⟩ = false := by
  obtain ⟨g, c, e, -, -, g1, g2, g3⟩ := row_at (h.row hm) k (by show _ < (o.map Value.bool).length; simpa using hk)
  exact ⟨g, c, e, g1, g2.trans (by simp [opnR]), g3⟩
theorem HasR.jrowAt {v : Value} {j : Jb} (h : HasR w wr mb q l) (hm : jRow v j ∈ l) (k : Nat) (hk : k < j.rs.length) : ∃ g c, v = .slice (some ⟨g, 0, none⟩) j.rs.length c ∧ g < wr.heap.size ∧ wr.cell? ⟨g, k, none⟩ = some (.int .i64 (j.rs[k] : Nat)) := by
  obtain ⟨g, c, e, -, -, g1, g2, -⟩ := row_at (h.row hm) k (by show _ < (intsC j.rs).length; simpa [intsC] using hk)
  exact ⟨g, c, e, g1, g2.trans (by simp [jRow, intsC])⟩
theorem HasR.shape (h : HasR w wr mb q l) {r : Row} (hr : r ∈ l) : ∃ x c, r.v = .slice x r.n c ∧ r.n ≤ c ∧ c ≤ 9223372036854775807 := row_shape (h.row hr)
end

/-- What is in the air while a job's recipients are put there. -/
def airK (air : List (ByteArray × Nat)) (j : Jb) (k : Nat) : List (ByteArray × Nat) := air ++ (j.rs.take k).map fun r => (j.id, r)
theorem airK_zero (air : List (ByteArray × Nat)) (j : Jb) : airK air j 0 = air := by simp [airK]
theorem airK_all (air : List (ByteArray × Nat)) (j : Jb) : airK air j j.rs.length = air ++ j.rs.map fun r => (j.id, r) := by simp [airK]
theorem airK_next (air : List (ByteArray × Nat)) (j : Jb) (k : Nat) (hk : k < j.rs.length) : airK air j (k + 1) = airK air j k ++ [(j.id, j.rs[k])] := by
  unfold airK
  rw [List.take_succ_eq_append_getElem hk, List.map_append, List.append_assoc]
  rfl
theorem airK_length (air : List (ByteArray × Nat)) (j : Jb) (k : Nat) : (airK air j k).length ≤ air.length + j.rs.length := by
  unfold airK
  simp
  omega
/-- None of those is the next. -/
theorem airK_not {air : List (ByteArray × Nat)} {j : Jb} (h1 : ∀ r ∈ j.rs, (j.id, r) ∉ air) (h2 : j.rs.Pairwise (· < ·)) (k : Nat) (hk : k < j.rs.length) (i : Nat) (hi : i < (airK air j k).length) (e1 : (airK air j k)[i].1 = j.id) : ¬ (airK air j k)[i].2 = j.rs[k] := by
  intro e2
  have hm : (airK air j k)[i] ∈ airK air j k := List.getElem_mem hi
  have e : (airK air j k)[i] = (j.id, j.rs[k]) := Prod.ext e1 e2
  rw [e] at hm
  rcases List.mem_append.1 hm with f | f
  · exact h1 _ (List.getElem_mem hk) f
  · obtain ⟨r, hr, er⟩ := List.mem_map.1 f
    injection er with _ er
    obtain ⟨m, hm, e3⟩ := List.getElem_of_mem hr
    rw [List.length_take] at hm
    rw [List.getElem_take] at e3
    have := List.pairwise_iff_getElem.1 h2 m k (by omega) hk (by omega)
    omega
theorem rows_split {w wr : World} {mb : Nat} {q : Qs} {b1 r b2 jr orr ar : Row} {l : List Row} (h : HasR w wr mb q (b1 :: r :: b2 :: jr :: orr :: ar :: l)) :
    ∃ rest, HasR w wr mb q (ar :: rest) ∧ b1 ∈ rest ∧ r ∈ rest ∧ ∀ W (v' : Value) (a' : List (ByteArray × Nat)), HasR w W mb q (airR v' a' :: rest) → HasR w W mb q (jr :: orr :: airR v' a' :: r :: l) := by
  refine ⟨b1 :: r :: b2 :: jr :: orr :: l, h.perm ?_, by simp, by simp, fun W v' a' hw => ?_⟩
  · exact List.perm_middle (l₁ := [b1, r, b2, jr, orr])
  · have h1 : HasR w W mb q (airR v' a' :: r :: jr :: orr :: l) := hw.sub (List.Sublist.cons_cons _ (List.Sublist.cons _ (List.Sublist.cons_cons _ (List.Sublist.cons _ (List.Sublist.refl _)))))
    refine h1.perm ?_
    have p1 : (airR v' a' :: r :: jr :: orr :: l).Perm (jr :: airR v' a' :: r :: orr :: l) := List.perm_middle (l₁ := [airR v' a', r])
    have p2 : (airR v' a' :: r :: orr :: l).Perm (orr :: airR v' a' :: r :: l) := List.perm_middle (l₁ := [airR v' a', r])
    exact p1.trans (p2.cons _)
section
variable {w wr W : World} {mb : Nat} {q : Qs} {l : List Row}
theorem HasR.pull {r : Row} (pre : List Row) (h : HasR w wr mb q (pre ++ r :: l)) : HasR w wr mb q (r :: (pre ++ l)) := h.perm List.perm_middle
theorem HasR.put {r : Row} (pre : List Row) (h : HasR w wr mb q (r :: (pre ++ l))) : HasR w wr mb q (pre ++ r :: l) := h.perm List.perm_middle.symm
theorem HasR.air2 {v : Value} {a : List (ByteArray × Nat)} (h : HasR w wr mb q (airR v a :: l)) (id : ByteArray) (r : Nat) (ha : a.length ≤ 100000) :
    ∃ x c wA, (Builtin.append_ #[62, 62] 62 #[v, .slice (some ⟨wr.heap.size, 0, none⟩) 1 1]).run Try.prog (wr.alloc (.cells #[.string id, .int .i64 (r : Nat)] 66)) = .ok (.slice x (a.length + 1) c) wA ∧ a.length + 1 ≤ c ∧ c ≤ 9223372036854775807 ∧
      HasR w wA mb q (airR (.slice x (a.length + 1) c) (a ++ [(id, r)]) :: l) := by
  obtain ⟨i, j1, j2, j3, j4⟩ := info66
  obtain ⟨x, c, wA, h1, h2, h3, h4⟩ := h.app (t := 62) Try.underlying62 j1 j2 j3 j4 rfl (show 0 < 2 by decide) [.string id, .int .i64 (r : Nat)] (W := wr.alloc (.cells #[.string id, .int .i64 (r : Nat)] 66)) ((Ext.refl _ _).alloc _) wr.heap.size 1 1 rfl
    (fun k u hu => cells_new wr [.string id, .int .i64 (r : Nat)] 66 k u hu) (fun u hu => by simp at hu; rcases hu with rfl | rfl <;> rfl) (by show a.length + 1 ≤ _; omega) (by omega)
  refine ⟨x, c, wA, h1, h2, h3, ?_⟩
  have e : ({ airR v a with v := .slice x (a.length + 1) c, n := a.length + 1, xs := a.flatMap fyC ++ [.string id, .int .i64 (r : Nat)] } : Row) = airR (.slice x (a.length + 1) c) (a ++ [(id, r)]) := by
    simp [airR, fyC]
  rw [← e]
  exact h4
/-- Two jobs that the law holds: the same? -/
theorem HasR.same {a b : Jb} {x y : Option Addr} {c d : Nat} (h : HasR w wr mb q l) (ha : jRow (.slice x a.rs.length c) a ∈ l) (hb : jRow (.slice y b.rs.length d) b ∈ l) (hx : Ext (fun _ => False) wr W) :
    Calls Try.prog 35 #[.agg #[.string a.id, .string a.dest, .slice x a.rs.length c], .agg #[.string b.id, .string b.dest, .slice y b.rs.length d]] W (QuietPost (.bool (sameJ a b)) W) :=
  samejob_run a b x y c d W (ints_of_row ((h.quiet hx).row ha) rfl) (ints_of_row ((h.quiet hx).row hb) rfl)
/-- A job is closed. -/
theorem HasR.close {v : Value} {o : List Bool} (h : HasR w wr mb q (opnR v o :: l)) (g : Nat) (hg : v.ownBlock = some g) (k : Nat) : HasR w (wr.setCell ⟨g, k, none⟩ (.bool false)) mb q (opnR v (o.set k false) :: l) := by
  have := h.store g hg k (.bool false)
  have e : ({ opnR v o with xs := (opnR v o).xs.set k (.bool false) } : Row) = opnR v (o.set k false) := by
    simp [opnR, List.map_set]
  rw [e] at this
  exact this
end

/-- Was one of the first k jobs the same, and open? -/
def agK (js : List LJ) (opn : List Bool) (j : Jb) (k : Nat) : Bool := (((js.map (·.j)).zip opn).take k).any fun x => sameJ x.1 j && x.2
theorem agK_next (js : List LJ) (opn : List Bool) (j : Jb) (k : Nat) (hk : k < js.length) (ho : k < opn.length) : agK js opn j (k + 1) = (agK js opn j k || (sameJ js[k].j j && opn[k])) := by
  unfold agK
  rw [List.take_succ_eq_append_getElem (by simp; omega), List.any_append]
  simp
theorem agK_all {js : List LJ} {opn : List Bool} {j : Jb} (ho : opn.length = js.length) (h : cIdx (js.map (·.j)) opn j < (js.map (·.j)).length) : agK js opn j js.length = true := by
  unfold agK
  rw [List.take_of_length_le (by simp; omega), List.any_eq_true]
  have hl : cIdx (js.map (·.j)) opn j < ((js.map (·.j)).zip opn).length := by simp at h ⊢; omega
  exact ⟨_, List.getElem_mem hl, List.findIdx_getElem (p := fun x : Jb × Bool => sameJ x.1 j && x.2) (w := hl)⟩
theorem cIdx_eq {js : List LJ} {opn : List Bool} {j : Jb} {k : Nat} (hk : k < js.length) (ho : k < opn.length) (h1 : (sameJ js[k].j j && opn[k]) = true) (h2 : ∀ m (hm : m < k), (sameJ js[m].j j && opn[m]) = false) : cIdx (js.map (·.j)) opn j = k := by
  have hl : k < ((js.map (·.j)).zip opn).length := by simp; omega
  unfold cIdx
  rw [List.findIdx_eq hl]
  refine ⟨by simpa using h1, fun m hm => ?_⟩
  have := h2 m hm
  simpa using this
theorem cIdx_not {js : List LJ} {opn : List Bool} {j : Jb} (ho : opn.length = js.length) (h2 : ∀ m (hm : m < js.length), (sameJ js[m].j j && opn[m]'(by omega)) = false) : ¬ cIdx (js.map (·.j)) opn j < (js.map (·.j)).length := by
  intro h
  have hl : cIdx (js.map (·.j)) opn j < ((js.map (·.j)).zip opn).length := by simp at h ⊢; omega
  have := List.findIdx_getElem (p := fun x : Jb × Bool => sameJ x.1 j && x.2) (w := hl)
  change (sameJ (((js.map (·.j)).zip opn)[cIdx (js.map (·.j)) opn j]).1 j && (((js.map (·.j)).zip opn)[cIdx (js.map (·.j)) opn j]).2) = true at this
  have h3 := h2 (cIdx (js.map (·.j)) opn j) (by simpa using h)
  simp at this h3
  exact absurd this.2 (by simp [h3 this.1])

/-- Is one of the first k recipients of a job this one? -/
def outK (j : Jb) (p : ByteArray × Nat) (k : Nat) : Bool := decide (p.1 = j.id) && decide (p.2 ∈ j.rs.take k)
theorem outK_zero (j : Jb) (p : ByteArray × Nat) : outK j p 0 = false := by simp [outK]
theorem outK_next (j : Jb) (p : ByteArray × Nat) (k : Nat) (hk : k < j.rs.length) : outK j p (k + 1) = (outK j p k || (decide (p.1 = j.id) && decide (p.2 = j.rs[k]))) := by
  unfold outK
  have e : decide (p.2 ∈ j.rs.take (k + 1)) = (decide (p.2 ∈ j.rs.take k) || decide (p.2 = j.rs[k])) := by
    rw [List.take_succ_eq_append_getElem hk, Bool.eq_iff_iff, Bool.or_eq_true, decide_eq_true_iff, decide_eq_true_iff, decide_eq_true_iff, List.mem_append, List.mem_singleton]
  rw [e]
  cases decide (p.1 = j.id) <;> simp
theorem outK_all (j : Jb) (p : ByteArray × Nat) : outK j p j.rs.length = inJob j p := by simp [outK, inJob]
/-- What stays in the air of the first k. -/
def lftK (air : List (ByteArray × Nat)) (j : Jb) (k : Nat) : List (ByteArray × Nat) := (air.take k).filter fun p => !inJob j p
theorem lftK_next (air : List (ByteArray × Nat)) (j : Jb) (k : Nat) (hk : k < air.length) : lftK air j (k + 1) = lftK air j k ++ (if inJob j air[k] then [] else [air[k]]) := by
  unfold lftK
  rw [List.take_succ_eq_append_getElem hk, List.filter_append]
  cases h : inJob j air[k] <;> simp [h]
theorem lftK_length (air : List (ByteArray × Nat)) (j : Jb) (k : Nat) : (lftK air j k).length ≤ air.length := by
  unfold lftK
  exact Nat.le_trans (List.length_filter_le _ _) (by simp; omega)
end Go.Proofs.Ytnakafmlenngnaa.Qm
