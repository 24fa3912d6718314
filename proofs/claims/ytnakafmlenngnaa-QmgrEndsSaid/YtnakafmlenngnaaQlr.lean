/- The rows that the law of Keeps holds. -/
import Derived.Test.YtnakafmlenngnaaQlf
namespace Go.Proofs.Ytnakafmlenngnaa.Qm
open Go.RowKit Go.Proofs.Ytnakafmlenngnaa.Wi

/-- A list of integers with its slice. -/
structure LI where
  v : Value
  l : List Nat
def iRow (z : LI) : Row := ⟨3, 1, z.v, z.l.length, intsC z.l⟩
def iRows (ls : List LI) : List Row := ls.map iRow
def leftR (v : Value) (ls : List LI) : Row := ⟨30, 1, v, ls.length, ls.map (·.v)⟩
def namesR (v : Value) (ns : List ByteArray) : Row := ⟨9, 1, v, ns.length, ns.map Value.string⟩
/-- What stands at the head of the law's loop. -/
def KpP (w wr : World) (mb : Nat) (lm : Lm) (q : Qs) (lv nv jv : Value) (ls : List LI) (ns : List ByteArray) (js : List LJ) (i : Nat) : Prop :=
  HasR w wr mb q (leftR lv ls :: namesR nv ns :: jobR jv js :: (jRows js ++ iRows ls)) ∧ KpI q (js.map (·.j)) ns (ls.map (·.l)) i ∧ q.lm = lm

theorem info30 : ∃ i, Try.prog.info? 30 = some i ∧ i.zero = some (.slice none 0 0) ∧ i.size = 1 ∧ i.bytes = 24 :=
  info_parts (show (Try.prog.info? 30).map (fun i => (i.zero, i.size, i.bytes)) = some (some (.slice none 0 0), 1, 24) by kernel_rfl)

section
variable {w wr W : World} {mb : Nat} {q : Qs} {l : List Row}
theorem HasR.int1 {v : Value} {xs : List Nat} (h : HasR w wr mb q (iRow ⟨v, xs⟩ :: l)) (r : Nat) (hr : xs.length ≤ 100000) :
    ∃ x c wA, (Builtin.append_ #[30, 30] 30 #[v, .slice (some ⟨wr.heap.size, 0, none⟩) 1 1]).run Try.prog (wr.alloc (.cells #[.int .i64 (r : Nat)] 3)) = .ok (.slice x (xs.length + 1) c) wA ∧ xs.length + 1 ≤ c ∧ c ≤ 9223372036854775807 ∧
      HasR w wA mb q (iRow ⟨.slice x (xs.length + 1) c, xs ++ [r]⟩ :: l) := by
  obtain ⟨i, j1, j2, j3, j4⟩ := info3
  obtain ⟨x, c, wA, h1, h2, h3, h4⟩ := h.app (t := 30) Try.underlying30 j1 j2 j3 j4 rfl (show 0 < 1 by decide) [.int .i64 (r : Nat)] (W := wr.alloc (.cells #[.int .i64 (r : Nat)] 3)) ((Ext.refl _ _).alloc _) wr.heap.size 1 1 rfl
    (fun k u hu => cells_new wr [.int .i64 (r : Nat)] 3 k u hu) (fun u hu => by simp at hu; subst hu; rfl) (by show xs.length + 1 ≤ _; omega) (by omega)
  refine ⟨x, c, wA, h1, h2, h3, ?_⟩
  have e : ({ iRow ⟨v, xs⟩ with v := .slice x (xs.length + 1) c, n := xs.length + 1, xs := intsC xs ++ [.int .i64 (r : Nat)] } : Row) = iRow ⟨.slice x (xs.length + 1) c, xs ++ [r]⟩ := by
    simp [iRow, intsC]
  rw [← e]
  exact h4
theorem HasR.name1 {v : Value} {ns : List ByteArray} (h : HasR w wr mb q (namesR v ns :: l)) (s : ByteArray) (hr : ns.length ≤ 100000) :
    ∃ x c wA, (Builtin.append_ #[46, 46] 46 #[v, .slice (some ⟨wr.heap.size, 0, none⟩) 1 1]).run Try.prog (wr.alloc (.cells #[.string s] 9)) = .ok (.slice x (ns.length + 1) c) wA ∧ ns.length + 1 ≤ c ∧ c ≤ 9223372036854775807 ∧
      HasR w wA mb q (namesR (.slice x (ns.length + 1) c) (ns ++ [s]) :: l) := by
  obtain ⟨i, j1, j2, j3, j4⟩ := info9
  obtain ⟨x, c, wA, h1, h2, h3, h4⟩ := h.app (t := 46) Try.underlying46 j1 j2 j3 j4 rfl (show 0 < 1 by decide) [.string s] (W := wr.alloc (.cells #[.string s] 9)) ((Ext.refl _ _).alloc _) wr.heap.size 1 1 rfl
    (fun k u hu => cells_new wr [.string s] 9 k u hu) (fun u hu => by simp at hu; subst hu; rfl) (by show ns.length + 1 ≤ _; omega) (by omega)
  refine ⟨x, c, wA, h1, h2, h3, ?_⟩
  have e : ({ namesR v ns with v := .slice x (ns.length + 1) c, n := ns.length + 1, xs := ns.map Value.string ++ [.string s] } : Row) = namesR (.slice x (ns.length + 1) c) (ns ++ [s]) := by
    simp [namesR]
  rw [← e]
  exact h4
theorem HasR.left1 {v : Value} {ls : List LI} (h : HasR w wr mb q (leftR v ls :: l)) (z : LI) {xz : Option Addr} {nz cz : Nat} (hz : z.v = .slice xz nz cz) (hr : ls.length ≤ 100000) :
    ∃ x c wA, (Builtin.append_ #[72, 72] 72 #[v, .slice (some ⟨wr.heap.size, 0, none⟩) 1 1]).run Try.prog (wr.alloc (.cells #[z.v] 30)) = .ok (.slice x (ls.length + 1) c) wA ∧ ls.length + 1 ≤ c ∧ c ≤ 9223372036854775807 ∧
      HasR w wA mb q (leftR (.slice x (ls.length + 1) c) (ls ++ [z]) :: l) := by
  obtain ⟨i, j1, j2, j3, j4⟩ := info30
  obtain ⟨x, c, wA, h1, h2, h3, h4⟩ := h.app (t := 72) Try.underlying72 j1 j2 j3 j4 rfl (show 0 < 1 by decide) [z.v] (W := wr.alloc (.cells #[z.v] 30)) ((Ext.refl _ _).alloc _) wr.heap.size 1 1 rfl
    (fun k u hu => cells_new wr [z.v] 30 k u hu) (fun u hu => by rw [hz] at hu; simp at hu; subst hu; rfl) (by show ls.length + 1 ≤ _; omega) (by omega)
  refine ⟨x, c, wA, h1, h2, h3, ?_⟩
  have e : ({ leftR v ls with v := .slice x (ls.length + 1) c, n := ls.length + 1, xs := ls.map (·.v) ++ [z.v] } : Row) = leftR (.slice x (ls.length + 1) c) (ls ++ [z]) := by
    simp [leftR]
  rw [← e]
  exact h4
theorem HasR.nameAt {v : Value} {ns : List ByteArray} (h : HasR w wr mb q l) (hm : namesR v ns ∈ l) (k : Nat) (hk : k < ns.length) : ∃ g c, v = .slice (some ⟨g, 0, none⟩) ns.length c ∧ g < wr.heap.size ∧ wr.cell? ⟨g, k, none⟩ = some (.string ns[k]) ∧ wr.frozen? ⟨g, k, none⟩ = false := by
  obtain ⟨g, c, e, -, -, g1, g2, g3⟩ := row_at (h.row hm) k (by show _ < (ns.map Value.string).length; simpa using hk)
  exact ⟨g, c, e, g1, g2.trans (by simp [namesR]), g3⟩
theorem HasR.leftAt {v : Value} {ls : List LI} (h : HasR w wr mb q l) (hm : leftR v ls ∈ l) (k : Nat) (hk : k < ls.length) : ∃ g c, v = .slice (some ⟨g, 0, none⟩) ls.length c ∧ g < wr.heap.size ∧ wr.cell? ⟨g, k, none⟩ = some ls[k].v ∧ wr.frozen? ⟨g, k, none⟩ = false := by
  obtain ⟨g, c, e, -, -, g1, g2, g3⟩ := row_at (h.row hm) k (by show _ < (ls.map (·.v)).length; simpa using hk)
  exact ⟨g, c, e, g1, g2.trans (by simp [leftR]), g3⟩
theorem HasR.intAt {z : LI} (h : HasR w wr mb q l) (hm : iRow z ∈ l) (k : Nat) (hk : k < z.l.length) : ∃ g c, z.v = .slice (some ⟨g, 0, none⟩) z.l.length c ∧ g < wr.heap.size ∧ wr.cell? ⟨g, k, none⟩ = some (.int .i64 (z.l[k] : Nat)) := by
  obtain ⟨g, c, e, -, -, g1, g2, g3⟩ := row_at (h.row hm) k (by show _ < (intsC z.l).length; simpa [intsC] using hk)
  exact ⟨g, c, e, g1, g2.trans (by simp [iRow, intsC])⟩
/-- A name is struck. -/
theorem HasR.struck {v : Value} {ns : List ByteArray} (h : HasR w wr mb q (namesR v ns :: l)) (g : Nat) (hg : v.ownBlock = some g) (k : Nat) : HasR w (wr.setCell ⟨g, k, none⟩ (.string ByteArray.empty)) mb q (namesR v (ns.set k ByteArray.empty) :: l) := by
  have := h.store g hg k (.string ByteArray.empty)
  have e : ({ namesR v ns with xs := (namesR v ns).xs.set k (.string ByteArray.empty) } : Row) = namesR v (ns.set k ByteArray.empty) := by
    simp [namesR, List.map_set]
  rw [e] at this
  exact this
theorem HasR.lefts {v : Value} {ls : List LI} (h : HasR w wr mb q (leftR v ls :: l)) (g : Nat) (hg : v.ownBlock = some g) (k : Nat) (z : LI) : HasR w (wr.setCell ⟨g, k, none⟩ z.v) mb q (leftR v (ls.set k z) :: l) := by
  have := h.store g hg k z.v
  have e : ({ leftR v ls with xs := (leftR v ls).xs.set k z.v } : Row) = leftR v (ls.set k z) := by
    simp [leftR, List.map_set]
  rw [e] at this
  exact this
theorem set_perm {α : Type} (l : List α) (k : Nat) (x : α) (hk : k < l.length) : (l.set k x).Perm (x :: l.eraseIdx k) := by
  induction l generalizing k with
  | nil => simp at hk
  | cons y l ih =>
    cases k with
    | zero => exact List.Perm.refl _
    | succ k => exact ((ih k (by simpa using hk)).cons y).trans (List.Perm.swap _ _ _)
/-- A list set among others. -/
theorem HasR.swap {pre : List Row} {ls : List LI} {z : LI} (h : HasR w wr mb q (iRow z :: (pre ++ iRows ls))) (k : Nat) (hk : k < ls.length) : HasR w wr mb q (pre ++ iRows (ls.set k z)) := by
  have h1 : (iRow z :: (pre ++ iRows (ls.eraseIdx k))).Sublist (iRow z :: (pre ++ iRows ls)) := by
    refine List.Sublist.cons_cons _ ((List.Sublist.refl _).append ?_)
    unfold iRows
    exact (List.eraseIdx_sublist _ _).map _
  refine (h.sub h1).perm ?_
  have h2 : (iRows (ls.set k z)).Perm (iRow z :: iRows (ls.eraseIdx k)) := by
    unfold iRows
    exact (set_perm ls k z hk).map iRow
  exact List.perm_middle.symm.trans (h2.symm.append_left pre)
/-- What is left of a message. -/
theorem HasR.left (h : HasR w wr mb q l) (id : ByteArray) (hrl : ∀ m ∈ q.ms, m.rs.length ≤ 200) :
    Calls Try.prog 39 #[.pointer (some ⟨mb, 0, none⟩), .string id] wr fun e w' => ∃ x c, e = .returned (.slice x (leftQ q id).length c) ∧ (leftQ q id).length ≤ c ∧ c ≤ 9223372036854775807 ∧ HasR w w' mb q (iRow ⟨.slice x (leftQ q id).length c, leftQ q id⟩ :: l) := by
  obtain ⟨L, F, hM, rfl, k3, k4, k5⟩ := h
  refine (left_run mb L F id wr hM hrl).mono ?_
  rintro e w' ⟨v', rfl, hr, hx⟩
  obtain ⟨x, c, rfl, y1, y2⟩ := row_shape hr
  refine ⟨x, c, rfl, y1, y2, L, F, hM.quiet hx, rfl, k3, k4.trans hx, (k5.quiet hx).push (row_lower hr _ k4.size) fun g hg => ?_⟩
  have hge : wr.heap.size ≤ g := row_base hr g hg
  exact ⟨fun f => by have := hM.lt g f; omega, fun r hr' e => by have := row_lt (k5.lie r hr') g e; omega⟩
/-- Two lists of integers: the same? -/
theorem HasR.sameI {a b : List Nat} {x y : Option Addr} {c d : Nat} (h : HasR w wr mb q l) (ha : iRow ⟨.slice x a.length c, a⟩ ∈ l) (hb : iRow ⟨.slice y b.length d, b⟩ ∈ l) (hx : Ext (fun _ => False) wr W) :
    Calls Try.prog 40 #[.slice x a.length c, .slice y b.length d] W (QuietPost (.bool (decide (a = b))) W) := by
  have h1 := ints_of_row ((h.quiet hx).row ha) rfl
  have h2 := ints_of_row ((h.quiet hx).row hb) rfl
  have := sameints_run x y a.length b.length c d _ _ W h1 h2
  have hs : decide (a.length = b.length ∧ ∀ i, i < a.length → ((a.getD i 0 : Nat) : Int) = ((b.getD i 0 : Nat) : Int)) = decide (a = b) := by
    rw [Bool.eq_iff_iff, decide_eq_true_iff, decide_eq_true_iff]
    refine ⟨fun ⟨e, q⟩ => List.ext_getElem e fun i h1 h2 => ?_, fun e => by rw [e]; exact ⟨rfl, fun _ _ => rfl⟩⟩
    have := q i h1
    simp [List.getD_eq_getElem?_getD, h1, h2] at this
    omega
  rw [hs] at this
  exact this
end

theorem kp_perm (c z a b : Row) (A B : List Row) : (c :: z :: a :: b :: (A ++ B)).Perm (a :: b :: c :: ((A ++ [z]) ++ B)) := by
  have h1 : ([c, z] ++ [a, b] ++ (A ++ B)).Perm ([a, b] ++ [c, z] ++ (A ++ B)) := List.perm_append_comm.append_right _
  refine h1.trans (List.Perm.cons _ (List.Perm.cons _ (List.Perm.cons _ ?_)))
  rw [List.append_assoc]
  exact (List.perm_middle (l₁ := A) (a := z) (l₂ := B)).symm
theorem Inv.fitsJ {q : Qs} (h : Inv q) (j : Jb) : JobFits q j := fun m hm hj r hr => stAt_lt (h.fits j m hm hj r hr)

/-- Does a name come again among the next n? -/
def latK (ns : List ByteArray) (k n : Nat) (s : ByteArray) : Bool := ((ns.drop (k + 1)).take n).any fun x => decide (x = s)
theorem latK_next (ns : List ByteArray) (k n : Nat) (s : ByteArray) (h : k + 1 + n < ns.length) : latK ns k (n + 1) s = (latK ns k n s || decide (ns[k + 1 + n] = s)) := by
  unfold latK
  rw [List.take_succ_eq_append_getElem (by simp; omega), List.any_append]
  simp
theorem latK_no {ns : List ByteArray} {k n : Nat} {s : ByteArray} (hn : k + 1 + n = ns.length) (h : latK ns k n s = false) : ∀ m (hm : m < ns.length), k < m → ns[m] ≠ s := by
  intro m hm hk e
  unfold latK at h
  rw [List.any_eq_false] at h
  have h1 : ns[m] ∈ (ns.drop (k + 1)).take n := by
    rw [List.mem_iff_getElem]
    refine ⟨m - (k + 1), by simp; omega, ?_⟩
    simp only [List.getElem_take, List.getElem_drop]
    congr 1
    omega
  exact h _ h1 (by simpa using e)

/-- The places of those that have work, of the first k. -/
def plaK (D : List ByteArray) (k : Nat) : List Nat := placesIn 0 (D.take k)
theorem placesIn_snoc (k : Nat) (l : List ByteArray) (d : ByteArray) : placesIn k (l ++ [d]) = placesIn k l ++ (if d.size = 0 then [] else [k + l.length]) := by
  induction l generalizing k with
  | nil => simp only [List.nil_append, placesIn, List.length_nil, Nat.add_zero]
  | cons x l ih =>
    simp only [List.cons_append, placesIn]
    have := ih (k + 1)
    rw [show k + 1 + l.length = k + (x :: l).length by simp; omega] at this
    split <;> simp [this]
theorem plaK_next (D : List ByteArray) (k : Nat) (hk : k < D.length) : plaK D (k + 1) = plaK D k ++ (if D[k].size = 0 then [] else [k]) := by
  unfold plaK
  rw [List.take_succ_eq_append_getElem hk, placesIn_snoc]
  simp [Nat.min_eq_left (Nat.le_of_lt hk)]
theorem plaK_length (D : List ByteArray) (k : Nat) : (plaK D k).length ≤ D.length := by
  unfold plaK
  refine Nat.le_trans (placesIn_length _ _) ?_
  simp
  omega
theorem plaK_all (D : List ByteArray) : plaK D D.length = placesIn 0 D := by unfold plaK; rw [List.take_of_length_le (Nat.le_refl _)]

/-- Was a recipient answered for good by one of the first k answers? -/
def gonK (j : Jb) (res : List Int) (r k : Nat) : Bool := ((j.rs.zip res).take k).any fun p => decide (p.1 = r) && decide (p.2 ≠ 1)
theorem gonK_next (j : Jb) (res : List Int) (r k : Nat) (h1 : k < j.rs.length) (h2 : k < res.length) : gonK j res r (k + 1) = (gonK j res r k || (decide (j.rs[k] = r) && decide (res[k] ≠ 1))) := by
  unfold gonK
  rw [List.take_succ_eq_append_getElem (by simp; omega), List.any_append]
  simp
theorem gonK_all (j : Jb) (res : List Int) (r : Nat) (h : res.length = j.rs.length) : gonK j res r j.rs.length = goneR j res r := by
  unfold gonK goneR
  rw [List.take_of_length_le (by simp; omega)]
/-- What stays of the first k that were left. -/
def stayK (l : List Nat) (j : Jb) (res : List Int) (k : Nat) : List Nat := (l.take k).filter fun r => !goneR j res r
theorem stayK_next (l : List Nat) (j : Jb) (res : List Int) (k : Nat) (hk : k < l.length) : stayK l j res (k + 1) = stayK l j res k ++ (if goneR j res l[k] then [] else [l[k]]) := by
  unfold stayK
  rw [List.take_succ_eq_append_getElem hk, List.filter_append]
  cases h : goneR j res l[k] <;> simp [h]
theorem stayK_length (l : List Nat) (j : Jb) (res : List Int) (k : Nat) : (stayK l j res k).length ≤ l.length := by
  unfold stayK
  exact Nat.le_trans (List.length_filter_le _ _) (by simp; omega)
theorem stayK_all (l : List Nat) (j : Jb) (res : List Int) : stayK l j res l.length = l.filter fun r => !goneR j res r := by unfold stayK; rw [List.take_of_length_le (Nat.le_refl _)]

/-- The names, those of one message struck among the first k. -/
def strK (id : ByteArray) (ns : List ByteArray) (k : Nat) : List ByteArray := strike id (ns.take k) ++ ns.drop k
theorem strK_length (id : ByteArray) (ns : List ByteArray) (k : Nat) : (strK id ns k).length = ns.length := by
  simp [strK, strike]
  omega
theorem strK_zero (id : ByteArray) (ns : List ByteArray) : strK id ns 0 = ns := by simp [strK, strike]
theorem strK_all (id : ByteArray) (ns : List ByteArray) : strK id ns ns.length = strike id ns := by simp [strK]
theorem strK_at (id : ByteArray) (ns : List ByteArray) (k : Nat) (hk : k < ns.length) (h : k < (strK id ns k).length) : (strK id ns k)[k] = ns[k] := by
  have h2 : (strK id ns k)[k]? = some ns[k] := by
    unfold strK
    rw [List.getElem?_append_right (by simp [strike]; omega)]
    simp [strike, Nat.min_eq_left (Nat.le_of_lt hk), hk]
  rw [List.getElem?_eq_getElem h] at h2
  injection h2
theorem strK_no (id : ByteArray) (ns : List ByteArray) (k : Nat) (hk : k < ns.length) (h : ns[k] ≠ id) : strK id ns (k + 1) = strK id ns k := by
  unfold strK
  rw [List.take_succ_eq_append_getElem hk]
  simp only [strike, List.map_append, List.map_cons, List.map_nil, if_neg h, List.append_assoc, List.singleton_append]
  rw [List.getElem_cons_drop hk]
theorem strK_yes (id : ByteArray) (ns : List ByteArray) (k : Nat) (hk : k < ns.length) (h : ns[k] = id) : strK id ns (k + 1) = (strK id ns k).set k ByteArray.empty := by
  unfold strK
  rw [List.take_succ_eq_append_getElem hk]
  simp only [strike, List.map_append, List.map_cons, List.map_nil, if_pos h, List.append_assoc, List.singleton_append]
  rw [List.set_append_right _ _ (by simp; omega), ← List.getElem_cons_drop hk]
  simp only [List.length_map, List.length_take, Nat.min_eq_left (Nat.le_of_lt hk), Nat.sub_self, List.set_cons_zero]
end Go.Proofs.Ytnakafmlenngnaa.Qm
