/- slices.Delete on a row of jobs of one's own: one goes. -/
import Derived.Test.YtnakafmlenngnaaQair
import Derived.ArgAppend
import Derived.Deep.RegionLaw
namespace Go.Proofs.Ytnakafmlenngnaa.Qm
open Go.RowKit Go.Proofs.Ytnakafmlenngnaa.Wi

theorem splice_cells (b : Nat) (t : TypeId) : ∀ (vs : List Value) (o : Nat) (w : World) (cur : Array Value), w.heap[b]? = some (.cells cur t (0, 0)) → o + vs.length ≤ cur.size →
    ∃ cur', (w.setCells b o vs).heap[b]? = some (.cells cur' t (0, 0)) ∧ cur'.size = cur.size ∧ cur'.toList = cur.toList.take o ++ (vs ++ cur.toList.drop (o + vs.length))
  | [], o, _, cur, h, _ => ⟨cur, h, rfl, by simp⟩
  | v :: r, o, w, cur, h, hl => by
    simp only [List.length_cons] at hl
    obtain ⟨cur', h1, h2, h3⟩ := splice_cells b t r (o + 1) (w.setCell ⟨b, o, none⟩ v) (cur.setIfInBounds o v) (by simp [World.setCell, Array.getElem?_modify, h]) (by simp; omega)
    refine ⟨cur', h1, by simpa using h2, ?_⟩
    rw [h3, Array.toList_setIfInBounds, List.take_set, List.drop_set_of_lt (by omega)]
    have ho : o < cur.toList.length := by simp; omega
    rw [List.take_succ_eq_append_getElem ho, List.set_append_right _ _ (by simp; omega)]
    simp only [List.length_take, List.length_cons, List.append_assoc, List.cons_append]
    rw [show o - min o cur.toList.length = 0 by omega, show o + 1 + r.length = o + (r.length + 1) by omega]
    rfl

theorem erase_cells (l : List LJ) (k : Nat) : (l.eraseIdx k).flatMap jbC = (l.take k).flatMap jbC ++ (l.drop (k + 1)).flatMap jbC := by
  rw [List.eraseIdx_eq_take_drop_succ, List.flatMap_append]

theorem take_cells (l : List LJ) (k : Nat) (hk : k ≤ l.length) : (l.take k).flatMap jbC = (l.flatMap jbC).take (k * 3) ∧ (l.drop k).flatMap jbC = (l.flatMap jbC).drop (k * 3) := by
  have e : l.flatMap jbC = (l.take k).flatMap jbC ++ (l.drop k).flatMap jbC := by rw [← List.flatMap_append, List.take_append_drop]
  have hl : ((l.take k).flatMap jbC).length = k * 3 := by rw [jobs_length]; simp; omega
  rw [e]
  exact ⟨by rw [List.take_append_of_le_length (by omega), ← hl, List.take_length], by rw [← hl, List.drop_left]⟩

/-- 'clear' of one job. -/
theorem run_clear_job (w : World) (g o c : Nat) (hc : ∀ j, j < 3 → (w.cell? ⟨g, o + j, none⟩).isSome = true) (hf : ∀ j, j < 3 → w.frozen? ⟨g, o + j, none⟩ = false) :
    (Builtin.clear_ #[60] 0 #[.slice (some ⟨g, o, none⟩) 1 c]).run Try.prog w = .ok (.tuple #[]) (w.setCells g o [.string ByteArray.empty, .string ByteArray.empty, .slice none 0 0]) := by
  have hz : ∀ w, (zeroValue 49).run Try.prog w = .ok (.agg #[.string ByteArray.empty, .string ByteArray.empty, .slice none 0 0]) w := fun w => by kernel_rfl
  have hst := run_storeCells_cells (P := Try.prog) g o [.string ByteArray.empty, .string ByteArray.empty, .slice none 0 0] 0 w (by simpa using hc) (by simpa using hf) (by intro v hv; simp at hv; rcases hv with rfl | rfl | rfl <;> rfl)
  simp only [Nat.add_zero] at hst
  have hzc : (Builtin.zeroCells (Value.agg #[.string ByteArray.empty, .string ByteArray.empty, .slice none 0 0]).cells 1).toList = [.string ByteArray.empty, .string ByteArray.empty, .slice none 0 0] := by simp [Builtin.zeroCells, Value.cells, Array.range, Array.ofFn]; kernel_rfl
  simp [Builtin.clear_, run_underlying Try.underlying60, hz, hzc, hst]

theorem only_splice (b : Nat) (vs : List Value) (o : Nat) (w : World) : Only b w (w.setCells b o vs) := only_setCells b vs o w

def DelPost (v : Value) (l : List LJ) (at_ : Nat) (w : World) (e : Ending) (w' : World) : Prop :=
  ∃ v', e = .returned v' ∧ w'.ownsRow 0 49 3 v' (l.length - 1) ((l.eraseIdx at_).flatMap jbC) ∧ v'.ownBlock = v.ownBlock ∧ Ext (fun k => v.ownBlock = some k) w w'

/-- What the two writes leave. -/
theorem del_row {g cap n k : Nat} {l : List LJ} {cur : Array Value} {w : World} (hh : w.heap[g]? = some (.cells cur 49 (0, 0))) (hcap : n ≤ cap) (hmax : cap ≤ maxLen) (hsz : cur.size = cap * 3) (hcur : cur.toList.take (n * 3) = l.flatMap jbC) (hln : l.length = n) (hk : k < n) :
    DelPost (.slice (some ⟨g, 0, none⟩) n cap) l k w (.returned (.slice (some ⟨g, 0, none⟩) (n - 1) cap)) (((w.setCells g (k * 3) ((l.drop (k + 1)).flatMap jbC))).setCells g ((n - 1) * 3) [.string ByteArray.empty, .string ByteArray.empty, .slice none 0 0]) := by
  have hlr : ((l.drop (k + 1)).flatMap jbC).length = (n - 1 - k) * 3 := by rw [jobs_length]; simp; omega
  obtain ⟨c1, a1, a2, a3⟩ := splice_cells g 49 ((l.drop (k + 1)).flatMap jbC) (k * 3) w cur hh (by rw [hlr, hsz]; omega)
  obtain ⟨c2, b1, b2, b3⟩ := splice_cells g 49 [.string ByteArray.empty, .string ByteArray.empty, .slice none 0 0] ((n - 1) * 3) _ c1 a1 (by rw [a2, hsz]; simp; omega)
  have ho := (only_setCells g ((l.drop (k + 1)).flatMap jbC) (k * 3) w).trans (only_setCells g [.string ByteArray.empty, .string ByteArray.empty, .slice none 0 0] ((n - 1) * 3) _)
  refine ⟨_, rfl, ⟨by rw [jobs_length, List.length_eraseIdx]; simp [hln, hk], .inr ⟨g, cap, c2, by rw [hln], Nat.zero_le _, b1, by omega, hmax, by rw [b2, a2, hsz], ?_⟩⟩, rfl, ⟨ho.os, ho.tape, ho.output, by rw [ho.size]; exact Nat.le_refl _, fun i _ hi => ho.block i fun e => hi (by rw [e]; rfl)⟩⟩
  rw [hln, b3, List.take_append_of_le_length (by rw [List.length_take, Array.length_toList, a2, hsz]; omega), List.take_take, Nat.min_self, a3, erase_cells]
  have e1 : (l.take k).flatMap jbC = cur.toList.take (k * 3) := by
    rw [(take_cells l k (by omega)).1, ← hcur, List.take_take, Nat.min_eq_left (by omega)]
  rw [e1]
  have hl1 : (cur.toList.take (k * 3)).length = k * 3 := by rw [List.length_take, Array.length_toList, hsz]; omega
  rw [← List.append_assoc, List.take_append_of_le_length (by rw [List.length_append, hl1, hlr]; omega)]
  refine List.take_of_length_le ?_
  rw [List.length_append, hl1, hlr]
  omega

theorem setCells_drew (b : Nat) : ∀ (vs : List Value) (o : Nat) (w : World), w.drew.setCells b o vs = (w.setCells b o vs).drew
  | [], _, _ => rfl
  | v :: r, o, w => by
    rw [World.setCells, World.setCells, ← setCells_drew b r (o + 1) (w.setCell ⟨b, o, none⟩ v)]
    rfl
theorem del_drew {v : Value} {l : List LJ} {k : Nat} {w : World} {e : Ending} {g o1 o2 : Nat} {xs ys : List Value} (h : DelPost v l k w e ((w.setCells g o1 xs).setCells g o2 ys)) : DelPost v l k w e ((w.drew.setCells g o1 xs).setCells g o2 ys) := by
  rw [setCells_drew, setCells_drew]
  obtain ⟨v', h1, h2, h3, h4⟩ := h
  exact ⟨v', h1, h2, h3, h4.drew⟩

set_option maxHeartbeats 4000000 in
set_option maxRecDepth 100000 in
theorem del60_run (v : Value) (l : List LJ) (n k : Nat) (w : World) (hrow : w.ownsRow 0 49 3 v n (l.flatMap jbC)) (hln : l.length = n) (hk : k < n) (hv : ∀ z ∈ l, z.v.oneCell' = true) :
    Calls Try.prog 60 #[v, .int .i64 (k : Nat), .int .i64 ((k : Int) + 1)] w (DelPost v l k w) := by
  obtain ⟨-, ⟨-, rfl⟩ | ⟨g, cap, cur, rfl, -, hh, hcap, hmax, hsz, hcur⟩⟩ := hrow
  · omega
  have hP := hid (del_row hh hcap hmax hsz hcur hln hk)
  have hm : cap ≤ 9223372036854775807 := by unfold maxLen at hmax; omega
  have hlr : ((l.drop (k + 1)).flatMap jbC).length = (n - (k + 1)) * 3 := by rw [jobs_length]; simp; omega
  obtain ⟨i, i1, i2, i3, i4⟩ := info49
  have happ := fun (off2 : Nat) (ho : off2 = (k + 1) * 3 ∨ n = k + 1) => run_append_room_cells (P := Try.prog) w.drew 60 60 49 i Try.underlying60 i1 g 0 k cap ⟨g, off2, none⟩ (n - (k + 1)) (cap - (k + 1)) ((l.drop (k + 1)).flatMap jbC) (by rw [i3, hlr]) (fun j u hu => by
      have hjl := (List.getElem?_eq_some_iff.1 hu).1
      obtain rfl : off2 = (k + 1) * 3 := by
        rcases ho with ho | ho
        · exact ho
        · have : ((l.drop (k + 1)).flatMap jbC).length = 0 := by rw [hlr, ho]; omega
          omega
      have ea : (⟨g, (k + 1) * 3, none⟩ : Addr).add j = ⟨g, (k + 1) * 3 + j, none⟩ := by unfold Addr.add; split <;> simp_all
      rw [ea]
      have hh' : w.drew.heap[g]? = some (.cells cur 49 (0, 0)) := hh
      unfold World.cell?
      simp only [hh']
      rw [(take_cells l (k + 1) (by omega)).2, ← hcur, List.getElem?_drop, List.getElem?_take_of_lt (by omega)] at hu
      simpa using hu)
    (fun u hu => by
      obtain ⟨z, hz, hu⟩ := List.mem_flatMap.1 hu
      have := hv z (List.mem_of_mem_drop hz)
      simp only [jbC, List.mem_cons, List.not_mem_nil, or_false] at hu
      rcases hu with rfl | rfl | rfl
      · rfl
      · rfl
      · exact this) (by omega)
    (fun j hj => by
      have hh' : w.drew.heap[g]? = some (.cells cur 49 (0, 0)) := hh
      unfold World.cell?
      simp only [hh', i3]
      rw [Array.getElem?_eq_getElem (by omega)]
      rfl)
    (fun j hj => by
      have hh' : w.drew.heap[g]? = some (.cells cur 49 (0, 0)) := hh
      unfold World.frozen?
      simp [hh'])
  simp only [i3] at happ
  have hcl : (Builtin.clear_ #[60] 0 #[.slice (some ⟨g, (n - 1) * 3, none⟩) 1 (cap - (n - 1))]).run Try.prog (w.drew.setCells g (0 + k * 3) ((l.drop (k + 1)).flatMap jbC)) = .ok (.tuple #[]) ((w.drew.setCells g (0 + k * 3) ((l.drop (k + 1)).flatMap jbC)).setCells g ((n - 1) * 3) [.string ByteArray.empty, .string ByteArray.empty, .slice none 0 0]) := by
    obtain ⟨c1, a1, a2, a3⟩ := splice_cells g 49 ((l.drop (k + 1)).flatMap jbC) (0 + k * 3) w.drew cur hh (by rw [hlr, hsz]; omega)
    refine run_clear_job _ g ((n - 1) * 3) _ (fun j hj => ?_) (fun j hj => by unfold World.frozen?; simp only [a1]; simp)
    unfold World.cell?
    simp only [a1]
    rw [Array.getElem?_eq_getElem (by rw [a2, hsz]; omega)]
    rfl
  have hnk : k + (n - (k + 1)) = n - 1 := by omega
  simp only [hnk, Nat.zero_add] at happ hcl
  clear hh hsz hcur hlr hv
  generalize (l.drop (k + 1)).flatMap jbC = news at happ hcl hP
  go_enter Try.func60, Try.ntmps60
  go_wp2_with fail
  have hkc : k ≤ cap := by omega
  have hk0 : (0 : Int) ≤ (k : Int) + 1 := by omega
  have hk2 : (k : Int) + 1 ≤ (n : Int) := by omega
  have hk3 : ((k : Int) + 1).toNat = k + 1 := by omega
  have hk4 : k + 1 ≤ n := by omega
  obtain ⟨N, hN⟩ : ∃ N, N = n - 1 := ⟨_, rfl⟩
  have hn1 : n = N + 1 := by omega
  subst hn1
  simp only [Nat.add_sub_cancel, Nat.add_sub_add_right] at happ hcl hP
  have hkN : k ≤ N := by omega
  clear hN hnk
  by_cases hck : cap = k + 1
  · have happ := happ 0 (.inr (by omega))
    subst hck
    obtain rfl : N = k := by omega
    simp only [Nat.sub_self] at happ
    simp only [Nat.add_sub_cancel_left] at hcl
    have hkc1 : (N : Int) ≤ (N : Int) + 1 := by omega
    go_region_law (first | (refine step_append_run rfl (.tmp 22) (.tmp 25) #[60, 60] rfl _ _ _ _ (by simp [Act.eval, Act.put]) (by simp [Act.eval, Act.put]) happ ?_))
    all_goals go_wp2_with fail
    all_goals go_ret
    all_goals exact del_drew hP.out
  · have happ := happ ((k + 1) * 3) (.inl rfl)
    go_region_law (first | (refine step_append_run rfl (.tmp 22) (.tmp 25) #[60, 60] rfl _ _ _ _ (by simp [Act.eval, Act.put]) (by simp [Act.eval, Act.put]) happ ?_))
    all_goals go_wp2_with fail
    all_goals go_ret
    all_goals exact del_drew hP.out
end Go.Proofs.Ytnakafmlenngnaa.Qm
