/- QmgrFair: the walk. -/
import Derived.Test.YtnakafmlenngnaaQaw
import Derived.Test.YtnakafmlenngnaaQfm
import Derived.Laws.BytesArg
namespace Go.Proofs.Ytnakafmlenngnaa.Qm
open Go.RowKit Go.Proofs.Ytnakafmlenngnaa.Wi

theorem conv_bytes (w : World) (g : Nat) (xs : List Int) (n : Nat) (hn : xs.length = n) (h : ∀ i, i < n → w.cell? ⟨g, 0 + i, none⟩ = some (.int .u8 (xs.getD i 0))) : (convert 45 9 (.slice (some ⟨g, 0, none⟩) n n)).run Try.prog w = .ok (.string ⟨(xs.map fun n => UInt8.ofNat n.toNat).toArray⟩) w :=
  run_convert_bytes_arg w 45 5 Try.underlying45 Try.underlying5 g 0 n n xs hn h 9 Try.underlying9
theorem conv_two (w : World) (x y : Nat) : (convert 45 9 (.slice (some ⟨w.heap.size, 0, none⟩) 2 2)).run Try.prog (w.alloc (.cells #[.int .u8 (97 + (x : Int)), .int .u8 (48 + (y : Int))] 5)) = .ok (.string (idF x y)) (w.alloc (.cells #[.int .u8 (97 + (x : Int)), .int .u8 (48 + (y : Int))] 5)) := by
  have e := (MapKept.heap_alloc w (.cells #[.int .u8 (97 + (x : Int)), .int .u8 (48 + (y : Int))] 5)).1
  rw [conv_bytes _ w.heap.size [97 + (x : Int), 48 + (y : Int)] 2 rfl (fun i hi => by
    rcases (by omega : i = 0 ∨ i = 1) with rfl | rfl <;> (unfold World.cell?; rw [e]; rfl))]
  have e1 : (97 + (x : Int)).toNat = 97 + x := by omega
  have e2 : (48 + (y : Int)).toNat = 48 + y := by omega
  simp [idF, e1, e2]
theorem conv_one (w : World) (x : Nat) (g : Nat) (hg : w.heap.size = g) : (convert 45 9 (.slice (some ⟨g, 0, none⟩) 1 1)).run Try.prog (w.alloc (.cells #[.int .u8 (65 + (x : Int))] 5)) = .ok (.string (nameF x)) (w.alloc (.cells #[.int .u8 (65 + (x : Int))] 5)) := by
  subst hg
  have e := (MapKept.heap_alloc w (.cells #[.int .u8 (65 + (x : Int))] 5)).1
  rw [conv_bytes _ w.heap.size [65 + (x : Int)] 1 rfl (fun i hi => by
    obtain rfl : i = 0 := by omega
    unfold World.cell?; rw [e]; rfl)]
  have e1 : (65 + (x : Int)).toNat = 65 + x := by omega
  simp [nameF, e1]

/-- What is next in the check of the adds. -/
theorem chkA_step {many total k i : Nat} {q : Qs} (hi : i < many) (ht : k * many + i < total) (h : chkA many total (total - (k * many + i)) (k * many + i) q = true) :
    (add q (idF i k) 0 [nameF i] 0).1 = 0 ∧ chkA many total (total - (k * many + (i + 1))) (k * many + (i + 1)) (add q (idF i k) 0 [nameF i] 0).2 = true := by
  have e : total - (k * many + i) = (total - (k * many + (i + 1))) + 1 := by omega
  have e1 : (k * many + i) % many = i := by rw [Nat.mul_comm, Nat.mul_add_mod]; exact Nat.mod_eq_of_lt hi
  have e2 : (k * many + i) / many = k := by
    rw [Nat.mul_comm, Nat.mul_add_div (by omega), Nat.div_eq_of_lt hi, Nat.add_zero]
  rw [e, chkA, e1, e2] at h
  simp only [Bool.and_eq_true, decide_eq_true_eq] at h
  exact h

/-- A manager of the call's own stands as q. -/
def Has (w wr : World) (mb : Nat) (q : Qs) : Prop := ∃ L F, Mg wr mb L F ∧ L.q = q ∧ (∀ k, F k → w.heap.size ≤ k) ∧ Ext (fun _ => False) w wr

theorem Has.quiet {w wr w' : World} {mb : Nat} {q : Qs} (h : Has w wr mb q) (hx : Ext (fun _ => False) wr w') : Has w w' mb q := by
  obtain ⟨L, F, h1, h2, h3, h4⟩ := h
  exact ⟨L, F, h1.quiet hx, h2, h3, h4.trans hx⟩
theorem own_ext {w wr w' : World} {F : Nat → Prop} (h3 : ∀ k, F k → w.heap.size ≤ k) (h4 : Ext (fun _ => False) w wr) (hx : Ext F wr w') : Ext (fun _ => False) w w' :=
  ⟨hx.os.trans h4.os, hx.tape.trans h4.tape, hx.output.trans h4.output, Nat.le_trans h4.size hx.size, fun k hk _ => (hx.block k (Nat.lt_of_lt_of_le hk h4.size) fun f => by have := h3 k f; omega).trans (h4.block k hk fun f => f)⟩
theorem own_grow {w wr w' : World} {F F' : Nat → Prop} (h3 : ∀ k, F k → w.heap.size ≤ k) (h4 : w.heap.size ≤ wr.heap.size) (hg : Grow F wr w' F') : ∀ k, F' k → w.heap.size ≤ k := fun k hk => by
  rcases hg k hk with f | f
  · exact h3 k f
  · omega

theorem Has.add {w wr W : World} {mb : Nat} {q : Qs} (h : Has w wr mb q) (hx : Ext (fun _ => False) wr W) {b : Nat} {D : List ByteArray} (hD : StrsAt W (some ⟨b, 0, none⟩) D) (hb : wr.heap.size ≤ b) (id : ByteArray) (came now : Int) (c : Nat) (h1 : q.ms.length ≤ 50000) (h2 : q.ds.length ≤ 50000) :
    Calls Try.prog 28 #[.pointer (some ⟨mb, 0, none⟩), .string id, .int .i64 came, .slice (some ⟨b, 0, none⟩) D.length c, .int .i64 now] W fun e w' => e = .returned (.int .i64 (add q id came D now).1) ∧ Has w w' mb (add q id came D now).2 := by
  obtain ⟨L, F, hM, rfl, h3, h4⟩ := h
  simp only [Lq.q, List.length_map] at h1 h2
  refine (add_run mb L F id came now _ D c W (hM.quiet hx) h1 h2 hD (fun b' o e f => ?_)).mono ?_
  · injection e with e
    injection e with e
    have := hM.lt b' f
    omega
  · rintro e w' ⟨rfl, L', F', k1, k2, k3, k4⟩
    have h5 := h4.trans hx
    exact ⟨rfl, L', F', k1, k4, own_grow h3 h5.size k2, own_ext h3 h5 k3⟩

def NextHas (w : World) (mb : Nat) (q : Qs) (e : Ending) (w' : World) : Prop :=
  (next q = none ∧ e = .returned (.tuple #[.agg #[.string ByteArray.empty, .string ByteArray.empty, .slice none 0 0], .bool false]) ∧ Has w w' mb q) ∨
  ∃ j q' v, next q = some (j, q') ∧ e = .returned (.tuple #[.agg #[.string j.id, .string j.dest, v], .bool true]) ∧ Has w w' mb q' ∧ ∃ x c, v = .slice x j.rs.length c

theorem Has.next {w wr : World} {mb : Nat} {q : Qs} (h : Has w wr mb q) (h1 : q.ms.length ≤ 50000) (h2 : q.ds.length ≤ 50000) (h3 : q.jobs.length ≤ 50000) :
    Calls Try.prog 29 #[.pointer (some ⟨mb, 0, none⟩)] wr (NextHas w mb q) := by
  obtain ⟨L, F, hM, rfl, k3, k4⟩ := h
  simp only [Lq.q, List.length_map] at h1 h2 h3
  refine (next_run mb L F wr hM h1 h2 h3).mono ?_
  rintro e w' (⟨g1, rfl, L', F', g2, g3, g4, g5⟩ | ⟨j, q', v, g1, rfl, L', F', g2, g3, g4, g5, g6, g7⟩)
  · exact .inl ⟨g1, rfl, L', F', g2, g5, own_grow k3 k4.size g3, own_ext k3 k4 g4⟩
  · obtain ⟨x, c, e, -⟩ := row_shape g6
    exact .inr ⟨j, q', v, g1, rfl, ⟨L', F', g2, g5, own_grow k3 k4.size g3, own_ext k3 k4 g4⟩, x, c, e⟩

/-- .. and block x of the call's own is o. -/
def HasX (w wr : World) (mb : Nat) (q : Qs) (x : Nat) (o : Obj) : Prop := ∃ L F, Mg wr mb L F ∧ L.q = q ∧ (∀ k, F k → w.heap.size ≤ k) ∧ Ext (fun _ => False) w wr ∧ ¬ F x ∧ wr.heap[x]? = some o ∧ w.heap.size ≤ x
theorem Has.box {w wr : World} {mb : Nat} {q : Qs} (h : Has w wr mb q) (cs : Array Value) (t : TypeId) : HasX w (wr.alloc (.cells cs t)) mb q wr.heap.size (.cells cs t (0, 0)) := by
  obtain ⟨L, F, h1, h2, h3, h4⟩ := h
  have hx : Ext (fun _ => False) wr (wr.alloc (.cells cs t)) := (Ext.refl _ _).alloc _
  exact ⟨L, F, h1.quiet hx, h2, h3, h4.trans hx, fun f => by have := h1.lt _ f; omega, (MapKept.heap_alloc wr (.cells cs t)).1, h4.size⟩
theorem HasX.has {w wr : World} {mb : Nat} {q : Qs} {x : Nat} {o : Obj} (h : HasX w wr mb q x o) : Has w wr mb q := by
  obtain ⟨L, F, h1, h2, h3, h4, -⟩ := h
  exact ⟨L, F, h1, h2, h3, h4⟩
theorem HasX.quiet {w wr w' : World} {mb : Nat} {q : Qs} {x : Nat} {o : Obj} (h : HasX w wr mb q x o) (hx : Ext (fun _ => False) wr w') : HasX w w' mb q x o := by
  obtain ⟨L, F, h1, h2, h3, h4, h5, h6, h7⟩ := h
  exact ⟨L, F, h1.quiet hx, h2, h3, h4.trans hx, h5, (hx.block _ (heap_lt h6) fun f => f).trans h6, h7⟩
theorem HasX.store {w wr : World} {mb : Nat} {q : Qs} {x : Nat} {cs : Array Value} {t : TypeId} (h : HasX w wr mb q x (.cells cs t (0, 0))) (o : Nat) (v : Value) : HasX w (wr.setCell ⟨x, o, none⟩ v) mb q x (.cells (cs.setIfInBounds o v) t (0, 0)) := by
  obtain ⟨L, F, h1, h2, h3, h4, h5, h6, h7⟩ := h
  exact ⟨L, F, h1.setX x o v h5, h2, h3, h4.setCell_new x o v h7, h5, by simp [World.setCell, Array.getElem?_modify, h6], h7⟩
theorem HasX.next {w wr : World} {mb : Nat} {q : Qs} {x : Nat} {o : Obj} (h : HasX w wr mb q x o) (h1 : q.ms.length ≤ 50000) (h2 : q.ds.length ≤ 50000) (h3 : q.jobs.length ≤ 50000) {d : ByteArray} (hq : (match next q with | none => false | some y => decide (y.1.dest = d)) = true) :
    Calls Try.prog 29 #[.pointer (some ⟨mb, 0, none⟩)] wr fun e w' => ∃ j q' y c, next q = some (j, q') ∧ e = .returned (.tuple #[.agg #[.string j.id, .string d, .slice y j.rs.length c], .bool true]) ∧ HasX w w' mb q' x o := by
  obtain ⟨L, F, hM, rfl, k3, k4, k5, k6, k7⟩ := h
  simp only [Lq.q, List.length_map] at h1 h2 h3
  refine (next_run mb L F wr hM h1 h2 h3).mono ?_
  rintro e w' (⟨g1, -⟩ | ⟨j, q', v, g1, rfl, L', F', g2, g3, g4, g5, g6, g7⟩)
  · rw [g1] at hq; cases hq
  · obtain ⟨y, c, rfl, -⟩ := row_shape g6
    rw [g1] at hq
    simp only [decide_eq_true_eq] at hq
    rw [← hq]
    refine ⟨j, q', y, c, g1, rfl, L', F', g2, g5, own_grow k3 k4.size g3, own_ext k3 k4 g4, fun f => ?_, (g4.block _ (heap_lt k6) k5).trans k6, k7⟩
    rcases g3 x f with f | f
    · exact k5 f
    · have := heap_lt k6; omega

theorem nameF_byte (i : Nat) (hi : i < 20) : (nameF i).size = 1 ∧ ∀ h : 0 < (nameF i).size, (((nameF i)[0]'h).toNat : Int) = 65 + i := by
  refine ⟨rfl, fun h => ?_⟩
  show ((UInt8.ofNat (65 + i)).toNat : Int) = 65 + i
  rw [UInt8.toNat_ofNat']
  omega

theorem chkN_step {many total k i : Nat} {q : Qs} (hi : i < many) (ht : k * many + i < total) (h : chkN many (total - (k * many + i)) (k * many + i) q = true) :
    (match next q with | none => false | some y => decide (y.1.dest = nameF i)) = true ∧ ∀ j q', next q = some (j, q') → chkN many (total - (k * many + (i + 1))) (k * many + (i + 1)) q' = true := by
  have e : total - (k * many + i) = (total - (k * many + (i + 1))) + 1 := by omega
  have e1 : (k * many + i) % many = i := by rw [Nat.mul_comm, Nat.mul_add_mod]; exact Nat.mod_eq_of_lt hi
  rw [e, chkN, e1] at h
  cases hn : next q with
  | none => rw [hn] at h; cases h
  | some y =>
    rw [hn] at h
    simp only [Bool.and_eq_true] at h
    refine ⟨h.1, fun j q' e => ?_⟩
    injection e with e
    rw [e] at h
    exact h.2

/-- Which of the twenty were met, i of them having been. -/
def metA (i : Nat) : Array Value := (List.map (fun j => Value.bool (decide (j < i))) (List.range 20)).toArray
theorem metA_at (i : Nat) (hi : i < 20) : (metA i)[i]? = some (.bool false) := by simp [metA, hi]
theorem metA_set (i : Nat) : (metA i).setIfInBounds i (.bool true) = metA (i + 1) := by
  unfold metA
  rw [List.setIfInBounds_toArray]
  congr 1
  refine List.ext_getElem (by simp) fun j h1 h2 => ?_
  simp only [List.length_set, List.length_map, List.length_range] at h1
  rw [List.getElem_set]
  simp only [List.getElem_map, List.getElem_range]
  split
  · rename_i e; subst e; simp
  · congr 1
    rw [Bool.eq_iff_iff]
    simp only [decide_eq_true_eq]
    omega

theorem endsM_length (lm : Lm) (now : Int) (ms : List Ml) : (endsM lm now ms).length ≤ ms.length := by
  unfold endsM
  rw [List.length_map]
  exact List.length_filter_le _ _
theorem addFold_length (lm : Lm) (now : Int) (D : List ByteArray) (x : List Ds × List Rc) : (D.foldl (addTo lm now) x).1.length ≤ x.1.length + D.length := by
  induction D generalizing x with
  | nil => simp
  | cons d D ih =>
    rw [List.foldl_cons]
    have h1 := ih (addTo lm now x d)
    have h2 : (addTo lm now x d).1.length ≤ x.1.length + 1 := by
      unfold addTo
      split
      · simp
      · exact queueD_length _ _ _ _
    simp only [List.length_cons]
    omega
theorem add_lengths (q : Qs) (id : ByteArray) (came : Int) (D : List ByteArray) (now : Int) : (add q id came D now).2.ms.length ≤ q.ms.length + 1 ∧ (add q id came D now).2.ds.length ≤ q.ds.length + D.length ∧ (add q id came D now).2.jobs = q.jobs := by
  unfold add
  split
  · simp
  split
  · simp
  split
  · simp
  · refine ⟨?_, addFold_length _ _ _ _, rfl⟩
    refine Nat.le_trans (endsM_length _ _ _) ?_
    simp
theorem next_lengths {q : Qs} {j : Jb} {q' : Qs} (h : next q = some (j, q')) : q'.ms.length = q.ms.length ∧ q'.ds.length = q.ds.length ∧ q'.jobs.length = q.jobs.length + 1 := by
  unfold next at h
  split at h
  · cases h
  · split at h
    · split at h
      · cases h
      · injection h with h
        unfold begin_ at h
        injection h with h1 h2
        subst h2
        simp
    · cases h

set_option maxHeartbeats 8000000 in
set_option maxRecDepth 100000 in
theorem fair_run (a b : Int) (w : World) : Calls Try.prog 6 #[.int .i64 a, .int .i64 b] w fun e w' => e = .returned (.bool true) ∧ Ext (fun _ => False) w w' := by
  by_cases hb : a < 1 ∨ 20 < a ∨ b < 1 ∨ 5 < b
  · have hc : a < 1 ∨ (¬ a < 1 ∧ 20 < a) ∨ (¬ a < 1 ∧ ¬ 20 < a ∧ b < 1) ∨ (¬ a < 1 ∧ ¬ 20 < a ∧ ¬ b < 1 ∧ 5 < b) := by omega
    clear hb
    rcases hc with h1 | ⟨h1, h2⟩ | ⟨h1, h2, h3⟩ | ⟨h1, h2, h3, h4⟩
    all_goals
      go_enter Try.func6, Try.ntmps6
      go_wp2_with fail
      refine (awake_run w).mono ?_
      rintro e w1 ⟨rfl, hx1⟩
      go_wp2_with fail
      go_ret
      exact ⟨rfl, hx1⟩
  · have h1 : decide (a < 1) = false := by simp; omega
    have h2 : decide (20 < a) = false := by simp; omega
    have h3 : decide (b < 1) = false := by simp; omega
    have h4 : decide (5 < b) = false := by simp; omega
    obtain ⟨many, rfl⟩ := Int.eq_ofNat_of_zero_le (show 0 ≤ a by omega)
    obtain ⟨rounds, rfl⟩ := Int.eq_ofNat_of_zero_le (show 0 ≤ b by omega)
    have HN := (show Hid (∀ W, Calls Try.prog 27 #[.agg #[.int .i64 100, .int .i64 5, .int .i64 5, .int .i64 1, .int .i64 1, .int .i64 1000]] W (NewPost lmF W)) from fun W => new_ok_run lmF (by unfold Lm.Ok lmF; decide) W)
    go_enter Try.func6, Try.ntmps6
    go_wp2_with fail
    refine (awake_run w).mono ?_
    rintro e w1 ⟨rfl, hx1⟩
    go_wp2_with fail
    refine (HN.out _).mono ?_
    rintro e w2 ⟨mb, L, F, rfl, hM, hq, hx2, hF⟩
    have HX2 := hid (hx1.trans hx2)
    have HF := (show Hid (∀ k, F k → w.heap.size ≤ k) from fun k hk => Nat.le_trans hx1.size (hF k hk))
    have HM := hid hM
    have HQ := hid hq
    clear hM hq hx1 hx2 hF HN
    have H0 := (show Hid (Has w w2 mb (begin0 lmF)) from ⟨L, F, HM.out, HQ.out, HF.out, HX2.out⟩)
    clear HM HQ HF HX2
    have hm1 : 1 ≤ many := by omega
    have hm2 : many ≤ 20 := by omega
    have hr1 : 1 ≤ rounds := by omega
    have hr2 : rounds ≤ 5 := by omega
    have HC := hid (fair_all many rounds hm1 hm2 hr1 hr2)
    clear hb h1 h2 h3 h4
    go_wp2_with fail
    go_loopg [8] rounds (fun gg kx wr => ∃ k : Nat, kx = .int .i64 k ∧ k + gg = rounds ∧ ∃ q, Hid (Has w wr mb q ∧ chkA many (many * rounds) (many * rounds - k * many) (k * many) q = true ∧ q.ms.length ≤ k * many ∧ q.ds.length ≤ k * many ∧ q.jobs.length = 0))
    case atStart => exact ⟨0, rfl, by omega, begin0 lmF, H0.out, by have := HC.out; unfold fairAt at this; simpa [begin0] using this, by simp [begin0], by simp [begin0], rfl⟩
    case round =>
      obtain ⟨k, rfl, hk, q, HI⟩ := hrel
      have Hk := hid hk
      have hkr : k ≤ rounds := by omega
      clear hk H0 HC
      by_cases hlt : k < rounds
      · obtain ⟨gko, hgo⟩ : ∃ g, g = gk := ⟨gk, rfl⟩
        have Hgo := hid hgo
        clear hgo
        go_wp2_with fail
        go_loopg [9] many (fun gg ix wy => ∃ i : Nat, ix = .int .i64 i ∧ i + gg = many ∧ ∃ q, Hid (Has w wy mb q ∧ chkA many (many * rounds) (many * rounds - (k * many + i)) (k * many + i) q = true ∧ q.ms.length ≤ k * many + i ∧ q.ds.length ≤ k * many + i ∧ q.jobs.length = 0))
        case atStart => exact ⟨0, rfl, by omega, q, HI.out⟩
        case round =>
          obtain ⟨i, rfl, hi, q2, HJ⟩ := hrel
          have Hi := hid hi
          have him : i ≤ many := by omega
          clear hi HI
          by_cases hil : i < many
          · have hc1 := conv_two wr i k
            have hc2 := conv_one (wr.alloc (.cells #[.int .u8 (97 + (i : Int)), .int .u8 (48 + (k : Int))] 5)) i (wr.heap.size + 1) (by simp)
            have hp : k * many + i < many * rounds := by
              have : k * many + many ≤ rounds * many := by
                rw [← Nat.succ_mul]
                exact Nat.mul_le_mul_right many hlt
              rw [Nat.mul_comm many rounds]
              omega
            have hkm : k * many ≤ 100 := Nat.mul_le_mul (by omega : k ≤ 5) hm2
            have hx3 : Ext (fun _ => False) wr (((wr.alloc (.cells #[.int .u8 (97 + (i : Int)), .int .u8 (48 + (k : Int))] 5)).alloc (.cells #[.int .u8 (65 + (i : Int))] 5)).alloc (.cells #[.string (nameF i)] 9)) := (((Ext.refl _ _).alloc _).alloc _).alloc _
            have HA := (show Hid (Calls Try.prog 28 #[.pointer (some ⟨mb, 0, none⟩), .string (idF i k), .int .i64 0, .slice (some ⟨wr.heap.size + 1 + 1, 0, none⟩) 1 1, .int .i64 0] (((wr.alloc (.cells #[.int .u8 (97 + (i : Int)), .int .u8 (48 + (k : Int))] 5)).alloc (.cells #[.int .u8 (65 + (i : Int))] 5)).alloc (.cells #[.string (nameF i)] 9)) fun e w' => e = .returned (.int .i64 0) ∧ Has w w' mb (add q2 (idF i k) 0 [nameF i] 0).2) from by
              obtain ⟨j1, j2, j3, j4, j5⟩ := HJ.out
              have hs := strs1 ((wr.alloc (.cells #[.int .u8 (97 + (i : Int)), .int .u8 (48 + (k : Int))] 5)).alloc (.cells #[.int .u8 (65 + (i : Int))] 5)) (nameF i) 9
              have e : ((wr.alloc (.cells #[.int .u8 (97 + (i : Int)), .int .u8 (48 + (k : Int))] 5)).alloc (.cells #[.int .u8 (65 + (i : Int))] 5)).heap.size = wr.heap.size + 1 + 1 := by simp
              rw [e] at hs
              have := j1.add hx3 hs (by omega) (idF i k) 0 0 1 (by omega) (by omega)
              rw [(chkA_step hil hp j2).1] at this
              exact this)
            have HC2 : Hid (chkA many (many * rounds) (many * rounds - (k * many + (i + 1))) (k * many + (i + 1)) (add q2 (idF i k) 0 [nameF i] 0).2 = true ∧ (add q2 (idF i k) 0 [nameF i] 0).2.ms.length ≤ k * many + (i + 1) ∧ (add q2 (idF i k) 0 [nameF i] 0).2.ds.length ≤ k * many + (i + 1) ∧ (add q2 (idF i k) 0 [nameF i] 0).2.jobs.length = 0) := by
              show _ ∧ _ ∧ _ ∧ _
              obtain ⟨j1, j2, j3, j4, j5⟩ := HJ.out
              obtain ⟨l1, l2, l3⟩ := add_lengths q2 (idF i k) 0 [nameF i] 0
              refine ⟨(chkA_step hil hp j2).2, by omega, ?_, by rw [l3]; exact j5⟩
              simp only [List.length_cons, List.length_nil] at l2
              omega
            generalize (add q2 (idF i k) 0 [nameF i] 0).2 = q3 at HA HC2
            generalize idF i k = ti at HA hc1
            generalize nameF i = tn at HA hc2
            clear hx3 HJ hp
            go_wp2_with fail
            refine HA.out.mono ?_
            rintro e w3 ⟨rfl, h3⟩
            have H3 := hid h3
            clear h3 HA hc1 hc2
            go_wp2_with fail
            go_roundg (gk - 1)
            case measure => have := Hi.out; omega
            case rel => exact ⟨i + 1, by go_num, by have := Hi.out; omega, q3, H3.out, HC2.out⟩
          · obtain rfl : i = many := by omega
            go_wp2_with fail
            go_roundg (gko - 1)
            case measure => have := Hk.out; have := Hgo.out; omega
            case rel => exact ⟨k + 1, by go_num, by have := Hk.out; have := Hgo.out; omega, q2, by have := HJ.out; rw [Nat.succ_mul]; exact this⟩
      · obtain rfl : k = rounds := by omega
        have HI2 := (show Hid (Has w wr mb q ∧ chkN many (many * k) 0 q = true ∧ q.ms.length ≤ 100 ∧ q.ds.length ≤ 100 ∧ q.jobs.length = 0) from by
          obtain ⟨j1, j2, j3, j4, j5⟩ := HI.out
          have e : many * k - k * many = 0 := by rw [Nat.mul_comm]; omega
          have e2 : k * many ≤ 100 := Nat.mul_le_mul hr2 hm2
          rw [e, chkA] at j2
          exact ⟨j1, j2, by omega, by omega, j5⟩)
        clear HI
        go_wp2_with fail
        go_loopg [11] k (fun gg kx wy => ∃ r : Nat, kx = .int .i64 r ∧ r + gg = k ∧ ∃ q, Hid (Has w wy mb q ∧ chkN many (many * k - r * many) (r * many) q = true ∧ q.ms.length ≤ 100 ∧ q.ds.length ≤ 100 ∧ q.jobs.length ≤ r * many))
        case atStart => exact ⟨0, rfl, by omega, q, by obtain ⟨j1, j2, j3, j4, j5⟩ := HI2.out; exact ⟨j1, by simpa using j2, j3, j4, by omega⟩⟩
        case round =>
          obtain ⟨r, rfl, hr, q2, HJ⟩ := hrel
          have Hr := hid hr
          have hrk : r ≤ k := by omega
          clear hr HI2
          by_cases hrl : r < k
          · obtain ⟨gko, hgo⟩ : ∃ g, g = gk := ⟨gk, rfl⟩
            have Hgo := hid hgo
            clear hgo
            have HJ2 := (show Hid (HasX w (wr.alloc (.cells (metA 0) 47)) mb q2 wr.heap.size (.cells (metA 0) 47 (0, 0))) from HJ.out.1.box (metA 0) 47)
            have HJ3 := (show Hid (chkN many (many * k - (r * many + 0)) (r * many + 0) q2 = true ∧ q2.ms.length ≤ 100 ∧ q2.ds.length ≤ 100 ∧ q2.jobs.length ≤ r * many + 0) from HJ.out.2)
            clear HJ
            go_wp2_with fail
            generalize wr.heap.size = xb at HJ2 ⊢
            go_loopg [13] many (fun gg ix wz => ∃ i : Nat, ix = .int .i64 i ∧ i + gg = many ∧ ∃ q, Hid (HasX w wz mb q xb (.cells (metA i) 47 (0, 0)) ∧ chkN many (many * k - (r * many + i)) (r * many + i) q = true ∧ q.ms.length ≤ 100 ∧ q.ds.length ≤ 100 ∧ q.jobs.length ≤ r * many + i))
            case atStart => exact ⟨0, rfl, by omega, q2, HJ2.out, HJ3.out⟩
            case round =>
              obtain ⟨i, rfl, hi, q3, HK⟩ := hrel
              have Hi := hid hi
              have him : i ≤ many := by omega
              clear hi HJ2 HJ3
              by_cases hil : i < many
              · have hp : r * many + i < many * k := by
                  have : r * many + many ≤ k * many := by
                    rw [← Nat.succ_mul]
                    exact Nat.mul_le_mul_right many hrl
                  rw [Nat.mul_comm many k]
                  omega
                have hrm : r * many ≤ 100 := Nat.mul_le_mul (by omega : r ≤ 5) hm2
                have HX := hid (HK.out.1.next (by have := HK.out; omega) (by have := HK.out; omega) (by have := HK.out; omega) (chkN_step hil hp HK.out.2.1).1)
                have HN2 := (show Hid (∀ j q', next q3 = some (j, q') → chkN many (many * k - (r * many + (i + 1))) (r * many + (i + 1)) q' = true ∧ q'.ms.length ≤ 100 ∧ q'.ds.length ≤ 100 ∧ q'.jobs.length ≤ r * many + (i + 1)) from fun j q' hn => by
                  obtain ⟨l1, l2, l3⟩ := next_lengths hn
                  obtain ⟨-, -, j3, j4, j5⟩ := HK.out
                  exact ⟨(chkN_step hil hp HK.out.2.1).2 j q' hn, by omega, by omega, by omega⟩)
                clear hp HK
                go_wp2_with fail
                refine HX.out.mono ?_
                rintro e w3 ⟨j, q', y, c, hn, rfl, h3⟩
                have HN3 := hid (HN2.out j q' hn)
                have H3 := hid h3
                have c3 : w3.cell? ⟨xb, i, none⟩ = some (.bool false) := by
                  obtain ⟨_, _, -, -, -, -, -, g6, -⟩ := h3
                  unfold World.cell?
                  rw [g6]
                  exact metA_at i (by omega)
                have f3 : w3.frozen? ⟨xb, i, none⟩ = false := by
                  obtain ⟨_, _, -, -, -, -, -, g6, -⟩ := h3
                  unfold World.frozen?
                  rw [g6]; rfl
                have l3 : xb < w3.heap.size := by
                  obtain ⟨_, _, -, -, -, -, -, g6, -⟩ := h3
                  exact heap_lt g6
                clear h3 hn HN2 HX
                obtain ⟨hsz, hby⟩ := nameF_byte i (by omega)
                generalize nameF i = tn at hsz hby ⊢
                have hi20 : i < 20 := by omega
                go_wp2_with fail
                go_roundg (gk - 1)
                case measure => have := Hi.out; omega
                case rel =>
                  refine ⟨i + 1, by go_num, by have := Hi.out; omega, q', ?_, HN3.out⟩
                  have := (H3.out.store i (.bool true)).quiet ((Ext.refl _ _).alloc (.cells #[.string j.id, .string tn, .slice y j.rs.length c] 49))
                  rw [metA_set i] at this
                  exact this
              · obtain rfl : i = many := by omega
                have HQ := (show Hid (Has w wr mb q3 ∧ chkN i (i * k - (r + 1) * i) ((r + 1) * i) q3 = true ∧ q3.ms.length ≤ 100 ∧ q3.ds.length ≤ 100 ∧ q3.jobs.length ≤ (r + 1) * i) from ⟨HK.out.1.has, by have := HK.out.2; rw [Nat.succ_mul]; exact this⟩)
                clear HK
                go_wp2_with fail
                go_roundg (gko - 1)
                case measure => have := Hr.out; have := Hgo.out; omega
                case rel => exact ⟨r + 1, by go_num, by have := Hr.out; have := Hgo.out; omega, q3, HQ.out⟩
          · obtain rfl : r = k := by omega
            have HX := (show Hid (Calls Try.prog 29 #[.pointer (some ⟨mb, 0, none⟩)] wr (NextHas w mb q2)) from HJ.out.1.next (by have := HJ.out; omega) (by have := HJ.out; omega) (by have := HJ.out; have : r * many ≤ 100 := Nat.mul_le_mul hr2 hm2; omega))
            have hnn : next q2 = none := by
              obtain ⟨-, j2, -⟩ := HJ.out
              have e : many * r - r * many = 0 := by rw [Nat.mul_comm]; omega
              rw [e, chkN] at j2
              cases hn : next q2 with
              | none => rfl
              | some y => rw [hn] at j2; cases j2
            have Hnn := hid hnn
            clear hnn HJ
            go_wp2_with fail
            refine HX.out.mono ?_
            rintro e w3 (⟨-, rfl, h3⟩ | ⟨j, q', v, h1, -⟩)
            · have H3 := hid h3
              clear h3 HX
              go_wp2_with fail
              go_ret
              obtain ⟨L, F, -, -, -, h4⟩ := H3.out
              exact ⟨rfl, h4.alloc _⟩
            · rw [Hnn.out] at h1; cases h1
end Go.Proofs.Ytnakafmlenngnaa.Qm
