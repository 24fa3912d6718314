/- slices.Repeat at the recipients: as many pending ones. -/
import Derived.Test.YthkimmabaojaaaaDo
import Derived.Laws.CopyOwn
import Derived.Laws.MakeOwn
namespace Go.Proofs.Ythkimmabaojaaaa.Cm
open Go.RowKit Go.Proofs.Ythkimmabaojaaaa.Cu

section
variable {P : Program}
theorem run_copy_rows (w : World) (dT sT ty elem : TypeId) (S g o dLen dCap : Nat) (a : Addr) (sLen sCap : Nat) (cur : Array Value) (t : TypeId) (cs : List Value)
    (hu : P.underlying dT = some (.slice elem)) (hs : (P.info? elem).map (·.size) = some S)
    (hg : w.heap[g]? = some (.cells cur t (0, 0))) (hn : cs.length = Nat.min sLen dLen * S)
    (hsrc : ∀ j v, cs[j]? = some v → w.cell? (a.add j) = some v) (hfit : o + cs.length ≤ cur.size) (h1 : ∀ v ∈ cs, v.oneCell' = true) :
    (Builtin.copy_ #[dT, sT] ty #[.slice (some ⟨g, o, none⟩) dLen dCap, .slice (some a) sLen sCap]).run P w =
      .ok (goInt (Nat.min sLen dLen)) (w.setRow g (cur.toList.take o ++ cs ++ cur.toList.drop (o + cs.length)).toArray) := by
  have hl := run_loadCells_list (P := P) w a cs hsrc
  have hst := run_storeCells_at P g o t cs 0 cur w hg (by simpa using hfit) h1
  cases hq : P.info? elem with
  | none => simp [hq] at hs
  | some i =>
    have hi : i.size = S := by simpa [hq] using hs
    simp [Builtin.copy_, run_underlying hu, Builtin.lenOf, Builtin.firstCells, sizeOf, typeInfo, hq, hi, ← hn, hl, hst]
end

theorem flat_append (a b : List (Nat × Nat)) : flat (a ++ b) = flat a ++ flat b := by
  induction a with
  | nil => rfl
  | cons x a ih => simp [flat, ih]
theorem vals_append (a b : List Nat) : vals (a ++ b) = vals a ++ vals b := by simp [vals]
theorem vals_length (a : List Nat) : (vals a).length = a.length := by simp [vals]
theorem vals_one (a : List Nat) : ∀ v ∈ vals a, v.oneCell' = true := by
  intro v hv
  simp only [vals, List.mem_map] at hv
  obtain ⟨n, -, rfl⟩ := hv
  rfl
theorem flat_take (l : List (Nat × Nat)) (k : Nat) : (flat l).take (k * 2) = flat (l.take k) := by
  induction l generalizing k with
  | nil => simp [flat]
  | cons x l ih =>
    cases k with
    | zero => simp [flat]
    | succ k =>
      have e : (k + 1) * 2 = k * 2 + 1 + 1 := by omega
      simp [flat, e, ih k]
theorem flat_drop (l : List (Nat × Nat)) (k : Nat) : (flat l).drop (k * 2) = flat (l.drop k) := by
  induction l generalizing k with
  | nil => simp [flat]
  | cons x l ih =>
    cases k with
    | zero => simp [flat]
    | succ k =>
      have e : (k + 1) * 2 = k * 2 + 1 + 1 := by omega
      simp [flat, e, ih k]

theorem mul64_run (n : Nat) (w : World) (hn2 : n ≤ 200) :
    Calls Try.prog 29 #[.int .u64 1, .int .u64 n] w fun e w' => e = .returned (.tuple #[.int .u64 0, .int .u64 n]) ∧ w = w' := by
  have b1 : bits .and .u64 1 4294967295 = 1 := by decide +kernel
  have b2 : bits .and .u64 (n : Int) 4294967295 = n := by
    have : ∀ m : Nat, m < 201 → bits .and .u64 (m : Int) 4294967295 = m := by decide +kernel
    exact this n (by omega)
  have hd : (n : Int) / 4294967296 = 0 := by omega
  have b3 : bits .and .u64 0 4294967295 = 0 := by decide +kernel
  go_enter Try.func29, Try.ntmps29
  go_wp2
  go_ret2
  exact ⟨rfl, rfl⟩

theorem mul_run (n : Nat) (w : World) (hn2 : n ≤ 200) :
    Calls Try.prog 22 #[.int .u64 1, .int .u64 n] w fun e w' => e = .returned (.tuple #[.int .u64 0, .int .u64 n]) ∧ w = w' := by
  go_enter Try.func22, Try.ntmps22
  go_wp2_with (go_at_call 29; refine (mul64_run n _ hn2).mono ?_; rintro e w' ⟨rfl, rfl⟩)
  go_ret2
  exact ⟨rfl, rfl⟩

/-- m pending ones, and room. -/
def fill (m n : Nat) : List (Nat × Nat) := List.replicate m (1, 0) ++ List.replicate (n - m) (0, 0)

theorem zero_cells (n : Nat) : madeCells #[.int .i64 0, .int .i64 0] (n * 2) = (vals (flat (fill 0 n))).toArray := by
  have h : ∀ n, flat (List.replicate n ((0 : Nat), (0 : Nat))) = List.replicate (n * 2) 0 := by
    intro n
    induction n with
    | zero => rfl
    | succ n ih => rw [List.replicate_succ, flat, ih, show (n + 1) * 2 = n * 2 + 1 + 1 by omega, List.replicate_succ, List.replicate_succ]
  unfold fill
  simp only [List.replicate_zero, List.nil_append, Nat.sub_zero, h, vals, List.map_replicate]
  apply Array.ext
  · simp [madeCells]
  · intro i h1 h2
    simp only [madeCells, Array.getElem_map, Array.getElem_range, List.getElem_toArray, List.getElem_replicate]
    have : i % 2 = 0 ∨ i % 2 = 1 := by omega
    rcases this with e | e
    all_goals
      show (#[Value.int .i64 0, Value.int .i64 0])[i % 2]! = _
      rw [e]; rfl

/-- One round of the filling. -/
theorem fill_step (m n c : Nat) :
    (vals (flat (fill m n))).take (m * 2) ++ vals (flat (List.replicate c (1, 0))) ++ (vals (flat (fill m n))).drop (m * 2 + (vals (flat (List.replicate c (1, 0)))).length) = vals (flat (fill (m + c) n)) := by
  have e1 : (vals (flat (fill m n))).take (m * 2) = vals (flat (List.replicate m (1, 0))) := by
    rw [vals, ← List.map_take, flat_take, fill, List.take_append_of_le_length (by simp)]
    simp [vals]
  have e2 : (vals (flat (List.replicate c ((1 : Nat), (0 : Nat))))).length = c * 2 := by rw [vals_length, flat_length]; simp; omega
  have e3 : (vals (flat (fill m n))).drop (m * 2 + c * 2) = vals (flat (List.replicate (n - (m + c)) (0, 0))) := by
    rw [vals, ← List.map_drop, ← Nat.add_mul, flat_drop, fill, List.drop_append]
    simp only [List.drop_replicate, List.length_replicate]
    rw [show m - (m + c) = 0 by omega, show n - m - (m + c - m) = n - (m + c) by omega]
    simp [vals]
  rw [e1, e2, e3, ← vals_append, ← vals_append, ← flat_append, ← flat_append, List.replicate_append_replicate]
  rfl

theorem flat_rep (c j : Nat) (v : Nat) (h : (flat (List.replicate c ((1 : Nat), (0 : Nat))))[j]? = some v) : ∃ i, i < c ∧ ((j = i * 2 ∧ v = 1) ∨ (j = i * 2 + 1 ∧ v = 0)) := by
  have hl : j < (flat (List.replicate c ((1 : Nat), (0 : Nat)))).length := (List.getElem?_eq_some_iff.1 h).1
  rw [flat_length, List.length_replicate] at hl
  have hi : j / 2 < (List.replicate c ((1 : Nat), (0 : Nat))).length := by simp; omega
  have e1 := flat_even _ _ hi
  have e2 := flat_odd _ _ hi
  have eg : (List.replicate c ((1 : Nat), (0 : Nat))).getD (j / 2) (0, 0) = (1, 0) := by rw [getD_lt _ _ _ hi]; simp
  rw [eg] at e1 e2
  rcases (by omega : j = 2 * (j / 2) ∨ j = 2 * (j / 2) + 1) with e | e
  · rw [e, e1] at h
    exact ⟨j / 2, by omega, .inl ⟨by omega, by cases h; rfl⟩⟩
  · rw [e, e2] at h
    exact ⟨j / 2, by omega, .inr ⟨by omega, by cases h; rfl⟩⟩

theorem copy_fill (n : Nat) (W : World) (g o dl : Nat) (a : Addr) (sl sc m : Nat) (hm : m ≤ n) (hg : W.heap[g]? = some (.cells (vals (flat (fill m n))).toArray 41 (0, 0))) (ho : o = m * 2) (hdl : dl = n - m)
    (hsrc : ∀ j, j < Nat.min sl dl → W.cell? (a.add (j * 2)) = some (.int .i64 1) ∧ W.cell? (a.add (j * 2 + 1)) = some (.int .i64 0)) :
    (Builtin.copy_ #[44, 44] 3 #[.slice (some ⟨g, o, none⟩) dl dl, .slice (some a) sl sc]).run Try.prog W = .ok (goInt (Nat.min sl dl)) (W.setRow g (vals (flat (fill (m + Nat.min sl dl) n))).toArray) := by
  have hc : Nat.min sl dl ≤ n - m := by rw [← hdl]; exact Nat.min_le_right _ _
  have hlen : (vals (flat (List.replicate (Nat.min sl dl) ((1 : Nat), (0 : Nat))))).length = Nat.min sl dl * 2 := by rw [vals_length, flat_length]; simp; omega
  have := run_copy_rows (P := Try.prog) W 44 44 3 41 2 g o dl dl a sl sc _ 41 (vals (flat (List.replicate (Nat.min sl dl) (1, 0)))) Try.underlying44 (by kernel_rfl) hg hlen
    (by
      intro j v hj
      simp only [vals, List.getElem?_map, Option.map_eq_some_iff] at hj
      obtain ⟨x, hx, rfl⟩ := hj
      obtain ⟨i, hi, ⟨rfl, rfl⟩ | ⟨rfl, rfl⟩⟩ := flat_rep _ _ _ hx
      · exact (hsrc i hi).1
      · exact (hsrc i hi).2)
    (by
      rw [hlen, ho]
      have : (fill m n).length = n := by simp [fill]; omega
      simp only [List.size_toArray, vals_length, flat_length, this]; omega)
    (vals_one _)
  rw [this, ho]
  rw [fill_step m n (Nat.min sl dl)]

theorem addr_add (g k : Nat) : (⟨g, 0, none⟩ : Addr).add k = ⟨g, k, none⟩ := by
  unfold Addr.add
  by_cases h : k = 0
  · subst h; rfl
  · simp [h]

theorem fill_cells (m n g : Nat) (W : World) (hg : W.heap[g]? = some (.cells (vals (flat (fill m n))).toArray 41 (0, 0))) (j : Nat) (hj : j < m) :
    W.cell? ((⟨g, 0, none⟩ : Addr).add (j * 2)) = some (.int .i64 1) ∧ W.cell? ((⟨g, 0, none⟩ : Addr).add (j * 2 + 1)) = some (.int .i64 0) := by
  have hl : j < (fill m n).length := by simp [fill]; omega
  have he : (fill m n).getD j (0, 0) = (1, 0) := by
    rw [getD_lt _ _ _ hl]
    simp only [fill]
    rw [List.getElem_append_left (by simpa using hj)]
    simp
  have e1 := flat_even _ _ hl
  have e2 := flat_odd _ _ hl
  rw [he] at e1 e2
  rw [addr_add, addr_add]
  simp only [World.cell?, hg, List.getElem?_toArray, vals, List.getElem?_map, Nat.mul_comm j 2, e1, e2]
  simp

theorem Ext.new {F : Nat → Prop} {w w1 w2 : World} {g : Nat} (h : Ext F w w1) (k : Ext (· = g) w1 w2) (hg : w.heap.size ≤ g) : Ext F w w2 :=
  ⟨k.os.trans h.os, k.tape.trans h.tape, k.output.trans h.output, Nat.le_trans h.size k.size, fun i hi hf => (k.block i (Nat.lt_of_lt_of_le hi h.size) (by omega)).trans (h.block i hi hf)⟩
theorem ext_setRow (w : World) (g : Nat) (cs : Array Value) : Ext (· = g) w (w.setRow g cs) := by
  refine ⟨rfl, rfl, rfl, by simp [World.setRow], fun k _ hk => ?_⟩
  simp only [World.setRow, Array.getElem?_modify]
  rw [if_neg (fun e => hk e.symm)]

theorem repeat_run (xb n : Nat) (w : World) (hn : 1 ≤ n) (hn2 : n ≤ 200) (hx0 : w.cell? ⟨xb, 0, none⟩ = some (.int .i64 1)) (hx1 : w.cell? ⟨xb, 1, none⟩ = some (.int .i64 0)) :
    Calls Try.prog 16 #[.slice (some ⟨xb, 0, none⟩) 1 1, .int .i64 n] w fun e w' => ∃ g, w.heap.size ≤ g ∧ e = .returned (.slice (some ⟨g, 0, none⟩) n n) ∧ w'.heap[g]? = some (.cells (vals (flat (List.replicate n (1, 0)))).toArray 41 (0, 0)) ∧ Ext (fun _ => False) w w' := by
  have hmk : ∀ w : World, (Instr.makeSlice 44 (.int .i64 n) (.int .i64 n)).run Try.prog w = .ok (.slice (some ⟨w.heap.size, 0, none⟩) n n) (w.alloc (.cells (vals (flat (fill 0 n))).toArray 41)) := by
    intro w
    obtain ⟨i0, hi, hz0, hz1, hz2⟩ := info_parts (show (Try.prog.info? 41).map (fun i => (i.zero, i.size, i.bytes)) = some (some (.agg #[.int .i64 0, .int .i64 0]), 2, 16) by kernel_rfl)
    have := run_make (P := Try.prog) w 44 41 i0 _ Try.underlying44 hi hz0 .i64 .i64 n n (by omega) (by omega) (by rw [hz2]; omega) (by omega)
    rw [hz1] at this
    simpa [Value.cells, zero_cells] using this
  have hlx : xb < w.heap.size := by
    rcases Nat.lt_or_ge xb w.heap.size with h | h
    · exact h
    · simp [World.cell?, Array.getElem?_eq_none h] at hx0
  have hg0 : (w.alloc (.cells (vals (flat (fill 0 n))).toArray 41)).heap[w.heap.size]? = some (.cells (vals (flat (fill 0 n))).toArray 41 (0, 0)) := (MapKept.heap_alloc w _).1
  have hc1 := copy_fill n (w.alloc (.cells (vals (flat (fill 0 n))).toArray 41)) w.heap.size 0 n ⟨xb, 0, none⟩ 1 1 0 (by omega) hg0 rfl (by omega)
    (fun j hj => by
      have : Nat.min 1 n ≤ 1 := Nat.min_le_left _ _
      obtain rfl : j = 0 := by omega
      have e : ∀ o, (w.alloc (.cells (vals (flat (fill 0 n))).toArray 41)).cell? ⟨xb, o, none⟩ = w.cell? ⟨xb, o, none⟩ := fun o => World.cell?_of_block (w := w) (Below.heap_alloc _ _ _ hlx)
      exact ⟨(e 0).trans hx0, (e 1).trans hx1⟩)
  have hE1 : Ext (fun _ => False) w ((w.alloc (.cells (vals (flat (fill 0 n))).toArray 41)).setRow w.heap.size (vals (flat (fill 1 n))).toArray) :=
    ((Ext.refl _ _).alloc _).new (ext_setRow _ _ _) (Nat.le_refl _)
  have hg1 : ((w.alloc (.cells (vals (flat (fill 0 n))).toArray 41)).setRow w.heap.size (vals (flat (fill 1 n))).toArray).heap[w.heap.size]? = some (.cells (vals (flat (fill 1 n))).toArray 41 (0, 0)) := setRow_heap _ _ _ _ _ _ hg0
  have e1 : Nat.min 1 n = 1 := Nat.min_eq_left hn
  rw [e1, Nat.zero_add] at hc1
  generalize (w.alloc (.cells (vals (flat (fill 0 n))).toArray 41)).setRow w.heap.size (vals (flat (fill 1 n))).toArray = W1 at hc1 hE1 hg1
  clear e1 hg0 hx0 hx1 hlx
  have HG1 := (show Hid (W1.heap[w.heap.size]? = some (.cells (vals (flat (fill 1 n))).toArray 41 (0, 0))) from hg1)
  clear hg1
  go_enter Try.func16, Try.ntmps16
  go_wp2_with (go_at_call 22; refine (mul_run n _ hn2).mono ?_; rintro e w' ⟨rfl, rfl⟩)
  clear hmk hc1
  have hG : w.heap.size ≤ w.heap.size := Nat.le_refl _
  generalize hgg : w.heap.size = g at HG1 ⊢
  have Hgg := (show Hid (w.heap.size = g) from hgg)
  clear hgg hG
  go_loopg [8] (n - 1) (fun gk v wr => ∃ m : Nat, v = .int .i64 m ∧ 1 ≤ m ∧ m ≤ n ∧ gk = n - m ∧ wr.heap[g]? = some (.cells (vals (flat (fill m n))).toArray 41 (0, 0)) ∧ Ext (fun _ => False) w wr)
  case atStart => exact ⟨1, rfl, by omega, hn, rfl, HG1.out, hE1⟩
  case round =>
    obtain ⟨m, rfl, hm1, hm2, hgk, hg, hx⟩ := hrel
    have Hgk := (show Hid (gk = n - m) from hgk)
    clear hgk
    by_cases hlt : m < n
    · have hcm := copy_fill n wr.drew g (m * 2) (n - m) ⟨g, 0, none⟩ m n m hm2 hg rfl rfl (fun j hj => fill_cells m n g wr.drew hg j (Nat.lt_of_lt_of_le hj (Nat.min_le_left _ _)))
      have HG := (show Hid (wr.heap[g]? = some (.cells (vals (flat (fill m n))).toArray 41 (0, 0))) from hg)
      clear hg
      obtain ⟨q, hq, hq1, hq2⟩ : ∃ q, Nat.min m (n - m) = q ∧ 1 ≤ q ∧ m + q ≤ n := ⟨_, rfl, Nat.le_min.2 ⟨hm1, by omega⟩, Nat.le_trans (Nat.add_le_add_left (Nat.min_le_right m (n - m)) m) (by omega)⟩
      rw [hq] at hcm
      clear hq
      go_wp2
      go_region
      go_wp2
      go_roundg (gk - q)
      case measure => have := Hgk.out; omega
      case rel => exact ⟨m + q, by go_num, by omega, by omega, by have := Hgk.out; omega, setRow_heap _ _ _ _ _ _ (show wr.drew.heap[g]? = _ from HG.out), (hx.drewN 1).new (ext_setRow _ _ _) (by have := Hgg.out; omega)⟩
    · obtain rfl : m = n := by omega
      have hfin : fill m m = List.replicate m (1, 0) := by simp [fill]
      have HG := (show Hid (wr.heap[g]? = some (.cells (vals (flat (List.replicate m (1, 0)))).toArray 41 (0, 0))) from by rw [← hfin]; exact hg)
      clear hfin hg
      go_wp2
      go_ret
      exact ⟨g, by have := Hgg.out; omega, rfl, HG.out, hx⟩
end Go.Proofs.Ythkimmabaojaaaa.Cm
