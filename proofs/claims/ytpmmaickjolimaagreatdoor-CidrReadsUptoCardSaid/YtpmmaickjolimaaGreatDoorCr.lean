/- Right, Within. -/
import Derived.Test.YtpmmaickjolimaaGreatDoorCe
namespace Go.Proofs.YtpmmaickjolimaaGreatDoor.Ci
open Go.RowKit

theorem size_run (b : Bool) (w : World) : Calls Tryz.prog 73 #[.bool b] w fun e w' => e = .returned (.int .i64 (sizeQ b : Nat)) ∧ Bel w w' := by
  cases b with
  | false =>
    go_enter Tryz.func73, Tryz.ntmps73
    go_wp2_with fail
    go_ret
    exact ⟨rfl, Bel.refl _⟩
  | true =>
    go_enter Tryz.func73, Tryz.ntmps73
    go_wp2_with fail
    go_ret
    exact ⟨rfl, Bel.refl _⟩

/-- A range that lies in a new block, in every world from there on. -/
theorem Aft.cell {w : World} (p : Aft w) {b k : Nat} {v : Value} {cs : Array Value} {t : TypeId} (h : w.heap[b]? = some (.cells cs t (0, 0))) (hv : cs[k]? = some v) : p.wd.cell? ⟨b, k, none⟩ = some v := by
  simp [World.cell?, p.bel.heap h, hv]
theorem netC_six (n : Nt) : (netC n).toArray[0]? = some (.bool n.six) := by simp [netC]
theorem netC_bits (n : Nt) : (netC n).toArray[1]? = some (.int .i64 n.bits) := by simp [netC]
theorem netC_addr (n : Nt) : (n.addr.map u8V) = (netC n).drop 2 := by simp [netC]
theorem Aft.range {w : World} (p : Aft w) {b : Nat} {n : Nt} {t : TypeId} (h : w.heap[b]? = some (.cells (netC n).toArray t (0, 0))) : p.wd.rangeAt b 2 (n.addr.map u8V) := fun j v hv => by
  refine p.cell h ?_
  simpa [netC, Nat.add_comm] using hv

theorem Aft.whole {w : World} (p : Aft w) {b : Nat} {n : Nt} {t : TypeId} (h : w.heap[b]? = some (.cells (netC n).toArray t (0, 0))) : p.wd.rangeAt b 0 (netC n) := fun j v hv => by
  refine p.cell h ?_
  simpa using hv

set_option maxHeartbeats 1000000 in
set_option maxRecDepth 100000 in
theorem right_run (n : Nt) (hn : n.Fits) (w : World) : Calls Tryz.prog 36 #[netV n] w fun e w' => e = .returned (.bool (rightQ n)) ∧ Bel w w' := by
  have HX := hid ((Bel.refl w).alloc (.cells (netC n).toArray 25))
  have hb := heap_alloc_new w (.cells (netC n).toArray 25)
  have c0 : ∀ p : Aft (w.alloc (.cells (netC n).toArray 25)), p.wd.cell? ⟨w.heap.size, 0, none⟩ = some (.bool n.six) := fun p => p.cell hb (netC_six n)
  have c1 : ∀ p : Aft (w.alloc (.cells (netC n).toArray 25)), p.wd.cell? ⟨w.heap.size, 1, none⟩ = some (.int .i64 n.bits) := fun p => p.cell hb (netC_bits n)
  have HR := hid (fun p : Aft (w.alloc (.cells (netC n).toArray 25)) => p.range hb)
  have hl := hn.len
  have hq : rightQ n = (decide (0 ≤ n.bits) && decide (n.bits ≤ (sizeQ n.six : Nat)) && decide (cutL n.addr n.bits = n.addr)) := rfl
  have hz := hid (show (Tryz.prog.info? 23).map (·.size) = some (n.addr.map u8V).length by rw [List.length_map, hl]; kernel_rfl)
  have hby := hid hn.by_
  have h128 : sizeQ n.six ≤ 128 := by unfold sizeQ; split <;> omega
  have hcl := eq_arr (cutL n.addr n.bits) n.addr (by simp [cutL, hl]) hl
  rw [hq]
  clear hb hn hq
  by_cases h0 : 0 ≤ n.bits
  · have d0 : decide (0 ≤ n.bits) = true := decide_eq_true h0
    by_cases h1 : n.bits ≤ (sizeQ n.six : Nat)
    · have d1 : decide (n.bits ≤ (sizeQ n.six : Nat)) = true := decide_eq_true h1
      have HC := (show Hid (∀ W, Calls Tryz.prog 74 #[.agg (n.addr.map u8V).toArray, .int .i64 n.bits] W fun e w' => e = .returned (.agg ((cutL n.addr n.bits).map u8V).toArray) ∧ Bel W w') from
        fun W => cut_run n.addr n.bits W hl hby.out h0 (by omega))
      rw [d0, d1]
      unfold netV
      go_enter Tryz.func36, Tryz.ntmps36
      go_wp2_with fail
      refine wp_region_aft (by kernel_rfl) (by kernel_rfl) ?_
      repeat (first
        | go_big_quiet_skip
        | (refine quiet_load_aft 23 _ rfl w.heap.size 2 rfl (n.addr.map u8V) (.array 16 5) HR.out Tryz.underlying23 rfl hz.out (by rfl) ?_; intro a' ha'; simp only [Act.put, Array.setIfInBounds, List.size_toArray, go_sem] at ha'; subst ha')
        | go_big_quiet_step (first
          | (go_at_call 73; exact Calls.aft (size_run n.six _))
          | (go_at_call 74; exact Calls.aft (HC.out _)))
        | quiet_step (first
          | (go_at_call 73; exact Calls.aft (size_run n.six _))
          | (go_at_call 74; exact Calls.aft (HC.out _))))
      refine wpQuiet_nil ?_
      rintro _ ⟨p, rfl⟩
      go_wp2_with fail
      go_ret
      exact ⟨rfl, HX.out.trans p.bel⟩
    · have d1 : decide (n.bits ≤ (sizeQ n.six : Nat)) = false := decide_eq_false h1
      rw [d0, d1]
      unfold netV
      go_enter Tryz.func36, Tryz.ntmps36
      go_wp2_with fail
      refine wp_region_aft (by kernel_rfl) (by kernel_rfl) ?_
      repeat (go_big_quiet_step (first
          | (go_at_call 73; exact Calls.aft (size_run n.six _))))
      refine wpQuiet_nil ?_
      rintro _ ⟨p, rfl⟩
      go_wp2_with fail
      go_ret
      exact ⟨rfl, HX.out.trans p.bel⟩
  · have d0 : decide (0 ≤ n.bits) = false := decide_eq_false h0
    rw [d0]
    unfold netV
    go_enter Tryz.func36, Tryz.ntmps36
    go_wp2_with fail
    refine wp_region_aft (by kernel_rfl) (by kernel_rfl) ?_
    repeat (go_big_quiet_step (fail))
    refine wpQuiet_nil ?_
    rintro _ ⟨p, rfl⟩
    go_wp2_with fail
    go_ret
    exact ⟨rfl, HX.out.trans p.bel⟩

theorem rightQ_bits {n : Nt} (h : rightQ n = true) : 0 ≤ n.bits ∧ n.bits ≤ 128 := by
  unfold rightQ sizeQ at h
  simp only [Bool.and_eq_true, decide_eq_true_eq] at h
  refine ⟨h.1.1, ?_⟩
  have := h.1.2
  split at this <;> omega

set_option maxHeartbeats 1000000 in
set_option maxRecDepth 100000 in
theorem within_run (n m : Nt) (hn : n.Fits) (hm : m.Fits) (w : World) : Calls Tryz.prog 29 #[netV n, netV m] w fun e w' => e = .returned (.bool (withinQ n m)) ∧ Bel w w' := by
  obtain ⟨W, hW⟩ : ∃ W, W = (w.alloc (.cells (netC n).toArray 25)).alloc (.cells (netC m).toArray 25) := ⟨_, rfl⟩
  have HX := hid (show Bel w W by rw [hW]; exact ((Bel.refl w).alloc _).alloc _)
  have hb : W.heap[w.heap.size]? = some (.cells (netC n).toArray 25 (0, 0)) := by
    rw [hW]
    exact (Below.heap_alloc _ _ _ (by simp)).trans (heap_alloc_new w _)
  have hc : W.heap[w.heap.size + 1]? = some (.cells (netC m).toArray 25 (0, 0)) := by
    have := heap_alloc_new (w.alloc (.cells (netC n).toArray 25)) (.cells (netC m).toArray 25)
    rw [World.size_alloc] at this
    rw [hW]
    exact this
  have b0 : ∀ p : Aft W, p.wd.cell? ⟨w.heap.size, 0, none⟩ = some (.bool n.six) := fun p => p.cell hb (netC_six n)
  have b1 : ∀ p : Aft W, p.wd.cell? ⟨w.heap.size, 1, none⟩ = some (.int .i64 n.bits) := fun p => p.cell hb (netC_bits n)
  have c0 : ∀ p : Aft W, p.wd.cell? ⟨w.heap.size + 1, 0, none⟩ = some (.bool m.six) := fun p => p.cell hc (netC_six m)
  have c1 : ∀ p : Aft W, p.wd.cell? ⟨w.heap.size + 1, 1, none⟩ = some (.int .i64 m.bits) := fun p => p.cell hc (netC_bits m)
  have hl := hn.len
  have hl2 := hm.len
  have HR := hid (fun p : Aft W => p.range hb)
  have HS := hid (fun p : Aft W => p.range hc)
  have HN := hid (fun p : Aft W => p.whole hb)
  have HM := hid (fun p : Aft W => p.whole hc)
  have hz := hid (show (Tryz.prog.info? 23).map (·.size) = some (n.addr.map u8V).length by rw [List.length_map, hl]; kernel_rfl)
  have hz2 := hid (show (Tryz.prog.info? 23).map (·.size) = some (m.addr.map u8V).length by rw [List.length_map, hl2]; kernel_rfl)
  have hy := hid (show (Tryz.prog.info? 25).map (·.size) = some (netC n).length by simp only [netC, List.length_cons, List.length_map, hl]; kernel_rfl)
  have hy2 := hid (show (Tryz.prog.info? 25).map (·.size) = some (netC m).length by simp only [netC, List.length_cons, List.length_map, hl2]; kernel_rfl)
  have HF := hid (And.intro hn hm)
  have RN := (show Hid (∀ W, Calls Tryz.prog 36 #[.agg (netC n).toArray] W fun e w' => e = .returned (.bool (rightQ n)) ∧ Bel W w') from fun W => right_run n hn W)
  have RM := (show Hid (∀ W, Calls Tryz.prog 36 #[.agg (netC m).toArray] W fun e w' => e = .returned (.bool (rightQ m)) ∧ Bel W w') from fun W => right_run m hm W)
  have hcl := eq_arr (cutL n.addr m.bits) m.addr (by simp [cutL, hl]) hl2
  have HC := (show Hid (rightQ m = true → ∀ W, Calls Tryz.prog 74 #[.agg (n.addr.map u8V).toArray, .int .i64 m.bits] W fun e w' => e = .returned (.agg ((cutL n.addr m.bits).map u8V).toArray) ∧ Bel W w') from
    fun h W => cut_run n.addr m.bits W hl HF.out.1.by_ (rightQ_bits h).1 (rightQ_bits h).2)
  have hq : withinQ n m = (rightQ n && rightQ m && (n.six == m.six) && decide (m.bits ≤ n.bits) && decide (cutL n.addr m.bits = m.addr)) := rfl
  rw [hq]
  unfold netV
  clear hb hc hn hm hq
  go_enter Tryz.func29, Tryz.ntmps29
  go_wp2_with fail
  rw [← hW]
  clear hW
  generalize h1r : rightQ n = r1 at RN
  generalize h2r : rightQ m = r2 at RM HC
  clear hl hl2
  cases r1 with
  | false =>
    refine wp_region_aft (by kernel_rfl) (by kernel_rfl) ?_
    repeat (first
      | go_big_quiet_skip
      | (refine quiet_load_aft 25 _ rfl w.heap.size 0 rfl (netC n) _ HN.out Tryz.underlying25 rfl hy.out (by rfl) ?_; intro a' ha'; simp only [Act.put, Array.setIfInBounds, List.size_toArray, go_sem] at ha'; subst ha')
      | (refine quiet_load_aft 25 _ rfl (w.heap.size + 1) 0 rfl (netC m) _ HM.out Tryz.underlying25 rfl hy2.out (by rfl) ?_; intro a' ha'; simp only [Act.put, Array.setIfInBounds, List.size_toArray, go_sem] at ha'; subst ha')
      | (refine quiet_load_aft 23 _ rfl w.heap.size 2 rfl (n.addr.map u8V) _ HR.out Tryz.underlying23 rfl hz.out (by rfl) ?_; intro a' ha'; simp only [Act.put, Array.setIfInBounds, List.size_toArray, go_sem] at ha'; subst ha')
      | (refine quiet_load_aft 23 _ rfl (w.heap.size + 1) 2 rfl (m.addr.map u8V) _ HS.out Tryz.underlying23 rfl hz2.out (by rfl) ?_; intro a' ha'; simp only [Act.put, Array.setIfInBounds, List.size_toArray, go_sem] at ha'; subst ha')
      | go_big_quiet_step (first | (go_at_call_of 36 (Value.agg (netC n).toArray); exact Calls.aft (RN.out _)) | (go_at_call_of 36 (Value.agg (netC m).toArray); exact Calls.aft (RM.out _)) | (go_at_call 74; exact Calls.aft (HC.out rfl _)))
      | quiet_step (first | (go_at_call_of 36 (Value.agg (netC n).toArray); exact Calls.aft (RN.out _)) | (go_at_call_of 36 (Value.agg (netC m).toArray); exact Calls.aft (RM.out _)) | (go_at_call 74; exact Calls.aft (HC.out rfl _))))
    refine wpQuiet_nil ?_
    rintro _ ⟨p, rfl⟩
    go_wp2_with fail
    go_ret
    exact ⟨by first | rfl | (rw [h1r]; rfl), HX.out.trans p.bel⟩
  | true =>
    cases r2 with
    | false =>
      refine wp_region_aft (by kernel_rfl) (by kernel_rfl) ?_
      repeat (first
        | go_big_quiet_skip
        | (refine quiet_load_aft 25 _ rfl w.heap.size 0 rfl (netC n) _ HN.out Tryz.underlying25 rfl hy.out (by rfl) ?_; intro a' ha'; simp only [Act.put, Array.setIfInBounds, List.size_toArray, go_sem] at ha'; subst ha')
        | (refine quiet_load_aft 25 _ rfl (w.heap.size + 1) 0 rfl (netC m) _ HM.out Tryz.underlying25 rfl hy2.out (by rfl) ?_; intro a' ha'; simp only [Act.put, Array.setIfInBounds, List.size_toArray, go_sem] at ha'; subst ha')
        | (refine quiet_load_aft 23 _ rfl w.heap.size 2 rfl (n.addr.map u8V) _ HR.out Tryz.underlying23 rfl hz.out (by rfl) ?_; intro a' ha'; simp only [Act.put, Array.setIfInBounds, List.size_toArray, go_sem] at ha'; subst ha')
        | (refine quiet_load_aft 23 _ rfl (w.heap.size + 1) 2 rfl (m.addr.map u8V) _ HS.out Tryz.underlying23 rfl hz2.out (by rfl) ?_; intro a' ha'; simp only [Act.put, Array.setIfInBounds, List.size_toArray, go_sem] at ha'; subst ha')
        | go_big_quiet_step (first | (go_at_call_of 36 (Value.agg (netC n).toArray); exact Calls.aft (RN.out _)) | (go_at_call_of 36 (Value.agg (netC m).toArray); exact Calls.aft (RM.out _)) | (go_at_call 74; exact Calls.aft (HC.out rfl _)))
        | quiet_step (first | (go_at_call_of 36 (Value.agg (netC n).toArray); exact Calls.aft (RN.out _)) | (go_at_call_of 36 (Value.agg (netC m).toArray); exact Calls.aft (RM.out _)) | (go_at_call 74; exact Calls.aft (HC.out rfl _))))
      refine wpQuiet_nil ?_
      rintro _ ⟨p, rfl⟩
      go_wp2_with fail
      go_ret
      exact ⟨by first | rfl | (rw [h1r, h2r]; rfl), HX.out.trans p.bel⟩
    | true =>
      cases h6 : n.six == m.six with
      | false =>
        refine wp_region_aft (by kernel_rfl) (by kernel_rfl) ?_
        repeat (first
          | go_big_quiet_skip
          | (refine quiet_load_aft 25 _ rfl w.heap.size 0 rfl (netC n) _ HN.out Tryz.underlying25 rfl hy.out (by rfl) ?_; intro a' ha'; simp only [Act.put, Array.setIfInBounds, List.size_toArray, go_sem] at ha'; subst ha')
          | (refine quiet_load_aft 25 _ rfl (w.heap.size + 1) 0 rfl (netC m) _ HM.out Tryz.underlying25 rfl hy2.out (by rfl) ?_; intro a' ha'; simp only [Act.put, Array.setIfInBounds, List.size_toArray, go_sem] at ha'; subst ha')
          | (refine quiet_load_aft 23 _ rfl w.heap.size 2 rfl (n.addr.map u8V) _ HR.out Tryz.underlying23 rfl hz.out (by rfl) ?_; intro a' ha'; simp only [Act.put, Array.setIfInBounds, List.size_toArray, go_sem] at ha'; subst ha')
          | (refine quiet_load_aft 23 _ rfl (w.heap.size + 1) 2 rfl (m.addr.map u8V) _ HS.out Tryz.underlying23 rfl hz2.out (by rfl) ?_; intro a' ha'; simp only [Act.put, Array.setIfInBounds, List.size_toArray, go_sem] at ha'; subst ha')
          | go_big_quiet_step (first | (go_at_call_of 36 (Value.agg (netC n).toArray); exact Calls.aft (RN.out _)) | (go_at_call_of 36 (Value.agg (netC m).toArray); exact Calls.aft (RM.out _)) | (go_at_call 74; exact Calls.aft (HC.out rfl _)))
          | quiet_step (first | (go_at_call_of 36 (Value.agg (netC n).toArray); exact Calls.aft (RN.out _)) | (go_at_call_of 36 (Value.agg (netC m).toArray); exact Calls.aft (RM.out _)) | (go_at_call 74; exact Calls.aft (HC.out rfl _))))
        refine wpQuiet_nil ?_
        rintro _ ⟨p, rfl⟩
        go_wp2_with fail
        go_ret
        exact ⟨by first | rfl | (rw [h1r, h2r, h6]; rfl), HX.out.trans p.bel⟩
      | true =>
        by_cases hb : m.bits ≤ n.bits
        · have db : decide (m.bits ≤ n.bits) = true := decide_eq_true hb
          refine wp_region_aft (by kernel_rfl) (by kernel_rfl) ?_
          repeat (first
            | go_big_quiet_skip
            | (refine quiet_load_aft 25 _ rfl w.heap.size 0 rfl (netC n) _ HN.out Tryz.underlying25 rfl hy.out (by rfl) ?_; intro a' ha'; simp only [Act.put, Array.setIfInBounds, List.size_toArray, go_sem] at ha'; subst ha')
            | (refine quiet_load_aft 25 _ rfl (w.heap.size + 1) 0 rfl (netC m) _ HM.out Tryz.underlying25 rfl hy2.out (by rfl) ?_; intro a' ha'; simp only [Act.put, Array.setIfInBounds, List.size_toArray, go_sem] at ha'; subst ha')
            | (refine quiet_load_aft 23 _ rfl w.heap.size 2 rfl (n.addr.map u8V) _ HR.out Tryz.underlying23 rfl hz.out (by rfl) ?_; intro a' ha'; simp only [Act.put, Array.setIfInBounds, List.size_toArray, go_sem] at ha'; subst ha')
            | (refine quiet_load_aft 23 _ rfl (w.heap.size + 1) 2 rfl (m.addr.map u8V) _ HS.out Tryz.underlying23 rfl hz2.out (by rfl) ?_; intro a' ha'; simp only [Act.put, Array.setIfInBounds, List.size_toArray, go_sem] at ha'; subst ha')
            | go_big_quiet_step (first | (go_at_call_of 36 (Value.agg (netC n).toArray); exact Calls.aft (RN.out _)) | (go_at_call_of 36 (Value.agg (netC m).toArray); exact Calls.aft (RM.out _)) | (go_at_call 74; exact Calls.aft (HC.out rfl _)))
            | quiet_step (first | (go_at_call_of 36 (Value.agg (netC n).toArray); exact Calls.aft (RN.out _)) | (go_at_call_of 36 (Value.agg (netC m).toArray); exact Calls.aft (RM.out _)) | (go_at_call 74; exact Calls.aft (HC.out rfl _))))
          refine wpQuiet_nil ?_
          rintro _ ⟨p, rfl⟩
          go_wp2_with fail
          go_ret
          exact ⟨by first | rfl | (rw [h1r, h2r, h6, db]; rfl), HX.out.trans p.bel⟩
        · have db : decide (m.bits ≤ n.bits) = false := decide_eq_false hb
          clear hb
          refine wp_region_aft (by kernel_rfl) (by kernel_rfl) ?_
          repeat (first
            | go_big_quiet_skip
            | (refine quiet_load_aft 25 _ rfl w.heap.size 0 rfl (netC n) _ HN.out Tryz.underlying25 rfl hy.out (by rfl) ?_; intro a' ha'; simp only [Act.put, Array.setIfInBounds, List.size_toArray, go_sem] at ha'; subst ha')
            | (refine quiet_load_aft 25 _ rfl (w.heap.size + 1) 0 rfl (netC m) _ HM.out Tryz.underlying25 rfl hy2.out (by rfl) ?_; intro a' ha'; simp only [Act.put, Array.setIfInBounds, List.size_toArray, go_sem] at ha'; subst ha')
            | (refine quiet_load_aft 23 _ rfl w.heap.size 2 rfl (n.addr.map u8V) _ HR.out Tryz.underlying23 rfl hz.out (by rfl) ?_; intro a' ha'; simp only [Act.put, Array.setIfInBounds, List.size_toArray, go_sem] at ha'; subst ha')
            | (refine quiet_load_aft 23 _ rfl (w.heap.size + 1) 2 rfl (m.addr.map u8V) _ HS.out Tryz.underlying23 rfl hz2.out (by rfl) ?_; intro a' ha'; simp only [Act.put, Array.setIfInBounds, List.size_toArray, go_sem] at ha'; subst ha')
            | go_big_quiet_step (first | (go_at_call_of 36 (Value.agg (netC n).toArray); exact Calls.aft (RN.out _)) | (go_at_call_of 36 (Value.agg (netC m).toArray); exact Calls.aft (RM.out _)) | (go_at_call 74; exact Calls.aft (HC.out rfl _)))
            | quiet_step (first | (go_at_call_of 36 (Value.agg (netC n).toArray); exact Calls.aft (RN.out _)) | (go_at_call_of 36 (Value.agg (netC m).toArray); exact Calls.aft (RM.out _)) | (go_at_call 74; exact Calls.aft (HC.out rfl _))))
          refine wpQuiet_nil ?_
          rintro _ ⟨p, rfl⟩
          go_wp2_with fail
          go_ret
          exact ⟨by first | rfl | (rw [h1r, h2r, h6, db]; rfl), HX.out.trans p.bel⟩
end Go.Proofs.YtpmmaickjolimaaGreatDoor.Ci
