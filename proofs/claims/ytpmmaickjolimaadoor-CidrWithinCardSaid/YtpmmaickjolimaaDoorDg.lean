/- The reference's Within. -/
import Derived.Test.YtpmmaickjolimaaDoorDe
namespace Go.Proofs.YtpmmaickjolimaaDoor.Ci
open Go.RowKit

theorem same_more (l m : List Nat) (i : Nat) : ((List.range' 0 (i + 1)).all fun j => bitQ l j == bitQ m j) = (((List.range' 0 i).all fun j => bitQ l j == bitQ m j) && (bitQ l i == bitQ m i)) := by
  rw [List.range'_concat, List.all_append, (by omega : 0 + 1 * i = i)]
  simp
set_option maxHeartbeats 4000000 in
set_option maxRecDepth 100000 in
theorem rwithin_run (a c : Nt) (ha : a.Fits) (hc : c.Fits) (w : World) :
    Calls Tryd.prog 16 #[.agg (netC a).toArray, .agg (netC c).toArray] w fun e w' => e = .returned (.bool (withinQ a c)) ∧ Bel w w' := by
  have HRa := (show Hid (∀ W, Calls Tryd.prog 11 #[.agg (netC a).toArray] W fun e w' => e = .returned (.bool (rightQ a)) ∧ Bel W w') from fun W => rright_run a ha W)
  have HRc := (show Hid (∀ W, Calls Tryd.prog 11 #[.agg (netC c).toArray] W fun e w' => e = .returned (.bool (rightQ c)) ∧ Bel W w') from fun W => rright_run c hc W)
  have HBa := (show Hid (∀ i : Nat, i < 128 → ∀ W, Calls Tryd.prog 26 #[.agg (a.addr.map u8V).toArray, .int .i64 (i : Int)] W fun e w' => e = .returned (.int .u8 (bitQ a.addr i : Nat)) ∧ Bel W w') from fun i hi W => bit_run a.addr ha.len ha.by_ i hi W)
  have HBc := (show Hid (∀ i : Nat, i < 128 → ∀ W, Calls Tryd.prog 26 #[.agg (c.addr.map u8V).toArray, .int .i64 (i : Int)] W fun e w' => e = .returned (.int .u8 (bitQ c.addr i : Nat)) ∧ Bel W w') from fun i hi W => bit_run c.addr hc.len hc.by_ i hi W)
  have HZa := hid (net_len a ha.len)
  have HZc := hid (net_len c hc.len)
  have hza := hid (show (Tryd.prog.info? 22).map (·.size) = some (a.addr.map u8V).length by rw [List.length_map, ha.len]; kernel_rfl)
  have hzc := hid (show (Tryd.prog.info? 22).map (·.size) = some (c.addr.map u8V).length by rw [List.length_map, hc.len]; kernel_rfl)
  have HQ := hid (show withinQ a c = (rightQ a && rightQ c && (a.six == c.six) && decide (c.bits ≤ a.bits) && (List.range' 0 c.bits.toNat).all fun i => bitQ a.addr i == bitQ c.addr i) by
    rw [← withinR_eq a c ha hc]
    unfold withinR
    rw [rightR_eq a ha, rightR_eq c hc])
  have hbd := fun (h : rightQ c = true) => rightQ_bits h
  generalize withinQ a c = q at HQ ⊢
  have H0 := hid (show Bel w ((w.alloc (.cells (netC a).toArray 24)).alloc (.cells (netC c).toArray 24)) ∧ ((w.alloc (.cells (netC a).toArray 24)).alloc (.cells (netC c).toArray 24)).heap[w.heap.size]? = some (.cells (netC a).toArray 24 (0, 0)) ∧ ((w.alloc (.cells (netC a).toArray 24)).alloc (.cells (netC c).toArray 24)).heap[(w.heap.size + 1)]? = some (.cells (netC c).toArray 24 (0, 0)) from ⟨((Bel.refl w).alloc _).alloc _, (Below.heap_alloc _ _ _ (by simp only [World.size_alloc]; omega)).trans (heap_alloc_new w _), alloc_second w _ _⟩)
  generalize hra : rightQ a = ra at HRa
  generalize hrc : rightQ c = rc at HRc hbd
  rw [hra, hrc] at HQ
  clear ha hc hra hrc
  go_enter Tryd.func16, Tryd.ntmps16
  go_upto_region 1 with (fail)
  generalize ((w.alloc (.cells (netC a).toArray 24)).alloc (.cells (netC c).toArray 24)) = v0 at H0 ⊢
  go_wp2_with (first
    | (refine wpList_load_mid rfl 24 (.tmp 2) rfl w.heap.size 0 rfl (netC a) _ ?_ Tryd.underlying24 rfl HZa.out ?_; exact range_net H0.out.2.1))
  refine (HRa.out _).mono ?_
  rintro e w1 ⟨rfl, hb1⟩
  have H1 := hid (show Bel w w1 ∧ w1.heap[w.heap.size]? = some (.cells (netC a).toArray 24 (0, 0)) ∧ w1.heap[(w.heap.size + 1)]? = some (.cells (netC c).toArray 24 (0, 0)) from ⟨H0.out.1.trans hb1, hb1.heap (H0.out.2.1), hb1.heap (H0.out.2.2)⟩)
  clear hb1 H0
  go_wp2_with (first
    | (refine wpList_load_mid rfl 24 (.tmp 3) rfl (w.heap.size + 1) 0 rfl (netC c) _ ?_ Tryd.underlying24 rfl HZc.out ?_; exact range_net H1.out.2.2))
  refine (HRc.out _).mono ?_
  rintro e w2 ⟨rfl, hb2⟩
  have H2 := hid (show Bel w w2 ∧ w2.heap[w.heap.size]? = some (.cells (netC a).toArray 24 (0, 0)) ∧ w2.heap[(w.heap.size + 1)]? = some (.cells (netC c).toArray 24 (0, 0)) from ⟨H1.out.1.trans hb2, hb2.heap (H1.out.2.1), hb2.heap (H1.out.2.2)⟩)
  clear hb2 H1
  go_upto_region 3 with (fail)
  have c0 : w2.cell? ⟨w.heap.size, 0, none⟩ = some (.bool a.six) := by simp [World.cell?, H2.out.2.1, netC]
  have c1 : w2.cell? ⟨w.heap.size, 1, none⟩ = some (.int .i64 a.bits) := by simp [World.cell?, H2.out.2.1, netC]
  have e0 : w2.cell? ⟨w.heap.size + 1, 0, none⟩ = some (.bool c.six) := by simp [World.cell?, H2.out.2.2, netC]
  have e1 : w2.cell? ⟨w.heap.size + 1, 1, none⟩ = some (.int .i64 c.bits) := by simp [World.cell?, H2.out.2.2, netC]
  cases ra with
  | false =>
    have hq : q = false := by rw [HQ.out]; simp
    subst hq
    go_wp2_with fail
    go_ret
    exact ⟨rfl, H2.out.1⟩
  | true =>
    cases rc with
    | false =>
      have hq : q = false := by rw [HQ.out]; simp
      subst hq
      go_wp2_with fail
      go_ret
      exact ⟨rfl, H2.out.1⟩
    | true =>
      have hbc := hbd rfl
      cases h6 : a.six == c.six with
      | false =>
        have d6 : ¬ a.six = c.six := by
          intro f
          rw [f] at h6
          simp at h6
        have hq : q = false := by rw [HQ.out, h6]; rfl
        subst hq
        clear h6
        go_wp2_with fail
        go_ret
        exact ⟨rfl, H2.out.1⟩
      | true =>
        rw [beq_iff_eq.1 h6] at c0
        by_cases hb : a.bits < c.bits
        · have db : decide (a.bits < c.bits) = true := decide_eq_true hb
          have hq : q = false := by rw [HQ.out, h6, decide_eq_false (by omega : ¬ c.bits ≤ a.bits)]; rfl
          subst hq
          clear h6
          go_wp2_with fail
          go_ret
          exact ⟨rfl, H2.out.1⟩
        · have db : decide (a.bits < c.bits) = false := decide_eq_false hb
          have HQ2 := hid (show q = (List.range' 0 c.bits.toNat).all fun i => bitQ a.addr i == bitQ c.addr i by rw [HQ.out, h6, decide_eq_true (by omega : c.bits ≤ a.bits)]; rfl)
          obtain ⟨f, hf⟩ : ∃ f : Nat, c.bits = f := ⟨c.bits.toNat, by omega⟩
          have HF := hid hf
          have hf128 : f ≤ 128 := by omega
          have hfa : (f : Int) ≤ a.bits := by omega
          rw [hf] at e1 db
          clear h6 hbc HQ hbd hb hf
          go_wp2_with fail
          clear db c0 c1 e0 e1
          go_loopg [7] f (fun gg v7 wr => ∃ i : Nat, v7 = .int .i64 i ∧ i + gg = f ∧ Hid (((List.range' 0 i).all fun j => bitQ a.addr j == bitQ c.addr j) = true) ∧ Hid (Bel w wr ∧ wr.heap[w.heap.size]? = some (.cells (netC a).toArray 24 (0, 0)) ∧ wr.heap[(w.heap.size + 1)]? = some (.cells (netC c).toArray 24 (0, 0))))
          case atStart => exact ⟨0, rfl, by omega, hid rfl, H2⟩
          case round =>
            clear H2
            obtain ⟨i, rfl, hi, HA, H⟩ := hrel
            have Hi := hid hi
            have hin : i ≤ f := by omega
            clear hi
            have e1 : wr.cell? ⟨w.heap.size + 1, 1, none⟩ = some (.int .i64 (f : Int)) := by
              rw [← HF.out]
              simp [World.cell?, H.out.2.2, netC]
            by_cases hlt : i < f
            · have hz := same_more a.addr c.addr i
              rw [HA.out, Bool.true_and] at hz
              have HBi := hid (HBa.out i (by omega))
              have HCi := hid (HBc.out i (by omega))
              generalize hbit : bitQ a.addr i = x at HBi hz
              generalize hbit2 : bitQ c.addr i = y at HCi hz
              have HZ := hid (And.intro hz (And.intro hbit hbit2))
              have HR1 := hid (fun p : Aft wr => p.range H.out.2.1)
              have HR2 := hid (fun p : Aft wr => p.range H.out.2.2)
              clear hz hbit hbit2
              go_wp2_with fail
              refine wp_region_aft (by kernel_rfl) (by kernel_rfl) ?_
              repeat (first
                | go_big_quiet_skip
                | (refine quiet_load_aft 22 _ rfl w.heap.size 2 rfl (a.addr.map u8V) _ HR1.out Tryd.underlying22 rfl hza.out (by rfl) ?_; intro a' ha'; simp only [Act.put, Array.setIfInBounds, List.size_toArray, go_sem] at ha'; subst ha')
                | (refine quiet_load_aft 22 _ rfl (w.heap.size + 1) 2 rfl (c.addr.map u8V) _ HR2.out Tryd.underlying22 rfl hzc.out (by rfl) ?_; intro a' ha'; simp only [Act.put, Array.setIfInBounds, List.size_toArray, go_sem] at ha'; subst ha')
                | go_big_quiet_step (first | (go_at_call 26; (with_reducible refine Calls.aft (HBi.out _))) | (go_at_call 26; (with_reducible refine Calls.aft (HCi.out _))))
                | quiet_step (first | (go_at_call 26; (with_reducible refine Calls.aft (HBi.out _))) | (go_at_call 26; (with_reducible refine Calls.aft (HCi.out _)))))
              refine wpQuiet_nil ?_
              rintro _ ⟨p, rfl⟩
              have H3 := hid (show Bel w p.wd ∧ p.wd.heap[w.heap.size]? = some (.cells (netC a).toArray 24 (0, 0)) ∧ p.wd.heap[(w.heap.size + 1)]? = some (.cells (netC c).toArray 24 (0, 0)) from ⟨H.out.1.trans p.bel, p.bel.heap H.out.2.1, p.bel.heap H.out.2.2⟩)
              clear e1 HBi HCi HR1 HR2
              by_cases hx : x = y
              · have dx : ((x : Int) != (y : Int)) = false := by rw [hx]; simp
                have dn : (x != y) = false := by rw [hx]; simp
                have HN := hid (show ((List.range' 0 (i + 1)).all fun j => bitQ a.addr j == bitQ c.addr j) = true by rw [HZ.out.1, hx]; simp)
                clear hx H
                go_wp2_with fail
                go_roundg (gk - 1)
                case measure => have := Hi.out; omega
                case rel => exact ⟨i + 1, by go_num, by have := Hi.out; omega, HN, H3⟩
              · have dx : ((x : Int) != (y : Int)) = true := by rw [bne_iff_ne]; omega
                have dn : (x != y) = true := by rw [bne_iff_ne]; exact hx
                have HN := hid (show q = false by
                  rw [HQ2.out, Bool.eq_false_iff]
                  intro hall
                  have := List.all_eq_true.1 hall i (List.mem_range'_1.2 ⟨Nat.zero_le _, by have := HF.out; omega⟩)
                  rw [HZ.out.2.1, HZ.out.2.2] at this
                  exact hx (beq_iff_eq.1 this))
                clear hx H
                go_wp2_with fail
                go_ret
                exact ⟨by rw [HN.out]; rfl, H3.out.1⟩
            · obtain rfl : i = f := by omega
              have HN := hid (show q = true by rw [HQ2.out, show c.bits.toNat = i by have := HF.out; omega]; exact HA.out)
              go_wp2_with fail
              go_ret
              exact ⟨by rw [HN.out]; rfl, H.out.1⟩
end Go.Proofs.YtpmmaickjolimaaDoor.Ci
