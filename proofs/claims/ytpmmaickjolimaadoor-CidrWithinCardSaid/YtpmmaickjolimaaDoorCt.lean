/- Orders. -/
import Derived.Test.YtpmmaickjolimaaDoorCv
import Derived.Outline
namespace Go.Proofs.YtpmmaickjolimaaDoor.Ci
open Go.RowKit

theorem alloc_third (w : World) (o p q : Obj) : (((w.alloc o).alloc p).alloc q).heap[w.heap.size + 2]? = some q := by
  have := heap_alloc_new ((w.alloc o).alloc p) q
  rw [World.size_alloc, World.size_alloc] at this
  exact this
set_option maxHeartbeats 4000000 in
set_option maxRecDepth 100000 in
theorem orders_run (a b c : Nt) (ha : a.Fits) (hb : b.Fits) (hc : c.Fits) (w : World) (hw : Lay w) :
    Calls Tryd.prog 5 #[netV a, netV b, netV c] w fun e w' => e = .returned (.bool true) ∧ Bel w w' := by
  have HS := (show Hid (∀ W, Lay W → Calls Tryd.prog 7 #[] W fun e w' => e = .returned (.bool true) ∧ Bel W w') from fun W hW => shown_run W hW)
  have HR := (show Hid (∀ W, Calls Tryd.prog 10 #[.agg (netC a).toArray] W fun e w' => e = .returned (.bool (rightQ a)) ∧ Bel W w') from fun W => right_run a ha W)
  have Haa := (show Hid (∀ W, Calls Tryd.prog 13 #[.agg (netC a).toArray, .agg (netC a).toArray] W fun e w' => e = .returned (.bool (rightQ a)) ∧ Bel W w') from fun W => by rw [← within_self a]; exact within_run a a ha ha W)
  have Hab := (show Hid (∀ W, Calls Tryd.prog 13 #[.agg (netC a).toArray, .agg (netC b).toArray] W fun e w' => e = .returned (.bool (withinQ a b)) ∧ Bel W w') from fun W => within_run a b ha hb W)
  have Hba := (show Hid (∀ W, Calls Tryd.prog 13 #[.agg (netC b).toArray, .agg (netC a).toArray] W fun e w' => e = .returned (.bool (withinQ b a)) ∧ Bel W w') from fun W => within_run b a hb ha W)
  have Hbc := (show Hid (∀ W, Calls Tryd.prog 13 #[.agg (netC b).toArray, .agg (netC c).toArray] W fun e w' => e = .returned (.bool (withinQ b c)) ∧ Bel W w') from fun W => within_run b c hb hc W)
  have Hac := (show Hid (∀ W, Calls Tryd.prog 13 #[.agg (netC a).toArray, .agg (netC c).toArray] W fun e w' => e = .returned (.bool (withinQ a c)) ∧ Bel W w') from fun W => within_run a c ha hc W)
  have HZa := hid (net_len a ha.len)
  have HZb := hid (net_len b hb.len)
  have HZc := hid (net_len c hc.len)
  have anti := fun (h1 : withinQ a b = true) (h2 : withinQ b a = true) => within_anti h1 h2
  have trans := fun (h1 : withinQ a b = true) (h2 : withinQ b c = true) => within_trans h1 h2
  generalize rightQ a = r at HR Haa
  generalize withinQ a b = vab at Hab anti trans
  generalize withinQ b a = vba at Hba anti
  generalize withinQ b c = vbc at Hbc trans
  generalize withinQ a c = vac at Hac trans
  have HQ := (show Hid (vab = true → vba = true → ∀ W, (Op.equalIn 10000 24 (.agg (netC a).toArray) (.agg (netC b).toArray)).run Tryd.prog W = .ok true W) from fun h1 h2 W => by rw [← anti h1 h2]; exact eq_net a ha.len W)
  have HT := hid trans
  have HW := hid hw
  have H0 := hid (show Bel w (((w.alloc (.cells (netC a).toArray 24)).alloc (.cells (netC b).toArray 24)).alloc (.cells (netC c).toArray 24)) ∧ (((w.alloc (.cells (netC a).toArray 24)).alloc (.cells (netC b).toArray 24)).alloc (.cells (netC c).toArray 24)).heap[w.heap.size]? = some (.cells (netC a).toArray 24 (0, 0)) ∧ (((w.alloc (.cells (netC a).toArray 24)).alloc (.cells (netC b).toArray 24)).alloc (.cells (netC c).toArray 24)).heap[(w.heap.size + 1)]? = some (.cells (netC b).toArray 24 (0, 0)) ∧ (((w.alloc (.cells (netC a).toArray 24)).alloc (.cells (netC b).toArray 24)).alloc (.cells (netC c).toArray 24)).heap[(w.heap.size + 2)]? = some (.cells (netC c).toArray 24 (0, 0)) from ⟨(((Bel.refl w).alloc _).alloc _).alloc _, (Below.heap_alloc _ _ _ (by simp only [World.size_alloc]; omega)).trans ((Below.heap_alloc _ _ _ (by simp only [World.size_alloc]; omega)).trans (heap_alloc_new w _)), (Below.heap_alloc _ _ _ (by simp only [World.size_alloc]; omega)).trans (alloc_second w _ _), alloc_third w _ _ _⟩)
  unfold netV
  clear anti trans hw ha hb hc
  go_enter Tryd.func5, Tryd.ntmps5
  go_upto_region 1 with (fail)
  generalize (((w.alloc (.cells (netC a).toArray 24)).alloc (.cells (netC b).toArray 24)).alloc (.cells (netC c).toArray 24)) = v0 at H0 ⊢
  go_wp2_with fail
  refine (HS.out _ (HW.out.next H0.out.1)).mono ?_
  rintro e w1 ⟨rfl, hb1⟩
  have H1 := hid (show Bel w w1 ∧ w1.heap[w.heap.size]? = some (.cells (netC a).toArray 24 (0, 0)) ∧ w1.heap[(w.heap.size + 1)]? = some (.cells (netC b).toArray 24 (0, 0)) ∧ w1.heap[(w.heap.size + 2)]? = some (.cells (netC c).toArray 24 (0, 0)) from ⟨H0.out.1.trans hb1, hb1.heap (H0.out.2.1), hb1.heap (H0.out.2.2.1), hb1.heap (H0.out.2.2.2)⟩)
  clear hb1 H0
  go_upto_region 2 with (fail)
  go_wp2_with (first
    | (refine wpList_load_mid rfl 24 (.tmp 3) rfl w.heap.size 0 rfl (netC a) _ ?_ Tryd.underlying24 rfl HZa.out ?_; exact range_net H1.out.2.1))
  refine (HR.out _).mono ?_
  rintro e w2 ⟨rfl, hb2⟩
  have H2 := hid (show Bel w w2 ∧ w2.heap[w.heap.size]? = some (.cells (netC a).toArray 24 (0, 0)) ∧ w2.heap[(w.heap.size + 1)]? = some (.cells (netC b).toArray 24 (0, 0)) ∧ w2.heap[(w.heap.size + 2)]? = some (.cells (netC c).toArray 24 (0, 0)) from ⟨H1.out.1.trans hb2, hb2.heap (H1.out.2.1), hb2.heap (H1.out.2.2.1), hb2.heap (H1.out.2.2.2)⟩)
  clear hb2 H1
  go_upto_region 3 with (fail)
  go_wp2_with (first
    | (refine wpList_load_mid rfl 24 (.tmp 3) rfl w.heap.size 0 rfl (netC a) _ ?_ Tryd.underlying24 rfl HZa.out ?_; exact range_net H2.out.2.1))
  refine (Haa.out _).mono ?_
  rintro e w3 ⟨rfl, hb3⟩
  have H3 := hid (show Bel w w3 ∧ w3.heap[w.heap.size]? = some (.cells (netC a).toArray 24 (0, 0)) ∧ w3.heap[(w.heap.size + 1)]? = some (.cells (netC b).toArray 24 (0, 0)) ∧ w3.heap[(w.heap.size + 2)]? = some (.cells (netC c).toArray 24 (0, 0)) from ⟨H2.out.1.trans hb3, hb3.heap (H2.out.2.1), hb3.heap (H2.out.2.2.1), hb3.heap (H2.out.2.2.2)⟩)
  clear hb3 H2
  go_upto_region 4 with (fail)
  go_wp2_with (first
    | (refine wpList_load_mid rfl 24 (.tmp 3) rfl w.heap.size 0 rfl (netC a) _ ?_ Tryd.underlying24 rfl HZa.out ?_; exact range_net H3.out.2.1)
    | (refine wpList_load_mid rfl 24 (.tmp 4) rfl (w.heap.size + 1) 0 rfl (netC b) _ ?_ Tryd.underlying24 rfl HZb.out ?_; exact range_net H3.out.2.2.1))
  refine (Hab.out _).mono ?_
  rintro e w4 ⟨rfl, hb4⟩
  have H4 := hid (show Bel w w4 ∧ w4.heap[w.heap.size]? = some (.cells (netC a).toArray 24 (0, 0)) ∧ w4.heap[(w.heap.size + 1)]? = some (.cells (netC b).toArray 24 (0, 0)) ∧ w4.heap[(w.heap.size + 2)]? = some (.cells (netC c).toArray 24 (0, 0)) from ⟨H3.out.1.trans hb4, hb4.heap (H3.out.2.1), hb4.heap (H3.out.2.2.1), hb4.heap (H3.out.2.2.2)⟩)
  clear hb4 H3
  go_upto_region 5 with (fail)
  go_wp2_with (first
    | (refine wpList_load_mid rfl 24 (.tmp 4) rfl (w.heap.size + 1) 0 rfl (netC b) _ ?_ Tryd.underlying24 rfl HZb.out ?_; exact range_net H4.out.2.2.1)
    | (refine wpList_load_mid rfl 24 (.tmp 3) rfl w.heap.size 0 rfl (netC a) _ ?_ Tryd.underlying24 rfl HZa.out ?_; exact range_net H4.out.2.1))
  refine (Hba.out _).mono ?_
  rintro e w5 ⟨rfl, hb5⟩
  have H5 := hid (show Bel w w5 ∧ w5.heap[w.heap.size]? = some (.cells (netC a).toArray 24 (0, 0)) ∧ w5.heap[(w.heap.size + 1)]? = some (.cells (netC b).toArray 24 (0, 0)) ∧ w5.heap[(w.heap.size + 2)]? = some (.cells (netC c).toArray 24 (0, 0)) from ⟨H4.out.1.trans hb5, hb5.heap (H4.out.2.1), hb5.heap (H4.out.2.2.1), hb5.heap (H4.out.2.2.2)⟩)
  clear hb5 H4
  go_upto_region 6 with (fail)
  go_wp2_with (first
    | (refine wpList_load_mid rfl 24 (.tmp 4) rfl (w.heap.size + 1) 0 rfl (netC b) _ ?_ Tryd.underlying24 rfl HZb.out ?_; exact range_net H5.out.2.2.1)
    | (refine wpList_load_mid rfl 24 (.tmp 5) rfl (w.heap.size + 2) 0 rfl (netC c) _ ?_ Tryd.underlying24 rfl HZc.out ?_; exact range_net H5.out.2.2.2))
  refine (Hbc.out _).mono ?_
  rintro e w6 ⟨rfl, hb6⟩
  have H6 := hid (show Bel w w6 ∧ w6.heap[w.heap.size]? = some (.cells (netC a).toArray 24 (0, 0)) ∧ w6.heap[(w.heap.size + 1)]? = some (.cells (netC b).toArray 24 (0, 0)) ∧ w6.heap[(w.heap.size + 2)]? = some (.cells (netC c).toArray 24 (0, 0)) from ⟨H5.out.1.trans hb6, hb6.heap (H5.out.2.1), hb6.heap (H5.out.2.2.1), hb6.heap (H5.out.2.2.2)⟩)
  clear hb6 H5
  go_upto_region 7 with (fail)
  go_wp2_with (first
    | (refine wpList_load_mid rfl 24 (.tmp 3) rfl w.heap.size 0 rfl (netC a) _ ?_ Tryd.underlying24 rfl HZa.out ?_; exact range_net H6.out.2.1)
    | (refine wpList_load_mid rfl 24 (.tmp 5) rfl (w.heap.size + 2) 0 rfl (netC c) _ ?_ Tryd.underlying24 rfl HZc.out ?_; exact range_net H6.out.2.2.2))
  refine (Hac.out _).mono ?_
  rintro e w7 ⟨rfl, hb7⟩
  have H7 := hid (show Bel w w7 ∧ w7.heap[w.heap.size]? = some (.cells (netC a).toArray 24 (0, 0)) ∧ w7.heap[(w.heap.size + 1)]? = some (.cells (netC b).toArray 24 (0, 0)) ∧ w7.heap[(w.heap.size + 2)]? = some (.cells (netC c).toArray 24 (0, 0)) from ⟨H6.out.1.trans hb7, hb7.heap (H6.out.2.1), hb7.heap (H6.out.2.2.1), hb7.heap (H6.out.2.2.2)⟩)
  clear hb7 H6
  go_upto_region 8 with (fail)
  clear HS HR Haa Hab Hba Hbc Hac
  have hrr : (r == r) = true := by cases r <;> rfl
  cases vab with
  | false =>
    go_wp2_with (first
      | (refine wpList_load_wanted 24 (.tmp 3) rfl w.heap.size 0 rfl (netC a) _ ?_ Tryd.underlying24 rfl HZa.out (by rfl) ?_; exact range_net H7.out.2.1)
      | (refine wpList_load_wanted 24 (.tmp 4) rfl (w.heap.size + 1) 0 rfl (netC b) _ ?_ Tryd.underlying24 rfl HZb.out (by rfl) ?_; exact range_net H7.out.2.2.1))
    go_ret
    exact ⟨by first | rfl | simp, H7.out.1⟩
  | true =>
    cases vba with
    | false =>
      cases vbc with
      | false =>
        go_wp2_with (first
          | (refine wpList_load_wanted 24 (.tmp 3) rfl w.heap.size 0 rfl (netC a) _ ?_ Tryd.underlying24 rfl HZa.out (by rfl) ?_; exact range_net H7.out.2.1)
          | (refine wpList_load_wanted 24 (.tmp 4) rfl (w.heap.size + 1) 0 rfl (netC b) _ ?_ Tryd.underlying24 rfl HZb.out (by rfl) ?_; exact range_net H7.out.2.2.1))
        go_ret
        exact ⟨by first | rfl | simp, H7.out.1⟩
      | true =>
        have hac := HT.out rfl rfl
        subst hac
        go_wp2_with (first
          | (refine wpList_load_wanted 24 (.tmp 3) rfl w.heap.size 0 rfl (netC a) _ ?_ Tryd.underlying24 rfl HZa.out (by rfl) ?_; exact range_net H7.out.2.1)
          | (refine wpList_load_wanted 24 (.tmp 4) rfl (w.heap.size + 1) 0 rfl (netC b) _ ?_ Tryd.underlying24 rfl HZb.out (by rfl) ?_; exact range_net H7.out.2.2.1))
        go_ret
        exact ⟨by first | rfl | simp, H7.out.1⟩
    | true =>
      have hq := HQ.out rfl rfl
      cases vbc with
      | false =>
        go_wp2_with (first
          | (refine wpList_load_wanted 24 (.tmp 3) rfl w.heap.size 0 rfl (netC a) _ ?_ Tryd.underlying24 rfl HZa.out (by rfl) ?_; exact range_net H7.out.2.1)
          | (refine wpList_load_wanted 24 (.tmp 4) rfl (w.heap.size + 1) 0 rfl (netC b) _ ?_ Tryd.underlying24 rfl HZb.out (by rfl) ?_; exact range_net H7.out.2.2.1))
        go_ret
        exact ⟨by first | rfl | simp, H7.out.1⟩
      | true =>
        have hac := HT.out rfl rfl
        subst hac
        go_wp2_with (first
          | (refine wpList_load_wanted 24 (.tmp 3) rfl w.heap.size 0 rfl (netC a) _ ?_ Tryd.underlying24 rfl HZa.out (by rfl) ?_; exact range_net H7.out.2.1)
          | (refine wpList_load_wanted 24 (.tmp 4) rfl (w.heap.size + 1) 0 rfl (netC b) _ ?_ Tryd.underlying24 rfl HZb.out (by rfl) ?_; exact range_net H7.out.2.2.1))
        go_ret
        exact ⟨by first | rfl | simp, H7.out.1⟩
end Go.Proofs.YtpmmaickjolimaaDoor.Ci
