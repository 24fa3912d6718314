/- CidrWithin. -/
import Derived.Test.YtpmmaickjolimaaDoorDn
import Derived.Test.YtpmmaickjolimaaDoorDe
namespace Go.Proofs.YtpmmaickjolimaaDoor.Ci
open Go.RowKit

set_option maxHeartbeats 4000000 in
set_option maxRecDepth 100000 in
theorem withinlaw_run (a c : Nt) (ha : a.Fits) (hc : c.Fits) (Ls : List Nt) (x : Option Addr) (cap : Nat) (hx : x = none ∧ Ls.length = 0 ∧ cap = 0 ∨ ∃ ad, x = some ad) (hm : Ls.length * 32 ≤ 140737488355328) (w : World) (hw : Lay w) (hN : Nets w x Ls) :
    Calls Tryd.prog 6 #[netV a, netV c, .slice x Ls.length cap] w fun e w' => e = .returned (.bool true) ∧ Bel w w' := by
  have HS := (show Hid (∀ W, Lay W → Calls Tryd.prog 7 #[] W fun e w' => e = .returned (.bool true) ∧ Bel W w') from fun W hW => shown_run W hW)
  have HW1 := (show Hid (∀ W, Calls Tryd.prog 13 #[.agg (netC a).toArray, .agg (netC c).toArray] W fun e w' => e = .returned (.bool (withinQ a c)) ∧ Bel W w') from fun W => within_run a c ha hc W)
  have HW2 := (show Hid (∀ W, Calls Tryd.prog 13 #[.agg (netC c).toArray, .agg (netC a).toArray] W fun e w' => e = .returned (.bool (withinQ c a)) ∧ Bel W w') from fun W => within_run c a hc ha W)
  have HR1 := (show Hid (∀ W, Calls Tryd.prog 16 #[.agg (netC a).toArray, .agg (netC c).toArray] W fun e w' => e = .returned (.bool (withinQ a c)) ∧ Bel W w') from fun W => rwithin_run a c ha hc W)
  have HR2 := (show Hid (∀ W, Calls Tryd.prog 16 #[.agg (netC c).toArray, .agg (netC a).toArray] W fun e w' => e = .returned (.bool (withinQ c a)) ∧ Bel W w') from fun W => rwithin_run c a hc ha W)
  have HH := (show Hid (∀ W y d, Nets W y Ls → Calls Tryd.prog 14 #[.slice y Ls.length d, .agg (netC a).toArray] W fun e w' => e = .returned (.bool (hasQ Ls a)) ∧ Bel W w') from fun W y d hy => has_run Ls a ha y d (by omega) W hy)
  have HG := (show Hid (∀ W y d, Nets W y Ls → Calls Tryd.prog 17 #[.slice y Ls.length d, .agg (netC a).toArray] W fun e w' => e = .returned (.bool (hasQ Ls a)) ∧ Bel W w') from fun W y d hy => rhas_run Ls a ha y d (by omega) W hy)
  have HM := (show Hid (∀ W y z d g, Nets W y Ls → Nets W z Ls → Calls Tryd.prog 15 #[.slice y Ls.length d, .slice z Ls.length g] W fun e w' => e = .returned (.bool true) ∧ Bel W w') from fun W y z d g hy hz => same_run Ls y z d g (by omega) W hy hz)
  have HZa := hid (net_len a ha.len)
  have HZc := hid (net_len c hc.len)
  have HW := hid hw
  have HN := hid hN
  have Hx := hid hx
  have Hm := hid hm
  have H0 := hid (show Bel w ((w.alloc (.cells (netC a).toArray 24)).alloc (.cells (netC c).toArray 24)) ∧ ((w.alloc (.cells (netC a).toArray 24)).alloc (.cells (netC c).toArray 24)).heap[w.heap.size]? = some (.cells (netC a).toArray 24 (0, 0)) ∧ ((w.alloc (.cells (netC a).toArray 24)).alloc (.cells (netC c).toArray 24)).heap[(w.heap.size + 1)]? = some (.cells (netC c).toArray 24 (0, 0)) from ⟨((Bel.refl w).alloc _).alloc _, (Below.heap_alloc _ _ _ (by simp only [World.size_alloc]; omega)).trans (heap_alloc_new w _), alloc_second w _ _⟩)
  generalize withinQ a c = q1 at HW1 HR1
  generalize withinQ c a = q2 at HW2 HR2
  generalize hasQ Ls a = q3 at HH HG
  have b1 : (q1 == q1) = true := beq_self_eq_true q1
  have b2 : (q2 == q2) = true := beq_self_eq_true q2
  have b3 : (q3 == q3) = true := beq_self_eq_true q3
  unfold netV
  clear hw hN hx hm ha hc
  go_enter Tryd.func6, Tryd.ntmps6
  go_upto_region 1 with (fail)
  generalize ((w.alloc (.cells (netC a).toArray 24)).alloc (.cells (netC c).toArray 24)) = v0 at H0 ⊢
  go_wp2_with fail
  refine (HS.out _ (HW.out.next H0.out.1)).mono ?_
  rintro e w1 ⟨rfl, hb1⟩
  have H1 := hid (show Bel w w1 ∧ w1.heap[w.heap.size]? = some (.cells (netC a).toArray 24 (0, 0)) ∧ w1.heap[(w.heap.size + 1)]? = some (.cells (netC c).toArray 24 (0, 0)) from ⟨H0.out.1.trans hb1, hb1.heap (H0.out.2.1), hb1.heap (H0.out.2.2)⟩)
  clear hb1 H0
  go_upto_region 2 with (fail)
  go_wp2_with (first
    | (refine wpList_load_mid rfl 24 (.tmp 3) rfl w.heap.size 0 rfl (netC a) _ ?_ Tryd.underlying24 rfl HZa.out ?_; exact range_net H1.out.2.1)
    | (refine wpList_load_mid rfl 24 (.tmp 4) rfl (w.heap.size + 1) 0 rfl (netC c) _ ?_ Tryd.underlying24 rfl HZc.out ?_; exact range_net H1.out.2.2))
  refine (HW1.out _).mono ?_
  rintro e w2 ⟨rfl, hb2⟩
  have H2 := hid (show Bel w w2 ∧ w2.heap[w.heap.size]? = some (.cells (netC a).toArray 24 (0, 0)) ∧ w2.heap[(w.heap.size + 1)]? = some (.cells (netC c).toArray 24 (0, 0)) from ⟨H1.out.1.trans hb2, hb2.heap (H1.out.2.1), hb2.heap (H1.out.2.2)⟩)
  clear hb2 H1
  go_upto_region 3 with (fail)
  go_wp2_with (first
    | (refine wpList_load_mid rfl 24 (.tmp 4) rfl (w.heap.size + 1) 0 rfl (netC c) _ ?_ Tryd.underlying24 rfl HZc.out ?_; exact range_net H2.out.2.2)
    | (refine wpList_load_mid rfl 24 (.tmp 3) rfl w.heap.size 0 rfl (netC a) _ ?_ Tryd.underlying24 rfl HZa.out ?_; exact range_net H2.out.2.1))
  refine (HW2.out _).mono ?_
  rintro e w3 ⟨rfl, hb3⟩
  have H3 := hid (show Bel w w3 ∧ w3.heap[w.heap.size]? = some (.cells (netC a).toArray 24 (0, 0)) ∧ w3.heap[(w.heap.size + 1)]? = some (.cells (netC c).toArray 24 (0, 0)) from ⟨H2.out.1.trans hb3, hb3.heap (H2.out.2.1), hb3.heap (H2.out.2.2)⟩)
  clear hb3 H2
  go_upto_region 4 with (fail)
  have N3 := hid (HN.out.next H3.out.1)
  go_upto_region 5 with (refine wpList_append_nets (v := w3) rfl (.tmp 20) (.tmp 21) rfl Ls x cap N3.out Hx.out Hm.out rfl rfl ?_; intro y yc w4 hN4 hb4)
  have N4 := hid hN4
  have H4 := hid (show Bel w w4 ∧ w4.heap[w.heap.size]? = some (.cells (netC a).toArray 24 (0, 0)) ∧ w4.heap[(w.heap.size + 1)]? = some (.cells (netC c).toArray 24 (0, 0)) from ⟨H3.out.1.trans hb4, hb4.heap H3.out.2.1, hb4.heap H3.out.2.2⟩)
  clear hb4 hN4 N3 H3
  go_wp2_with (first
    | (refine wpList_load_mid rfl 24 (.tmp 3) rfl w.heap.size 0 rfl (netC a) _ ?_ Tryd.underlying24 rfl HZa.out ?_; exact range_net H4.out.2.1))
  refine (HH.out _ _ _ N4.out).mono ?_
  rintro e w5 ⟨rfl, hb5⟩
  have H5 := hid (show Bel w w5 ∧ w5.heap[w.heap.size]? = some (.cells (netC a).toArray 24 (0, 0)) ∧ w5.heap[(w.heap.size + 1)]? = some (.cells (netC c).toArray 24 (0, 0)) from ⟨H4.out.1.trans hb5, hb5.heap (H4.out.2.1), hb5.heap (H4.out.2.2)⟩)
  have N5 := hid (N4.out.next hb5)
  clear hb5 H4 N4
  go_upto_region 6 with (fail)
  go_wp2_with fail
  refine (HM.out _ _ _ _ _ N5.out (HN.out.next H5.out.1)).mono ?_
  rintro e w6 ⟨rfl, hb6⟩
  have H6 := hid (show Bel w w6 ∧ w6.heap[w.heap.size]? = some (.cells (netC a).toArray 24 (0, 0)) ∧ w6.heap[(w.heap.size + 1)]? = some (.cells (netC c).toArray 24 (0, 0)) from ⟨H5.out.1.trans hb6, hb6.heap (H5.out.2.1), hb6.heap (H5.out.2.2)⟩)
  clear hb6 H5
  go_upto_region 7 with (fail)
  go_wp2_with (first
    | (refine wpList_load_wanted 24 (.tmp 3) rfl w.heap.size 0 rfl (netC a) _ ?_ Tryd.underlying24 rfl HZa.out (by rfl) ?_; exact range_net H6.out.2.1)
    | (refine wpList_load_wanted 24 (.tmp 4) rfl (w.heap.size + 1) 0 rfl (netC c) _ ?_ Tryd.underlying24 rfl HZc.out (by rfl) ?_; exact range_net H6.out.2.2))
  refine (HR1.out _).mono ?_
  rintro e w7 ⟨rfl, hb7⟩
  have H7 := hid (show Bel w w7 ∧ w7.heap[w.heap.size]? = some (.cells (netC a).toArray 24 (0, 0)) ∧ w7.heap[(w.heap.size + 1)]? = some (.cells (netC c).toArray 24 (0, 0)) from ⟨H6.out.1.trans hb7, hb7.heap (H6.out.2.1), hb7.heap (H6.out.2.2)⟩)
  clear hb7 H6
  go_wp2_with (first
    | (refine wpList_load_wanted 24 (.tmp 4) rfl (w.heap.size + 1) 0 rfl (netC c) _ ?_ Tryd.underlying24 rfl HZc.out (by rfl) ?_; exact range_net H7.out.2.2)
    | (refine wpList_load_wanted 24 (.tmp 3) rfl w.heap.size 0 rfl (netC a) _ ?_ Tryd.underlying24 rfl HZa.out (by rfl) ?_; exact range_net H7.out.2.1))
  refine (HR2.out _).mono ?_
  rintro e w8 ⟨rfl, hb8⟩
  have H8 := hid (show Bel w w8 ∧ w8.heap[w.heap.size]? = some (.cells (netC a).toArray 24 (0, 0)) ∧ w8.heap[(w.heap.size + 1)]? = some (.cells (netC c).toArray 24 (0, 0)) from ⟨H7.out.1.trans hb8, hb8.heap (H7.out.2.1), hb8.heap (H7.out.2.2)⟩)
  clear hb8 H7
  go_wp2_with (first
    | (refine wpList_load_wanted 24 (.tmp 3) rfl w.heap.size 0 rfl (netC a) _ ?_ Tryd.underlying24 rfl HZa.out (by rfl) ?_; exact range_net H8.out.2.1))
  refine (HG.out _ _ _ (HN.out.next H8.out.1)).mono ?_
  rintro e w9 ⟨rfl, hb9⟩
  have H9 := hid (show Bel w w9 ∧ w9.heap[w.heap.size]? = some (.cells (netC a).toArray 24 (0, 0)) ∧ w9.heap[(w.heap.size + 1)]? = some (.cells (netC c).toArray 24 (0, 0)) from ⟨H8.out.1.trans hb9, hb9.heap (H8.out.2.1), hb9.heap (H8.out.2.2)⟩)
  clear hb9 H8
  go_wp2_with fail
  go_ret
  exact ⟨by first | rfl | simp, H9.out.1⟩
end Go.Proofs.YtpmmaickjolimaaDoor.Ci
