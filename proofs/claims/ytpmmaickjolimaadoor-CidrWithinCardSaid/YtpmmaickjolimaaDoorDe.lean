/- Shows. -/
import Derived.Test.YtpmmaickjolimaaDoorDd
import Derived.Test.YtpmmaickjolimaaDoorCt
namespace Go.Proofs.YtpmmaickjolimaaDoor.Ci
open Go.RowKit

def showT (n : Nt) : ByteArray := ⟨((showQ n).getD []).toArray⟩
set_option maxHeartbeats 4000000 in
set_option maxRecDepth 100000 in
theorem shows_run (a : Nt) (ha : a.Fits) (w : World) (hw : Lay w) :
    Calls Tryd.prog 3 #[netV a] w fun e w' => e = .returned (.bool true) ∧ Bel w w' := by
  have HS := (show Hid (∀ W, Lay W → Calls Tryd.prog 7 #[] W fun e w' => e = .returned (.bool true) ∧ Bel W w') from fun W hW => shown_run W hW)
  have HR := (show Hid (∀ W, Calls Tryd.prog 10 #[.agg (netC a).toArray] W fun e w' => e = .returned (.bool (rightQ a)) ∧ Bel W w') from fun W => right_run a ha W)
  have HRR := (show Hid (∀ W, Calls Tryd.prog 11 #[.agg (netC a).toArray] W fun e w' => e = .returned (.bool (rightQ a)) ∧ Bel W w') from fun W => rright_run a ha W)
  have HV := (show Hid (∀ W, Lay W → Calls Tryd.prog 9 #[.agg (netC a).toArray] W fun e w' => e = .returned (.tuple #[.string (showT a), .int .i64 (errS a)]) ∧ Bel W w') from fun W hW => show_run a ha W hW)
  have HVR := (show Hid (∀ W, Calls Tryd.prog 8 #[.agg (netC a).toArray] W fun e w' => e = .returned (.tuple #[.string (showT a), .int .i64 (errS a)]) ∧ Bel W w') from fun W => rshow_run a ha W)
  have HZa := hid (net_len a ha.len)
  have HW := hid hw
  have H0 := hid (show Bel w (w.alloc (.cells (netC a).toArray 24)) ∧ (w.alloc (.cells (netC a).toArray 24)).heap[w.heap.size]? = some (.cells (netC a).toArray 24 (0, 0)) from ⟨(Bel.refl w).alloc _, heap_alloc_new w _⟩)
  generalize rightQ a = r at HR HRR
  generalize showT a = t at HV HVR
  generalize errS a = x at HV HVR
  unfold netV
  clear hw ha
  go_enter Tryd.func3, Tryd.ntmps3
  go_upto_region 1 with (fail)
  generalize (w.alloc (.cells (netC a).toArray 24)) = v0 at H0 ⊢
  go_wp2_with fail
  refine (HS.out _ (HW.out.next H0.out.1)).mono ?_
  rintro e w1 ⟨rfl, hb1⟩
  have H1 := hid (show Bel w w1 ∧ w1.heap[w.heap.size]? = some (.cells (netC a).toArray 24 (0, 0)) from ⟨H0.out.1.trans hb1, hb1.heap (H0.out.2)⟩)
  clear hb1 H0
  go_upto_region 2 with (fail)
  go_wp2_with (first
    | (refine wpList_load_mid rfl 24 (.tmp 1) rfl w.heap.size 0 rfl (netC a) _ ?_ Tryd.underlying24 rfl HZa.out ?_; exact range_net H1.out.2))
  refine (HVR.out _).mono ?_
  rintro e w2 ⟨rfl, hb2⟩
  have H2 := hid (show Bel w w2 ∧ w2.heap[w.heap.size]? = some (.cells (netC a).toArray 24 (0, 0)) from ⟨H1.out.1.trans hb2, hb2.heap (H1.out.2)⟩)
  clear hb2 H1
  go_upto_region 3 with (fail)
  go_wp2_with (first
    | (refine wpList_load_mid rfl 24 (.tmp 1) rfl w.heap.size 0 rfl (netC a) _ ?_ Tryd.underlying24 rfl HZa.out ?_; exact range_net H2.out.2))
  refine (HV.out _ (HW.out.next H2.out.1)).mono ?_
  rintro e w3 ⟨rfl, hb3⟩
  have H3 := hid (show Bel w w3 ∧ w3.heap[w.heap.size]? = some (.cells (netC a).toArray 24 (0, 0)) from ⟨H2.out.1.trans hb3, hb3.heap (H2.out.2)⟩)
  clear hb3 H2
  go_upto_region 4 with (fail)
  go_wp2_with (first
    | (refine wpList_load_mid rfl 24 (.tmp 1) rfl w.heap.size 0 rfl (netC a) _ ?_ Tryd.underlying24 rfl HZa.out ?_; exact range_net H3.out.2))
  refine (HR.out _).mono ?_
  rintro e w4 ⟨rfl, hb4⟩
  have H4 := hid (show Bel w w4 ∧ w4.heap[w.heap.size]? = some (.cells (netC a).toArray 24 (0, 0)) from ⟨H3.out.1.trans hb4, hb4.heap (H3.out.2)⟩)
  clear hb4 H3
  go_upto_region 5 with (fail)
  have hrr : (r == r) = true := by cases r <;> rfl
  go_wp2_with (first
    | (refine wpList_load_wanted 24 (.tmp 1) rfl w.heap.size 0 rfl (netC a) _ ?_ Tryd.underlying24 rfl HZa.out (by rfl) ?_; exact range_net H4.out.2))
  refine (HRR.out _).mono ?_
  rintro e w5 ⟨rfl, hb5⟩
  have H5 := hid (show Bel w w5 ∧ w5.heap[w.heap.size]? = some (.cells (netC a).toArray 24 (0, 0)) from ⟨H4.out.1.trans hb5, hb5.heap (H4.out.2)⟩)
  clear hb5 H4
  go_wp2_with fail
  go_ret
  exact ⟨by first | rfl | simp, H5.out.1⟩
end Go.Proofs.YtpmmaickjolimaaDoor.Ci
