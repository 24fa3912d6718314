/- Back. -/
import Derived.Test.YtpmmaickjolimaaDoorDp
import Derived.Test.YtpmmaickjolimaaDoorDe
namespace Go.Proofs.YtpmmaickjolimaaDoor.Ci
open Go.RowKit

def formB (n : Nt) : ByteArray := ⟨(formQ n).toArray⟩
/-- A right range, shown and read. -/
theorem show_good (n : Nt) (hn : n.Fits) (hr : rightQ n = true) (w : World) (hw : Lay w) : Calls Tryd.prog 9 #[.agg (netC n).toArray] w fun e w' => e = .returned (.tuple #[.string (formB n), .int .i64 0]) ∧ Bel w w' := by
  have := show_run n hn w hw
  rw [show showQ n = some (formQ n) by unfold showQ; rw [if_pos hr], show errS n = 0 by unfold errS; rw [if_pos hr]] at this
  exact this
theorem parse_good (n : Nt) (hn : n.Fits) (hr : rightQ n = true) (w : World) (hw : Lay w) : Calls Tryd.prog 12 #[.string (formB n)] w fun e w' => e = .returned (.tuple #[.agg (netC n).toArray, .int .i64 0]) ∧ Bel w w' := by
  have hb := rightQ_bits hr
  have := parse_run (formB n) w hw (by rw [Lib.size_eq]; have := form_size n hn hb.2; show (formQ n).length < _; omega)
  rw [show parseQ (formB n).data.toList = some n from parse_form n hn hr] at this
  exact this
set_option maxHeartbeats 4000000 in
set_option maxRecDepth 100000 in
theorem back_run (a : Nt) (ha : a.Fits) (s : ByteArray) (hs : s.size < 4294967281) (w : World) (hw : Lay w) :
    Calls Tryd.prog 4 #[netV a, .string s] w fun e w' => e = .returned (.bool true) ∧ Bel w w' := by
  have HS := (show Hid (∀ W, Lay W → Calls Tryd.prog 7 #[] W fun e w' => e = .returned (.bool true) ∧ Bel W w') from fun W hW => shown_run W hW)
  have HZa := hid (net_len a ha.len)
  have HZzeroN := hid (net_len zeroN zeroN_fits.len)
  have HLa := hid ha.len
  have HLzeroN := hid zeroN_fits.len
  have HW := hid hw
  have HFa := hid ha
  have HP := (show Hid (∀ W, Lay W → Calls Tryd.prog 12 #[.string s] W fun e w' => e = .returned (.tuple #[netV ((parseQ s.data.toList).getD zeroN), .int .i64 (errQ (parseQ s.data.toList))]) ∧ Bel W w') from fun W hW => parse_run s W hW hs)
  have HX := hid (fun n (h : parseQ s.data.toList = some n) => parse_right h)
  have qa : ∀ W : World, (Op.equalIn 10000 24 (.agg (netC a).toArray) (.agg (netC a).toArray)).run Tryd.prog W = .ok true W := fun W => eq_net a ha.len W
  have H0 := hid (show Bel w (w.alloc (.cells (netC a).toArray 24)) ∧ (w.alloc (.cells (netC a).toArray 24)).heap[w.heap.size]? = some (.cells (netC a).toArray 24 (0, 0)) from ⟨(Bel.refl w).alloc _, heap_alloc_new w _⟩)
  have HV := (show Hid (∀ W, Lay W → Calls Tryd.prog 9 #[.agg (netC a).toArray] W fun e w' => e = .returned (.tuple #[.string (showT a), .int .i64 (errS a)]) ∧ Bel W w') from fun W hW => show_run a ha W hW)
  generalize parseQ s.data.toList = o at HP HX
  unfold netV
  clear hw ha
  go_enter Tryd.func4, Tryd.ntmps4
  go_upto_region 1 with (fail)
  generalize (w.alloc (.cells (netC a).toArray 24)) = v0 at H0 ⊢
  go_wp2_with fail
  refine (HS.out _ (HW.out.next H0.out.1)).mono ?_
  rintro e w1 ⟨rfl, hb1⟩
  have H1 := hid (show Bel w w1 ∧ w1.heap[w.heap.size]? = some (.cells (netC a).toArray 24 (0, 0)) from ⟨H0.out.1.trans hb1, hb1.heap (H0.out.2)⟩)
  clear hb1 H0
  go_upto_region 2 with (fail)
  cases hr : rightQ a with
  | false =>
    have he : errS a = 70 := by unfold errS; rw [hr]; rfl
    rw [he] at HV
    clear he hr qa HP HX
    go_wp2_with (first
      | (refine wpList_load_mid rfl 24 (.tmp 2) rfl w.heap.size 0 rfl (netC a) _ ?_ Tryd.underlying24 rfl HZa.out ?_; exact range_net H1.out.2))
    refine (HV.out _ (HW.out.next H1.out.1)).mono ?_
    rintro e w2 ⟨rfl, hb2⟩
    have H2 := hid (show Bel w w2 ∧ w2.heap[w.heap.size]? = some (.cells (netC a).toArray 24 (0, 0)) from ⟨H1.out.1.trans hb2, hb2.heap (H1.out.2)⟩)
    clear hb2 H1
    go_wp2_with fail
    go_ret
    exact ⟨by first | rfl | simp, H2.out.1⟩
  | true =>
    clear HV
    have HVG := (show Hid (∀ W, Lay W → Calls Tryd.prog 9 #[.agg (netC a).toArray] W fun e w' => e = .returned (.tuple #[.string (formB a), .int .i64 0]) ∧ Bel W w') from fun W hW => show_good a HFa.out hr W hW)
    have HPG := (show Hid (∀ W, Lay W → Calls Tryd.prog 12 #[.string (formB a)] W fun e w' => e = .returned (.tuple #[.agg (netC a).toArray, .int .i64 0]) ∧ Bel W w') from fun W hW => parse_good a HFa.out hr W hW)
    clear hr
    go_wp2_with (first
      | (refine wpList_load_mid rfl 24 (.tmp 2) rfl w.heap.size 0 rfl (netC a) _ ?_ Tryd.underlying24 rfl HZa.out ?_; exact range_net H1.out.2))
    refine (HVG.out _ (HW.out.next H1.out.1)).mono ?_
    rintro e w2 ⟨rfl, hb2⟩
    have H2 := hid (show Bel w w2 ∧ w2.heap[w.heap.size]? = some (.cells (netC a).toArray 24 (0, 0)) from ⟨H1.out.1.trans hb2, hb2.heap (H1.out.2)⟩)
    clear hb2 H1
    go_wp2_with fail
    refine (HPG.out _ (HW.out.next H2.out.1)).mono ?_
    rintro e w3 ⟨rfl, hb3⟩
    have H3 := hid (show Bel w w3 ∧ w3.heap[w.heap.size]? = some (.cells (netC a).toArray 24 (0, 0)) from ⟨H2.out.1.trans hb3, hb3.heap (H2.out.2)⟩)
    clear hb3 H2
    have P4 := hid (put_net w3 a HLa.out)
    have H4 := hid (show Bel w ((w3.alloc (.cells #[.bool false, .int .i64 0, .int .u8 0, .int .u8 0, .int .u8 0, .int .u8 0, .int .u8 0, .int .u8 0, .int .u8 0, .int .u8 0, .int .u8 0, .int .u8 0, .int .u8 0, .int .u8 0, .int .u8 0, .int .u8 0, .int .u8 0, .int .u8 0] 24)).setCells w3.heap.size 0 (netC a)) ∧ ((w3.alloc (.cells #[.bool false, .int .i64 0, .int .u8 0, .int .u8 0, .int .u8 0, .int .u8 0, .int .u8 0, .int .u8 0, .int .u8 0, .int .u8 0, .int .u8 0, .int .u8 0, .int .u8 0, .int .u8 0, .int .u8 0, .int .u8 0, .int .u8 0, .int .u8 0] 24)).setCells w3.heap.size 0 (netC a)).heap[w.heap.size]? = some (.cells (netC a).toArray 24 (0, 0)) ∧ ((w3.alloc (.cells #[.bool false, .int .i64 0, .int .u8 0, .int .u8 0, .int .u8 0, .int .u8 0, .int .u8 0, .int .u8 0, .int .u8 0, .int .u8 0, .int .u8 0, .int .u8 0, .int .u8 0, .int .u8 0, .int .u8 0, .int .u8 0, .int .u8 0, .int .u8 0] 24)).setCells w3.heap.size 0 (netC a)).heap[w3.heap.size]? = some (.cells (netC a).toArray 24 (0, 0)) from ⟨H3.out.1.trans P4.out.1, P4.out.1.heap (H3.out.2), P4.out.2⟩)
    go_upto_region 6 with (first
      | (refine wpList_store_mid rfl 24 (.tmp 8) (.tmp 34) rfl w3.heap.size 0 (netC a).toArray rfl rfl ?_ (by rw [List.size_toArray]; exact HZa.out) (netC_one _) ?_; exact there_net w3 a HLa.out))
    generalize ((w3.alloc (.cells #[.bool false, .int .i64 0, .int .u8 0, .int .u8 0, .int .u8 0, .int .u8 0, .int .u8 0, .int .u8 0, .int .u8 0, .int .u8 0, .int .u8 0, .int .u8 0, .int .u8 0, .int .u8 0, .int .u8 0, .int .u8 0, .int .u8 0, .int .u8 0] 24)).setCells w3.heap.size 0 (netC a)) = v4 at H4 ⊢
    clear P4 H3
    cases o with
    | none =>
      clear HX
      go_wp2_with (first
        | (refine wpList_load_wanted 24 (.tmp 8) rfl w3.heap.size 0 rfl (netC a) _ ?_ Tryd.underlying24 rfl HZa.out (by rfl) ?_; exact range_net H4.out.2.2)
        | (refine wpList_load_wanted 24 (.tmp 2) rfl w.heap.size 0 rfl (netC a) _ ?_ Tryd.underlying24 rfl HZa.out (by rfl) ?_; exact range_net H4.out.2.1))
      refine (HP.out _ (HW.out.next H4.out.1)).mono ?_
      rintro e w5 ⟨rfl, hb5⟩
      have H5 := hid (show Bel w w5 ∧ w5.heap[w.heap.size]? = some (.cells (netC a).toArray 24 (0, 0)) ∧ w5.heap[w3.heap.size]? = some (.cells (netC a).toArray 24 (0, 0)) from ⟨H4.out.1.trans hb5, hb5.heap (H4.out.2.1), hb5.heap (H4.out.2.2)⟩)
      clear hb5 H4
      have hz : netV ((none : Option Nt).getD zeroN) = .agg (netC zeroN).toArray := rfl
      rw [hz]
      clear hz
      have P6 := hid (put_net w5 zeroN HLzeroN.out)
      have H6 := hid (show Bel w ((w5.alloc (.cells #[.bool false, .int .i64 0, .int .u8 0, .int .u8 0, .int .u8 0, .int .u8 0, .int .u8 0, .int .u8 0, .int .u8 0, .int .u8 0, .int .u8 0, .int .u8 0, .int .u8 0, .int .u8 0, .int .u8 0, .int .u8 0, .int .u8 0, .int .u8 0] 24)).setCells w5.heap.size 0 (netC zeroN)) ∧ ((w5.alloc (.cells #[.bool false, .int .i64 0, .int .u8 0, .int .u8 0, .int .u8 0, .int .u8 0, .int .u8 0, .int .u8 0, .int .u8 0, .int .u8 0, .int .u8 0, .int .u8 0, .int .u8 0, .int .u8 0, .int .u8 0, .int .u8 0, .int .u8 0, .int .u8 0] 24)).setCells w5.heap.size 0 (netC zeroN)).heap[w.heap.size]? = some (.cells (netC a).toArray 24 (0, 0)) ∧ ((w5.alloc (.cells #[.bool false, .int .i64 0, .int .u8 0, .int .u8 0, .int .u8 0, .int .u8 0, .int .u8 0, .int .u8 0, .int .u8 0, .int .u8 0, .int .u8 0, .int .u8 0, .int .u8 0, .int .u8 0, .int .u8 0, .int .u8 0, .int .u8 0, .int .u8 0] 24)).setCells w5.heap.size 0 (netC zeroN)).heap[w3.heap.size]? = some (.cells (netC a).toArray 24 (0, 0)) ∧ ((w5.alloc (.cells #[.bool false, .int .i64 0, .int .u8 0, .int .u8 0, .int .u8 0, .int .u8 0, .int .u8 0, .int .u8 0, .int .u8 0, .int .u8 0, .int .u8 0, .int .u8 0, .int .u8 0, .int .u8 0, .int .u8 0, .int .u8 0, .int .u8 0, .int .u8 0] 24)).setCells w5.heap.size 0 (netC zeroN)).heap[w5.heap.size]? = some (.cells (netC zeroN).toArray 24 (0, 0)) from ⟨H5.out.1.trans P6.out.1, P6.out.1.heap (H5.out.2.1), P6.out.1.heap (H5.out.2.2), P6.out.2⟩)
      go_upto_region 9 with (first
        | (refine wpList_store_mid rfl 24 (.tmp 10) (.tmp 46) rfl w5.heap.size 0 (netC zeroN).toArray rfl rfl ?_ (by rw [List.size_toArray]; exact HZzeroN.out) (netC_one _) ?_; exact there_net w5 zeroN HLzeroN.out))
      generalize ((w5.alloc (.cells #[.bool false, .int .i64 0, .int .u8 0, .int .u8 0, .int .u8 0, .int .u8 0, .int .u8 0, .int .u8 0, .int .u8 0, .int .u8 0, .int .u8 0, .int .u8 0, .int .u8 0, .int .u8 0, .int .u8 0, .int .u8 0, .int .u8 0, .int .u8 0] 24)).setCells w5.heap.size 0 (netC zeroN)) = v6 at H6 ⊢
      clear P6 H5
      have he : errQ none = 70 := rfl
      rw [he]
      go_wp2_with fail
      go_ret
      exact ⟨by first | rfl | simp, H6.out.1⟩
    | some x =>
      obtain ⟨hfx, hrx⟩ := HX.out x rfl
      have HZx := hid (net_len x hfx.len)
      have HLx := hid hfx.len
      have qx : ∀ W : World, (Op.equalIn 10000 24 (.agg (netC x).toArray) (.agg (netC x).toArray)).run Tryd.prog W = .ok true W := fun W => eq_net x hfx.len W
      have HVX := (show Hid (∀ W, Lay W → Calls Tryd.prog 9 #[.agg (netC x).toArray] W fun e w' => e = .returned (.tuple #[.string (formB x), .int .i64 0]) ∧ Bel W w') from fun W hW => show_good x hfx hrx W hW)
      have HPX := (show Hid (∀ W, Lay W → Calls Tryd.prog 12 #[.string (formB x)] W fun e w' => e = .returned (.tuple #[.agg (netC x).toArray, .int .i64 0]) ∧ Bel W w') from fun W hW => parse_good x hfx hrx W hW)
      clear HX hfx hrx
      go_wp2_with (first
        | (refine wpList_load_wanted 24 (.tmp 8) rfl w3.heap.size 0 rfl (netC a) _ ?_ Tryd.underlying24 rfl HZa.out (by rfl) ?_; exact range_net H4.out.2.2)
        | (refine wpList_load_wanted 24 (.tmp 2) rfl w.heap.size 0 rfl (netC a) _ ?_ Tryd.underlying24 rfl HZa.out (by rfl) ?_; exact range_net H4.out.2.1))
      refine (HP.out _ (HW.out.next H4.out.1)).mono ?_
      rintro e w5 ⟨rfl, hb5⟩
      have H5 := hid (show Bel w w5 ∧ w5.heap[w.heap.size]? = some (.cells (netC a).toArray 24 (0, 0)) ∧ w5.heap[w3.heap.size]? = some (.cells (netC a).toArray 24 (0, 0)) from ⟨H4.out.1.trans hb5, hb5.heap (H4.out.2.1), hb5.heap (H4.out.2.2)⟩)
      clear hb5 H4
      have hz : netV ((some x).getD zeroN) = .agg (netC x).toArray := rfl
      have he : errQ (some x) = 0 := rfl
      rw [hz, he]
      clear hz he qa
      have P6 := hid (put_net w5 x HLx.out)
      have H6 := hid (show Bel w ((w5.alloc (.cells #[.bool false, .int .i64 0, .int .u8 0, .int .u8 0, .int .u8 0, .int .u8 0, .int .u8 0, .int .u8 0, .int .u8 0, .int .u8 0, .int .u8 0, .int .u8 0, .int .u8 0, .int .u8 0, .int .u8 0, .int .u8 0, .int .u8 0, .int .u8 0] 24)).setCells w5.heap.size 0 (netC x)) ∧ ((w5.alloc (.cells #[.bool false, .int .i64 0, .int .u8 0, .int .u8 0, .int .u8 0, .int .u8 0, .int .u8 0, .int .u8 0, .int .u8 0, .int .u8 0, .int .u8 0, .int .u8 0, .int .u8 0, .int .u8 0, .int .u8 0, .int .u8 0, .int .u8 0, .int .u8 0] 24)).setCells w5.heap.size 0 (netC x)).heap[w.heap.size]? = some (.cells (netC a).toArray 24 (0, 0)) ∧ ((w5.alloc (.cells #[.bool false, .int .i64 0, .int .u8 0, .int .u8 0, .int .u8 0, .int .u8 0, .int .u8 0, .int .u8 0, .int .u8 0, .int .u8 0, .int .u8 0, .int .u8 0, .int .u8 0, .int .u8 0, .int .u8 0, .int .u8 0, .int .u8 0, .int .u8 0] 24)).setCells w5.heap.size 0 (netC x)).heap[w3.heap.size]? = some (.cells (netC a).toArray 24 (0, 0)) ∧ ((w5.alloc (.cells #[.bool false, .int .i64 0, .int .u8 0, .int .u8 0, .int .u8 0, .int .u8 0, .int .u8 0, .int .u8 0, .int .u8 0, .int .u8 0, .int .u8 0, .int .u8 0, .int .u8 0, .int .u8 0, .int .u8 0, .int .u8 0, .int .u8 0, .int .u8 0] 24)).setCells w5.heap.size 0 (netC x)).heap[w5.heap.size]? = some (.cells (netC x).toArray 24 (0, 0)) from ⟨H5.out.1.trans P6.out.1, P6.out.1.heap (H5.out.2.1), P6.out.1.heap (H5.out.2.2), P6.out.2⟩)
      go_upto_region 9 with (first
        | (refine wpList_store_mid rfl 24 (.tmp 10) (.tmp 46) rfl w5.heap.size 0 (netC x).toArray rfl rfl ?_ (by rw [List.size_toArray]; exact HZx.out) (netC_one _) ?_; exact there_net w5 x HLx.out))
      generalize ((w5.alloc (.cells #[.bool false, .int .i64 0, .int .u8 0, .int .u8 0, .int .u8 0, .int .u8 0, .int .u8 0, .int .u8 0, .int .u8 0, .int .u8 0, .int .u8 0, .int .u8 0, .int .u8 0, .int .u8 0, .int .u8 0, .int .u8 0, .int .u8 0, .int .u8 0] 24)).setCells w5.heap.size 0 (netC x)) = v6 at H6 ⊢
      clear P6 H5
      go_wp2_with (first
        | (refine wpList_load_mid rfl 24 (.tmp 10) rfl w5.heap.size 0 rfl (netC x) _ ?_ Tryd.underlying24 rfl HZx.out ?_; exact range_net H6.out.2.2.2))
      refine (HVX.out _ (HW.out.next H6.out.1)).mono ?_
      rintro e w7 ⟨rfl, hb7⟩
      have H7 := hid (show Bel w w7 ∧ w7.heap[w.heap.size]? = some (.cells (netC a).toArray 24 (0, 0)) ∧ w7.heap[w3.heap.size]? = some (.cells (netC a).toArray 24 (0, 0)) ∧ w7.heap[w5.heap.size]? = some (.cells (netC x).toArray 24 (0, 0)) from ⟨H6.out.1.trans hb7, hb7.heap (H6.out.2.1), hb7.heap (H6.out.2.2.1), hb7.heap (H6.out.2.2.2)⟩)
      clear hb7 H6
      go_wp2_with fail
      refine (HPX.out _ (HW.out.next H7.out.1)).mono ?_
      rintro e w8 ⟨rfl, hb8⟩
      have H8 := hid (show Bel w w8 ∧ w8.heap[w.heap.size]? = some (.cells (netC a).toArray 24 (0, 0)) ∧ w8.heap[w3.heap.size]? = some (.cells (netC a).toArray 24 (0, 0)) ∧ w8.heap[w5.heap.size]? = some (.cells (netC x).toArray 24 (0, 0)) from ⟨H7.out.1.trans hb8, hb8.heap (H7.out.2.1), hb8.heap (H7.out.2.2.1), hb8.heap (H7.out.2.2.2)⟩)
      clear hb8 H7
      have P9 := hid (put_net w8 x HLx.out)
      have H9 := hid (show Bel w ((w8.alloc (.cells #[.bool false, .int .i64 0, .int .u8 0, .int .u8 0, .int .u8 0, .int .u8 0, .int .u8 0, .int .u8 0, .int .u8 0, .int .u8 0, .int .u8 0, .int .u8 0, .int .u8 0, .int .u8 0, .int .u8 0, .int .u8 0, .int .u8 0, .int .u8 0] 24)).setCells w8.heap.size 0 (netC x)) ∧ ((w8.alloc (.cells #[.bool false, .int .i64 0, .int .u8 0, .int .u8 0, .int .u8 0, .int .u8 0, .int .u8 0, .int .u8 0, .int .u8 0, .int .u8 0, .int .u8 0, .int .u8 0, .int .u8 0, .int .u8 0, .int .u8 0, .int .u8 0, .int .u8 0, .int .u8 0] 24)).setCells w8.heap.size 0 (netC x)).heap[w.heap.size]? = some (.cells (netC a).toArray 24 (0, 0)) ∧ ((w8.alloc (.cells #[.bool false, .int .i64 0, .int .u8 0, .int .u8 0, .int .u8 0, .int .u8 0, .int .u8 0, .int .u8 0, .int .u8 0, .int .u8 0, .int .u8 0, .int .u8 0, .int .u8 0, .int .u8 0, .int .u8 0, .int .u8 0, .int .u8 0, .int .u8 0] 24)).setCells w8.heap.size 0 (netC x)).heap[w3.heap.size]? = some (.cells (netC a).toArray 24 (0, 0)) ∧ ((w8.alloc (.cells #[.bool false, .int .i64 0, .int .u8 0, .int .u8 0, .int .u8 0, .int .u8 0, .int .u8 0, .int .u8 0, .int .u8 0, .int .u8 0, .int .u8 0, .int .u8 0, .int .u8 0, .int .u8 0, .int .u8 0, .int .u8 0, .int .u8 0, .int .u8 0] 24)).setCells w8.heap.size 0 (netC x)).heap[w5.heap.size]? = some (.cells (netC x).toArray 24 (0, 0)) ∧ ((w8.alloc (.cells #[.bool false, .int .i64 0, .int .u8 0, .int .u8 0, .int .u8 0, .int .u8 0, .int .u8 0, .int .u8 0, .int .u8 0, .int .u8 0, .int .u8 0, .int .u8 0, .int .u8 0, .int .u8 0, .int .u8 0, .int .u8 0, .int .u8 0, .int .u8 0] 24)).setCells w8.heap.size 0 (netC x)).heap[w8.heap.size]? = some (.cells (netC x).toArray 24 (0, 0)) from ⟨H8.out.1.trans P9.out.1, P9.out.1.heap (H8.out.2.1), P9.out.1.heap (H8.out.2.2.1), P9.out.1.heap (H8.out.2.2.2), P9.out.2⟩)
      go_upto_region 13 with (first
        | (refine wpList_store_mid rfl 24 (.tmp 14) (.tmp 58) rfl w8.heap.size 0 (netC x).toArray rfl rfl ?_ (by rw [List.size_toArray]; exact HZx.out) (netC_one _) ?_; exact there_net w8 x HLx.out))
      generalize ((w8.alloc (.cells #[.bool false, .int .i64 0, .int .u8 0, .int .u8 0, .int .u8 0, .int .u8 0, .int .u8 0, .int .u8 0, .int .u8 0, .int .u8 0, .int .u8 0, .int .u8 0, .int .u8 0, .int .u8 0, .int .u8 0, .int .u8 0, .int .u8 0, .int .u8 0] 24)).setCells w8.heap.size 0 (netC x)) = v9 at H9 ⊢
      clear P9 H8
      go_wp2_with (first
        | (refine wpList_load_mid rfl 24 (.tmp 14) rfl w8.heap.size 0 rfl (netC x) _ ?_ Tryd.underlying24 rfl HZx.out ?_; exact range_net H9.out.2.2.2.2))
      refine (HVX.out _ (HW.out.next H9.out.1)).mono ?_
      rintro e w10 ⟨rfl, hb10⟩
      have H10 := hid (show Bel w w10 ∧ w10.heap[w.heap.size]? = some (.cells (netC a).toArray 24 (0, 0)) ∧ w10.heap[w3.heap.size]? = some (.cells (netC a).toArray 24 (0, 0)) ∧ w10.heap[w5.heap.size]? = some (.cells (netC x).toArray 24 (0, 0)) ∧ w10.heap[w8.heap.size]? = some (.cells (netC x).toArray 24 (0, 0)) from ⟨H9.out.1.trans hb10, hb10.heap (H9.out.2.1), hb10.heap (H9.out.2.2.1), hb10.heap (H9.out.2.2.2.1), hb10.heap (H9.out.2.2.2.2)⟩)
      clear hb10 H9
      go_wp2_with (first
        | (refine wpList_load_wanted 24 (.tmp 14) rfl w8.heap.size 0 rfl (netC x) _ ?_ Tryd.underlying24 rfl HZx.out (by rfl) ?_; exact range_net H10.out.2.2.2.2)
        | (refine wpList_load_wanted 24 (.tmp 10) rfl w5.heap.size 0 rfl (netC x) _ ?_ Tryd.underlying24 rfl HZx.out (by rfl) ?_; exact range_net H10.out.2.2.2.1))
      go_ret
      exact ⟨by first | rfl | simp, H10.out.1⟩
end Go.Proofs.YtpmmaickjolimaaDoor.Ci
