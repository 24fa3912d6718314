/- The examples at the head of all statements. -/
import Derived.Test.YtpmmaickjolimaaGreatDoorK13
import Derived.Test.YtpmmaickjolimaaGreatDoorK20
import Derived.Lib.Replace
namespace Go.Proofs.YtpmmaickjolimaaGreatDoor.Ci
open Go.RowKit

def nA : Nt := ⟨false, 8, [10, 0, 0, 0, 0, 0, 0, 0, 0, 0, 0, 0, 0, 0, 0, 0]⟩
def nB : Nt := ⟨true, 128, [32, 1, 13, 184, 0, 0, 0, 0, 0, 0, 0, 0, 0, 0, 0, 1]⟩
def nC : Nt := ⟨true, 128, [0, 1, 0, 0, 0, 0, 0, 2, 0, 0, 0, 0, 0, 0, 0, 3]⟩
def nD : Nt := ⟨false, 32, [10, 1, 2, 3, 0, 0, 0, 0, 0, 0, 0, 0, 0, 0, 0, 0]⟩
theorem fits_of (n : Nt) (h : (decide (-9223372036854775808 ≤ n.bits) && decide (n.bits ≤ 9223372036854775807) && decide (n.addr.length = 16) && n.addr.all fun x => decide (x < 256)) = true) : n.Fits := by
  simp only [Bool.and_eq_true, decide_eq_true_eq, List.all_eq_true] at h
  exact ⟨h.1.1.1, h.1.1.2, h.1.2, h.2⟩
theorem nA_fits : nA.Fits := fits_of _ (by decide)
theorem nB_fits : nB.Fits := fits_of _ (by decide)
theorem nC_fits : nC.Fits := fits_of _ (by decide)
theorem nD_fits : nD.Fits := fits_of _ (by decide)
set_option maxRecDepth 100000
theorem pA : parseQ [49, 48, 46, 48, 46, 48, 46, 48, 47, 56] = some nA := by kernel_rfl
theorem pC : parseQ [49, 58, 48, 58, 48, 58, 50, 58, 48, 58, 48, 58, 48, 58, 51] = some nC := by kernel_rfl
theorem pN : parseQ [49, 48, 46, 48, 46, 48, 46, 49, 47, 56] = none := by kernel_rfl
theorem aB : addrQ [50, 48, 48, 49, 58, 68, 66, 56, 58, 58, 48, 58, 49] = some nB := by kernel_rfl
theorem aD : addrQ [49, 48, 46, 49, 46, 50, 46, 51] = some nD := by kernel_rfl
theorem dec_small (n : Nat) (h : n < 10) : Lib.decDigits n = [UInt8.ofNat (48 + n)] := by rw [Lib.decDigits, dif_pos h]
theorem sA : showQ nA = some [49, 48, 46, 48, 46, 48, 46, 48, 47, 56] := by
  have r : rightQ nA = true := by kernel_rfl
  have e : Lib.decDigits 10 = [49, 48] := by rw [Lib.decDigits, dif_neg (by decide), dec_small _ (by decide)]; rfl
  have e0 : Lib.decDigits 0 = [48] := dec_small 0 (by decide)
  have e8 : Lib.decDigits 8 = [56] := dec_small 8 (by decide)
  unfold showQ formQ addrT
  rw [r, if_pos rfl, if_pos (by decide), if_neg (by decide)]
  show some (Lib.join [Lib.decDigits 10, Lib.decDigits 0, Lib.decDigits 0, Lib.decDigits 0] [46] ++ 47 :: Lib.decDigits 8) = _
  rw [e, e0, e8]
  rfl
theorem sB : showQ nB = some [50, 48, 48, 49, 58, 100, 98, 56, 58, 58, 49] := by
  have r : rightQ nB = true := by kernel_rfl
  have e1 : hexL 8193 = [50, 48, 48, 49] := by rw [hexL_big (by decide), hexL_big (by decide), hexL_big (by decide), hexL_small (by decide)]; rfl
  have e2 : hexL 3512 = [100, 98, 56] := by rw [hexL_big (by decide), hexL_big (by decide), hexL_small (by decide)]; rfl
  have e3 : hexL 1 = [49] := hexL_small (by decide)
  unfold showQ formQ addrT
  rw [r, if_pos rfl, if_neg (by decide)]
  show some (formL [8193, 3512, 0, 0, 0, 0, 0, 1]) = _
  unfold formL
  rw [show longest [8193, 3512, 0, 0, 0, 0, 0, 1] 8 = (2, 5) by rfl, if_neg (by decide)]
  show some (Lib.join [hexL 8193, hexL 3512] [58] ++ [58, 58] ++ Lib.join [hexL 1] [58]) = _
  rw [e1, e2, e3]
  rfl
theorem sC : showQ nC = some [49, 58, 48, 58, 48, 58, 50, 58, 58, 51] := by
  have r : rightQ nC = true := by kernel_rfl
  have e0 : hexL 0 = [48] := hexL_small (by decide)
  have e1 : hexL 1 = [49] := hexL_small (by decide)
  have e2 : hexL 2 = [50] := hexL_small (by decide)
  have e3 : hexL 3 = [51] := hexL_small (by decide)
  unfold showQ formQ addrT
  rw [r, if_pos rfl, if_neg (by decide)]
  show some (formL [1, 0, 0, 2, 0, 0, 0, 3]) = _
  unfold formL
  rw [show longest [1, 0, 0, 2, 0, 0, 0, 3] 8 = (4, 3) by rfl, if_neg (by decide)]
  show some (Lib.join [hexL 1, hexL 0, hexL 0, hexL 2] [58] ++ [58, 58] ++ Lib.join [hexL 3] [58]) = _
  rw [e0, e1, e2, e3]
  rfl
theorem wDA : withinQ nD nA = true := by kernel_rfl
theorem wAD : withinQ nA nD = false := by kernel_rfl
theorem eA : errS nA = 0 := by kernel_rfl
theorem eB : errS nB = 0 := by kernel_rfl
theorem eC : errS nC = 0 := by kernel_rfl

/-- A range put into a variable of its own. -/
theorem put_net (w : World) (n : Nt) (h : n.addr.length = 16) : Bel w ((w.alloc (.cells #[.bool false, .int .i64 0, .int .u8 0, .int .u8 0, .int .u8 0, .int .u8 0, .int .u8 0, .int .u8 0, .int .u8 0, .int .u8 0, .int .u8 0, .int .u8 0, .int .u8 0, .int .u8 0, .int .u8 0, .int .u8 0, .int .u8 0, .int .u8 0] 25)).setCells w.heap.size 0 (netC n)) ∧ ((w.alloc (.cells #[.bool false, .int .i64 0, .int .u8 0, .int .u8 0, .int .u8 0, .int .u8 0, .int .u8 0, .int .u8 0, .int .u8 0, .int .u8 0, .int .u8 0, .int .u8 0, .int .u8 0, .int .u8 0, .int .u8 0, .int .u8 0, .int .u8 0, .int .u8 0] 25)).setCells w.heap.size 0 (netC n)).heap[w.heap.size]? = some (.cells (netC n).toArray 25 (0, 0)) :=
  ⟨Bel.setCells (Nat.le_refl _) _ _ _ ((Bel.refl w).alloc _), heap_setCells_whole (cs := #[.bool false, .int .i64 0, .int .u8 0, .int .u8 0, .int .u8 0, .int .u8 0, .int .u8 0, .int .u8 0, .int .u8 0, .int .u8 0, .int .u8 0, .int .u8 0, .int .u8 0, .int .u8 0, .int .u8 0, .int .u8 0, .int .u8 0, .int .u8 0].toList) (heap_alloc_new w _) (by rw [netC_len _ h]; rfl)⟩
theorem there_net (w : World) (n : Nt) (h : n.addr.length = 16) : (w.alloc (.cells #[.bool false, .int .i64 0, .int .u8 0, .int .u8 0, .int .u8 0, .int .u8 0, .int .u8 0, .int .u8 0, .int .u8 0, .int .u8 0, .int .u8 0, .int .u8 0, .int .u8 0, .int .u8 0, .int .u8 0, .int .u8 0, .int .u8 0, .int .u8 0] 25)).there w.heap.size 0 (netC n).toArray.size :=
  there_of (cs := #[.bool false, .int .i64 0, .int .u8 0, .int .u8 0, .int .u8 0, .int .u8 0, .int .u8 0, .int .u8 0, .int .u8 0, .int .u8 0, .int .u8 0, .int .u8 0, .int .u8 0, .int .u8 0, .int .u8 0, .int .u8 0, .int .u8 0, .int .u8 0].toList) (heap_alloc_new w _) (by rw [List.size_toArray, netC_len _ h]; decide)
theorem net_len (n : Nt) (h : n.addr.length = 16) : (Tryz.prog.info? 25).map (·.size) = some (netC n).length := by rw [netC_len _ h]; exact net_info
theorem range_net {w : World} {b : Nat} {n : Nt} (h : w.heap[b]? = some (.cells (netC n).toArray 25 (0, 0))) : w.rangeAt b 0 (netC n) := range_of h fun j v hv => by simpa using hv
theorem cA (w : World) (hw : Lay w) : Calls Tryz.prog 12 #[.string ⟨#[49, 48, 46, 48, 46, 48, 46, 48, 47, 56]⟩] w fun e w' => e = .returned (.tuple #[netV nA, .int .i64 0]) ∧ Bel w w' := by
  have := parse_run ⟨#[49, 48, 46, 48, 46, 48, 46, 48, 47, 56]⟩ w hw (by decide)
  rw [show parseQ (⟨#[49, 48, 46, 48, 46, 48, 46, 48, 47, 56]⟩ : ByteArray).data.toList = some nA from pA] at this
  exact this
theorem cC (w : World) (hw : Lay w) : Calls Tryz.prog 12 #[.string ⟨#[49, 58, 48, 58, 48, 58, 50, 58, 48, 58, 48, 58, 48, 58, 51]⟩] w fun e w' => e = .returned (.tuple #[netV nC, .int .i64 0]) ∧ Bel w w' := by
  have := parse_run ⟨#[49, 58, 48, 58, 48, 58, 50, 58, 48, 58, 48, 58, 48, 58, 51]⟩ w hw (by decide)
  rw [show parseQ (⟨#[49, 58, 48, 58, 48, 58, 50, 58, 48, 58, 48, 58, 48, 58, 51]⟩ : ByteArray).data.toList = some nC from pC] at this
  exact this
theorem cN (w : World) (hw : Lay w) : Calls Tryz.prog 12 #[.string ⟨#[49, 48, 46, 48, 46, 48, 46, 49, 47, 56]⟩] w fun e w' => e = .returned (.tuple #[netV zeroN, .int .i64 70]) ∧ Bel w w' := by
  have := parse_run ⟨#[49, 48, 46, 48, 46, 48, 46, 49, 47, 56]⟩ w hw (by decide)
  rw [show parseQ (⟨#[49, 48, 46, 48, 46, 48, 46, 49, 47, 56]⟩ : ByteArray).data.toList = none from pN] at this
  exact this
theorem cB (w : World) (hw : Lay w) : Calls Tryz.prog 10 #[.string ⟨#[50, 48, 48, 49, 58, 68, 66, 56, 58, 58, 48, 58, 49]⟩] w fun e w' => e = .returned (.tuple #[netV nB, .int .i64 0]) ∧ Bel w w' := by
  have := addr_run ⟨#[50, 48, 48, 49, 58, 68, 66, 56, 58, 58, 48, 58, 49]⟩ w hw (by decide)
  rw [show addrQ (⟨#[50, 48, 48, 49, 58, 68, 66, 56, 58, 58, 48, 58, 49]⟩ : ByteArray).data.toList = some nB from aB] at this
  exact this
theorem cD (w : World) (hw : Lay w) : Calls Tryz.prog 10 #[.string ⟨#[49, 48, 46, 49, 46, 50, 46, 51]⟩] w fun e w' => e = .returned (.tuple #[netV nD, .int .i64 0]) ∧ Bel w w' := by
  have := addr_run ⟨#[49, 48, 46, 49, 46, 50, 46, 51]⟩ w hw (by decide)
  rw [show addrQ (⟨#[49, 48, 46, 49, 46, 50, 46, 51]⟩ : ByteArray).data.toList = some nD from aD] at this
  exact this
theorem tA (w : World) (hw : Lay w) : Calls Tryz.prog 28 #[.agg (netC nA).toArray] w fun e w' => e = .returned (.tuple #[.string ⟨#[49, 48, 46, 48, 46, 48, 46, 48, 47, 56]⟩, .int .i64 0]) ∧ Bel w w' := by
  have := show_run nA nA_fits w hw
  rw [sA, eA] at this
  exact this
theorem tB (w : World) (hw : Lay w) : Calls Tryz.prog 28 #[.agg (netC nB).toArray] w fun e w' => e = .returned (.tuple #[.string ⟨#[50, 48, 48, 49, 58, 100, 98, 56, 58, 58, 49]⟩, .int .i64 0]) ∧ Bel w w' := by
  have := show_run nB nB_fits w hw
  rw [sB, eB] at this
  exact this
theorem tC (w : World) (hw : Lay w) : Calls Tryz.prog 28 #[.agg (netC nC).toArray] w fun e w' => e = .returned (.tuple #[.string ⟨#[49, 58, 48, 58, 48, 58, 50, 58, 58, 51]⟩, .int .i64 0]) ∧ Bel w w' := by
  have := show_run nC nC_fits w hw
  rw [sC, eC] at this
  exact this

theorem cDA (w : World) : Calls Tryz.prog 29 #[.agg (netC nD).toArray, .agg (netC nA).toArray] w fun e w' => e = .returned (.bool true) ∧ Bel w w' := by
  have := within_run nD nA nD_fits nA_fits w
  rw [wDA] at this
  exact this
theorem cAD (w : World) : Calls Tryz.prog 29 #[.agg (netC nA).toArray, .agg (netC nD).toArray] w fun e w' => e = .returned (.bool false) ∧ Bel w w' := by
  have := within_run nA nD nA_fits nD_fits w
  rw [wAD] at this
  exact this

set_option maxHeartbeats 4000000 in
theorem shown_run (w : World) (hw : Lay w) : Calls Tryz.prog 9 #[] w fun e w' => e = .returned (.bool true) ∧ Bel w w' := by
  have HW := hid hw
  clear hw
  have z : netV zeroN = .agg (netC zeroN).toArray := rfl
  go_enter Tryz.func9, Tryz.ntmps9
  go_wp2_with fail
  refine (cA _ (HW.out.next (Bel.refl w))).mono ?_
  rintro e w1 ⟨rfl, hb1⟩
  have P1 := hid (put_net w1 nA nA_fits.len)
  have H1 := hid (show Bel w ((w1.alloc (.cells #[.bool false, .int .i64 0, .int .u8 0, .int .u8 0, .int .u8 0, .int .u8 0, .int .u8 0, .int .u8 0, .int .u8 0, .int .u8 0, .int .u8 0, .int .u8 0, .int .u8 0, .int .u8 0, .int .u8 0, .int .u8 0, .int .u8 0, .int .u8 0] 25)).setCells w1.heap.size 0 (netC nA)) ∧ ((w1.alloc (.cells #[.bool false, .int .i64 0, .int .u8 0, .int .u8 0, .int .u8 0, .int .u8 0, .int .u8 0, .int .u8 0, .int .u8 0, .int .u8 0, .int .u8 0, .int .u8 0, .int .u8 0, .int .u8 0, .int .u8 0, .int .u8 0, .int .u8 0, .int .u8 0] 25)).setCells w1.heap.size 0 (netC nA)).heap[w1.heap.size]? = some (.cells (netC nA).toArray 25 (0, 0)) from ⟨(Bel.refl w).trans (hb1.trans P1.out.1), P1.out.2⟩)
  unfold netV
  go_upto_region 2 with (first
    | (refine wpList_store_mid rfl 25 (.tmp 1) (.tmp 21) rfl w1.heap.size 0 (netC nA).toArray rfl rfl ?_ (by rw [List.size_toArray]; exact net_len _ nA_fits.len) (netC_one _) ?_; exact there_net w1 nA nA_fits.len))
  generalize ((w1.alloc (.cells #[.bool false, .int .i64 0, .int .u8 0, .int .u8 0, .int .u8 0, .int .u8 0, .int .u8 0, .int .u8 0, .int .u8 0, .int .u8 0, .int .u8 0, .int .u8 0, .int .u8 0, .int .u8 0, .int .u8 0, .int .u8 0, .int .u8 0, .int .u8 0] 25)).setCells w1.heap.size 0 (netC nA)) = v1 at H1 ⊢
  clear hb1 P1
  go_wp2_with (first
    | (refine wpList_load_mid rfl 25 (.tmp 1) rfl w1.heap.size 0 rfl (netC nA) _ ?_ Tryz.underlying25 rfl (net_len _ nA_fits.len) ?_; exact range_net H1.out.2))
  refine (tA _ (HW.out.next H1.out.1)).mono ?_
  rintro e w2 ⟨rfl, hb2⟩
  have H2 := hid (show Bel w w2 ∧ w2.heap[w1.heap.size]? = some (.cells (netC nA).toArray 25 (0, 0)) from ⟨H1.out.1.trans hb2, hb2.heap (H1.out.2)⟩)
  clear hb2 H1
  go_upto_region 3 with (fail)
  go_wp2_with fail
  refine (cB _ (HW.out.next H2.out.1)).mono ?_
  rintro e w3 ⟨rfl, hb3⟩
  have P3 := hid (put_net w3 nB nB_fits.len)
  have H3 := hid (show Bel w ((w3.alloc (.cells #[.bool false, .int .i64 0, .int .u8 0, .int .u8 0, .int .u8 0, .int .u8 0, .int .u8 0, .int .u8 0, .int .u8 0, .int .u8 0, .int .u8 0, .int .u8 0, .int .u8 0, .int .u8 0, .int .u8 0, .int .u8 0, .int .u8 0, .int .u8 0] 25)).setCells w3.heap.size 0 (netC nB)) ∧ ((w3.alloc (.cells #[.bool false, .int .i64 0, .int .u8 0, .int .u8 0, .int .u8 0, .int .u8 0, .int .u8 0, .int .u8 0, .int .u8 0, .int .u8 0, .int .u8 0, .int .u8 0, .int .u8 0, .int .u8 0, .int .u8 0, .int .u8 0, .int .u8 0, .int .u8 0] 25)).setCells w3.heap.size 0 (netC nB)).heap[w1.heap.size]? = some (.cells (netC nA).toArray 25 (0, 0)) ∧ ((w3.alloc (.cells #[.bool false, .int .i64 0, .int .u8 0, .int .u8 0, .int .u8 0, .int .u8 0, .int .u8 0, .int .u8 0, .int .u8 0, .int .u8 0, .int .u8 0, .int .u8 0, .int .u8 0, .int .u8 0, .int .u8 0, .int .u8 0, .int .u8 0, .int .u8 0] 25)).setCells w3.heap.size 0 (netC nB)).heap[w3.heap.size]? = some (.cells (netC nB).toArray 25 (0, 0)) from ⟨H2.out.1.trans (hb3.trans P3.out.1), P3.out.1.heap (hb3.heap (H2.out.2)), P3.out.2⟩)
  unfold netV
  go_upto_region 4 with (first
    | (refine wpList_store_mid rfl 25 (.tmp 5) (.tmp 30) rfl w3.heap.size 0 (netC nB).toArray rfl rfl ?_ (by rw [List.size_toArray]; exact net_len _ nB_fits.len) (netC_one _) ?_; exact there_net w3 nB nB_fits.len))
  generalize ((w3.alloc (.cells #[.bool false, .int .i64 0, .int .u8 0, .int .u8 0, .int .u8 0, .int .u8 0, .int .u8 0, .int .u8 0, .int .u8 0, .int .u8 0, .int .u8 0, .int .u8 0, .int .u8 0, .int .u8 0, .int .u8 0, .int .u8 0, .int .u8 0, .int .u8 0] 25)).setCells w3.heap.size 0 (netC nB)) = v3 at H3 ⊢
  clear hb3 P3 H2
  go_wp2_with (first
    | (refine wpList_load_mid rfl 25 (.tmp 5) rfl w3.heap.size 0 rfl (netC nB) _ ?_ Tryz.underlying25 rfl (net_len _ nB_fits.len) ?_; exact range_net H3.out.2.2))
  refine (tB _ (HW.out.next H3.out.1)).mono ?_
  rintro e w4 ⟨rfl, hb4⟩
  have H4 := hid (show Bel w w4 ∧ w4.heap[w1.heap.size]? = some (.cells (netC nA).toArray 25 (0, 0)) ∧ w4.heap[w3.heap.size]? = some (.cells (netC nB).toArray 25 (0, 0)) from ⟨H3.out.1.trans hb4, hb4.heap (H3.out.2.1), hb4.heap (H3.out.2.2)⟩)
  clear hb4 H3
  go_upto_region 5 with (fail)
  go_wp2_with fail
  refine (cC _ (HW.out.next H4.out.1)).mono ?_
  rintro e w5 ⟨rfl, hb5⟩
  have P5 := hid (put_net w5 nC nC_fits.len)
  have H5 := hid (show Bel w ((w5.alloc (.cells #[.bool false, .int .i64 0, .int .u8 0, .int .u8 0, .int .u8 0, .int .u8 0, .int .u8 0, .int .u8 0, .int .u8 0, .int .u8 0, .int .u8 0, .int .u8 0, .int .u8 0, .int .u8 0, .int .u8 0, .int .u8 0, .int .u8 0, .int .u8 0] 25)).setCells w5.heap.size 0 (netC nC)) ∧ ((w5.alloc (.cells #[.bool false, .int .i64 0, .int .u8 0, .int .u8 0, .int .u8 0, .int .u8 0, .int .u8 0, .int .u8 0, .int .u8 0, .int .u8 0, .int .u8 0, .int .u8 0, .int .u8 0, .int .u8 0, .int .u8 0, .int .u8 0, .int .u8 0, .int .u8 0] 25)).setCells w5.heap.size 0 (netC nC)).heap[w1.heap.size]? = some (.cells (netC nA).toArray 25 (0, 0)) ∧ ((w5.alloc (.cells #[.bool false, .int .i64 0, .int .u8 0, .int .u8 0, .int .u8 0, .int .u8 0, .int .u8 0, .int .u8 0, .int .u8 0, .int .u8 0, .int .u8 0, .int .u8 0, .int .u8 0, .int .u8 0, .int .u8 0, .int .u8 0, .int .u8 0, .int .u8 0] 25)).setCells w5.heap.size 0 (netC nC)).heap[w3.heap.size]? = some (.cells (netC nB).toArray 25 (0, 0)) ∧ ((w5.alloc (.cells #[.bool false, .int .i64 0, .int .u8 0, .int .u8 0, .int .u8 0, .int .u8 0, .int .u8 0, .int .u8 0, .int .u8 0, .int .u8 0, .int .u8 0, .int .u8 0, .int .u8 0, .int .u8 0, .int .u8 0, .int .u8 0, .int .u8 0, .int .u8 0] 25)).setCells w5.heap.size 0 (netC nC)).heap[w5.heap.size]? = some (.cells (netC nC).toArray 25 (0, 0)) from ⟨H4.out.1.trans (hb5.trans P5.out.1), P5.out.1.heap (hb5.heap (H4.out.2.1)), P5.out.1.heap (hb5.heap (H4.out.2.2)), P5.out.2⟩)
  unfold netV
  go_upto_region 6 with (first
    | (refine wpList_store_mid rfl 25 (.tmp 9) (.tmp 39) rfl w5.heap.size 0 (netC nC).toArray rfl rfl ?_ (by rw [List.size_toArray]; exact net_len _ nC_fits.len) (netC_one _) ?_; exact there_net w5 nC nC_fits.len))
  generalize ((w5.alloc (.cells #[.bool false, .int .i64 0, .int .u8 0, .int .u8 0, .int .u8 0, .int .u8 0, .int .u8 0, .int .u8 0, .int .u8 0, .int .u8 0, .int .u8 0, .int .u8 0, .int .u8 0, .int .u8 0, .int .u8 0, .int .u8 0, .int .u8 0, .int .u8 0] 25)).setCells w5.heap.size 0 (netC nC)) = v5 at H5 ⊢
  clear hb5 P5 H4
  go_wp2_with (first
    | (refine wpList_load_mid rfl 25 (.tmp 9) rfl w5.heap.size 0 rfl (netC nC) _ ?_ Tryz.underlying25 rfl (net_len _ nC_fits.len) ?_; exact range_net H5.out.2.2.2))
  refine (tC _ (HW.out.next H5.out.1)).mono ?_
  rintro e w6 ⟨rfl, hb6⟩
  have H6 := hid (show Bel w w6 ∧ w6.heap[w1.heap.size]? = some (.cells (netC nA).toArray 25 (0, 0)) ∧ w6.heap[w3.heap.size]? = some (.cells (netC nB).toArray 25 (0, 0)) ∧ w6.heap[w5.heap.size]? = some (.cells (netC nC).toArray 25 (0, 0)) from ⟨H5.out.1.trans hb6, hb6.heap (H5.out.2.1), hb6.heap (H5.out.2.2.1), hb6.heap (H5.out.2.2.2)⟩)
  clear hb6 H5
  go_upto_region 7 with (fail)
  go_wp2_with fail
  refine (cN _ (HW.out.next H6.out.1)).mono ?_
  rintro e w7 ⟨rfl, hb7⟩
  have P7 := hid (put_net w7 zeroN zeroN_fits.len)
  have H7 := hid (show Bel w ((w7.alloc (.cells #[.bool false, .int .i64 0, .int .u8 0, .int .u8 0, .int .u8 0, .int .u8 0, .int .u8 0, .int .u8 0, .int .u8 0, .int .u8 0, .int .u8 0, .int .u8 0, .int .u8 0, .int .u8 0, .int .u8 0, .int .u8 0, .int .u8 0, .int .u8 0] 25)).setCells w7.heap.size 0 (netC zeroN)) ∧ ((w7.alloc (.cells #[.bool false, .int .i64 0, .int .u8 0, .int .u8 0, .int .u8 0, .int .u8 0, .int .u8 0, .int .u8 0, .int .u8 0, .int .u8 0, .int .u8 0, .int .u8 0, .int .u8 0, .int .u8 0, .int .u8 0, .int .u8 0, .int .u8 0, .int .u8 0] 25)).setCells w7.heap.size 0 (netC zeroN)).heap[w1.heap.size]? = some (.cells (netC nA).toArray 25 (0, 0)) ∧ ((w7.alloc (.cells #[.bool false, .int .i64 0, .int .u8 0, .int .u8 0, .int .u8 0, .int .u8 0, .int .u8 0, .int .u8 0, .int .u8 0, .int .u8 0, .int .u8 0, .int .u8 0, .int .u8 0, .int .u8 0, .int .u8 0, .int .u8 0, .int .u8 0, .int .u8 0] 25)).setCells w7.heap.size 0 (netC zeroN)).heap[w3.heap.size]? = some (.cells (netC nB).toArray 25 (0, 0)) ∧ ((w7.alloc (.cells #[.bool false, .int .i64 0, .int .u8 0, .int .u8 0, .int .u8 0, .int .u8 0, .int .u8 0, .int .u8 0, .int .u8 0, .int .u8 0, .int .u8 0, .int .u8 0, .int .u8 0, .int .u8 0, .int .u8 0, .int .u8 0, .int .u8 0, .int .u8 0] 25)).setCells w7.heap.size 0 (netC zeroN)).heap[w5.heap.size]? = some (.cells (netC nC).toArray 25 (0, 0)) ∧ ((w7.alloc (.cells #[.bool false, .int .i64 0, .int .u8 0, .int .u8 0, .int .u8 0, .int .u8 0, .int .u8 0, .int .u8 0, .int .u8 0, .int .u8 0, .int .u8 0, .int .u8 0, .int .u8 0, .int .u8 0, .int .u8 0, .int .u8 0, .int .u8 0, .int .u8 0] 25)).setCells w7.heap.size 0 (netC zeroN)).heap[w7.heap.size]? = some (.cells (netC zeroN).toArray 25 (0, 0)) from ⟨H6.out.1.trans (hb7.trans P7.out.1), P7.out.1.heap (hb7.heap (H6.out.2.1)), P7.out.1.heap (hb7.heap (H6.out.2.2.1)), P7.out.1.heap (hb7.heap (H6.out.2.2.2)), P7.out.2⟩)
  unfold netV
  go_upto_region 8 with (first
    | (refine wpList_store_mid rfl 25 (.tmp 13) (.tmp 48) rfl w7.heap.size 0 (netC zeroN).toArray rfl rfl ?_ (by rw [List.size_toArray]; exact net_len _ zeroN_fits.len) (netC_one _) ?_; exact there_net w7 zeroN zeroN_fits.len))
  generalize ((w7.alloc (.cells #[.bool false, .int .i64 0, .int .u8 0, .int .u8 0, .int .u8 0, .int .u8 0, .int .u8 0, .int .u8 0, .int .u8 0, .int .u8 0, .int .u8 0, .int .u8 0, .int .u8 0, .int .u8 0, .int .u8 0, .int .u8 0, .int .u8 0, .int .u8 0] 25)).setCells w7.heap.size 0 (netC zeroN)) = v7 at H7 ⊢
  clear hb7 P7 H6
  go_wp2_with fail
  refine (cD _ (HW.out.next H7.out.1)).mono ?_
  rintro e w8 ⟨rfl, hb8⟩
  have P8 := hid (put_net w8 nD nD_fits.len)
  have H8 := hid (show Bel w ((w8.alloc (.cells #[.bool false, .int .i64 0, .int .u8 0, .int .u8 0, .int .u8 0, .int .u8 0, .int .u8 0, .int .u8 0, .int .u8 0, .int .u8 0, .int .u8 0, .int .u8 0, .int .u8 0, .int .u8 0, .int .u8 0, .int .u8 0, .int .u8 0, .int .u8 0] 25)).setCells w8.heap.size 0 (netC nD)) ∧ ((w8.alloc (.cells #[.bool false, .int .i64 0, .int .u8 0, .int .u8 0, .int .u8 0, .int .u8 0, .int .u8 0, .int .u8 0, .int .u8 0, .int .u8 0, .int .u8 0, .int .u8 0, .int .u8 0, .int .u8 0, .int .u8 0, .int .u8 0, .int .u8 0, .int .u8 0] 25)).setCells w8.heap.size 0 (netC nD)).heap[w1.heap.size]? = some (.cells (netC nA).toArray 25 (0, 0)) ∧ ((w8.alloc (.cells #[.bool false, .int .i64 0, .int .u8 0, .int .u8 0, .int .u8 0, .int .u8 0, .int .u8 0, .int .u8 0, .int .u8 0, .int .u8 0, .int .u8 0, .int .u8 0, .int .u8 0, .int .u8 0, .int .u8 0, .int .u8 0, .int .u8 0, .int .u8 0] 25)).setCells w8.heap.size 0 (netC nD)).heap[w3.heap.size]? = some (.cells (netC nB).toArray 25 (0, 0)) ∧ ((w8.alloc (.cells #[.bool false, .int .i64 0, .int .u8 0, .int .u8 0, .int .u8 0, .int .u8 0, .int .u8 0, .int .u8 0, .int .u8 0, .int .u8 0, .int .u8 0, .int .u8 0, .int .u8 0, .int .u8 0, .int .u8 0, .int .u8 0, .int .u8 0, .int .u8 0] 25)).setCells w8.heap.size 0 (netC nD)).heap[w5.heap.size]? = some (.cells (netC nC).toArray 25 (0, 0)) ∧ ((w8.alloc (.cells #[.bool false, .int .i64 0, .int .u8 0, .int .u8 0, .int .u8 0, .int .u8 0, .int .u8 0, .int .u8 0, .int .u8 0, .int .u8 0, .int .u8 0, .int .u8 0, .int .u8 0, .int .u8 0, .int .u8 0, .int .u8 0, .int .u8 0, .int .u8 0] 25)).setCells w8.heap.size 0 (netC nD)).heap[w7.heap.size]? = some (.cells (netC zeroN).toArray 25 (0, 0)) ∧ ((w8.alloc (.cells #[.bool false, .int .i64 0, .int .u8 0, .int .u8 0, .int .u8 0, .int .u8 0, .int .u8 0, .int .u8 0, .int .u8 0, .int .u8 0, .int .u8 0, .int .u8 0, .int .u8 0, .int .u8 0, .int .u8 0, .int .u8 0, .int .u8 0, .int .u8 0] 25)).setCells w8.heap.size 0 (netC nD)).heap[w8.heap.size]? = some (.cells (netC nD).toArray 25 (0, 0)) from ⟨H7.out.1.trans (hb8.trans P8.out.1), P8.out.1.heap (hb8.heap (H7.out.2.1)), P8.out.1.heap (hb8.heap (H7.out.2.2.1)), P8.out.1.heap (hb8.heap (H7.out.2.2.2.1)), P8.out.1.heap (hb8.heap (H7.out.2.2.2.2)), P8.out.2⟩)
  unfold netV
  go_upto_region 9 with (first
    | (refine wpList_store_mid rfl 25 (.tmp 15) (.tmp 52) rfl w8.heap.size 0 (netC nD).toArray rfl rfl ?_ (by rw [List.size_toArray]; exact net_len _ nD_fits.len) (netC_one _) ?_; exact there_net w8 nD nD_fits.len))
  generalize ((w8.alloc (.cells #[.bool false, .int .i64 0, .int .u8 0, .int .u8 0, .int .u8 0, .int .u8 0, .int .u8 0, .int .u8 0, .int .u8 0, .int .u8 0, .int .u8 0, .int .u8 0, .int .u8 0, .int .u8 0, .int .u8 0, .int .u8 0, .int .u8 0, .int .u8 0] 25)).setCells w8.heap.size 0 (netC nD)) = v8 at H8 ⊢
  clear hb8 P8 H7
  go_wp2_with (first
    | (refine wpList_load_mid rfl 25 (.tmp 15) rfl w8.heap.size 0 rfl (netC nD) _ ?_ Tryz.underlying25 rfl (net_len _ nD_fits.len) ?_; exact range_net H8.out.2.2.2.2.2)
    | (refine wpList_load_mid rfl 25 (.tmp 1) rfl w1.heap.size 0 rfl (netC nA) _ ?_ Tryz.underlying25 rfl (net_len _ nA_fits.len) ?_; exact range_net H8.out.2.1))
  refine (cDA _).mono ?_
  rintro e w9 ⟨rfl, hb9⟩
  have H9 := hid (show Bel w w9 ∧ w9.heap[w1.heap.size]? = some (.cells (netC nA).toArray 25 (0, 0)) ∧ w9.heap[w3.heap.size]? = some (.cells (netC nB).toArray 25 (0, 0)) ∧ w9.heap[w5.heap.size]? = some (.cells (netC nC).toArray 25 (0, 0)) ∧ w9.heap[w7.heap.size]? = some (.cells (netC zeroN).toArray 25 (0, 0)) ∧ w9.heap[w8.heap.size]? = some (.cells (netC nD).toArray 25 (0, 0)) from ⟨H8.out.1.trans hb9, hb9.heap (H8.out.2.1), hb9.heap (H8.out.2.2.1), hb9.heap (H8.out.2.2.2.1), hb9.heap (H8.out.2.2.2.2.1), hb9.heap (H8.out.2.2.2.2.2)⟩)
  clear hb9 H8
  go_upto_region 10 with (fail)
  go_wp2_with (first
    | (refine wpList_load_mid rfl 25 (.tmp 1) rfl w1.heap.size 0 rfl (netC nA) _ ?_ Tryz.underlying25 rfl (net_len _ nA_fits.len) ?_; exact range_net H9.out.2.1)
    | (refine wpList_load_mid rfl 25 (.tmp 15) rfl w8.heap.size 0 rfl (netC nD) _ ?_ Tryz.underlying25 rfl (net_len _ nD_fits.len) ?_; exact range_net H9.out.2.2.2.2.2))
  refine (cAD _).mono ?_
  rintro e w10 ⟨rfl, hb10⟩
  have H10 := hid (show Bel w w10 ∧ w10.heap[w1.heap.size]? = some (.cells (netC nA).toArray 25 (0, 0)) ∧ w10.heap[w3.heap.size]? = some (.cells (netC nB).toArray 25 (0, 0)) ∧ w10.heap[w5.heap.size]? = some (.cells (netC nC).toArray 25 (0, 0)) ∧ w10.heap[w7.heap.size]? = some (.cells (netC zeroN).toArray 25 (0, 0)) ∧ w10.heap[w8.heap.size]? = some (.cells (netC nD).toArray 25 (0, 0)) from ⟨H9.out.1.trans hb10, hb10.heap (H9.out.2.1), hb10.heap (H9.out.2.2.1), hb10.heap (H9.out.2.2.2.1), hb10.heap (H9.out.2.2.2.2.1), hb10.heap (H9.out.2.2.2.2.2)⟩)
  clear hb10 H9
  go_wp2_with fail
  go_ret
  exact ⟨rfl, H10.out.1⟩
end Go.Proofs.YtpmmaickjolimaaGreatDoor.Ci

/- Walks of path: form, shown. -/
namespace Go.Proofs.YtpmmaickjolimaaGreatDoor.Ma
open Go.RowKit
open Ci (Bel Lay ext_bytes app_data Nt netC netV zeroN zeroN_fits addrQ errQ netC_one put_net there_net net_len range_net)

theorem repl_one (c : UInt8) (r : List UInt8) : ∀ (k : Nat) (l : List UInt8), l.count c = k → Lib.replaceK [c] r k l = l.flatMap fun b => if b = c then r else [b]
  | 0, l, h => by
    have hn : c ∉ l := List.count_eq_zero.1 h
    show l = _
    have : ∀ l : List UInt8, c ∉ l → l = l.flatMap fun b => if b = c then r else [b] := by
      intro l
      induction l with
      | nil => intro _; rfl
      | cons b l ih =>
        intro hn
        rw [List.flatMap_cons, if_neg (fun e => hn (by rw [e]; exact List.mem_cons_self ..)), ← ih fun e => hn (List.mem_cons_of_mem _ e)]
        rfl
    exact this l hn
  | k + 1, l, h => by
    rcases Ci.split_at c l with hn | ⟨p, q, rfl, hp⟩
    · rw [List.count_eq_zero.2 hn] at h; cases h
    · have hc : (p ++ c :: q).count c = q.count c + 1 := by
        rw [List.count_append, List.count_cons_self, List.count_eq_zero.2 hp, Nat.zero_add]
      have hq : q.count c = k := by omega
      rw [Lib.replaceK_hit [c] r k _ p.length (Ci.index_one_some c p q hp), List.take_left]
      have e : (p ++ c :: q).drop (p.length + [c].length) = q := by simp
      rw [e, repl_one c r k q hq, List.flatMap_append, List.flatMap_cons, if_pos rfl]
      have : p = p.flatMap fun b => if b = c then r else [b] := by
        have key : ∀ l : List UInt8, c ∉ l → l = l.flatMap fun b => if b = c then r else [b] := by
          intro l
          induction l with
          | nil => intro _; rfl
          | cons b l ih =>
            intro hn
            rw [List.flatMap_cons, if_neg (fun e => hn (by rw [e]; exact List.mem_cons_self ..)), ← ih fun e => hn (List.mem_cons_of_mem _ e)]
            rfl
        exact key p hp
      rw [← this]
      simp
def escK (l : List UInt8) : List UInt8 := l.flatMap fun b => if b = 92 then [92, 92] else [b]
def escQ (l : List UInt8) : List UInt8 := l.flatMap fun b => if b = 34 then [92, 34] else [b]
theorem esc_two : ∀ l : List UInt8, escQ (escK l) = l.flatMap esc
  | [] => rfl
  | b :: l => by
    have ih := esc_two l
    unfold escQ escK at ih ⊢
    rw [List.flatMap_cons, List.flatMap_append, ih, List.flatMap_cons]
    congr 1
    unfold esc
    by_cases h1 : b = 92
    · subst h1; decide
    · by_cases h2 : b = 34
      · subst h2; decide
      · rw [if_neg h1, if_neg (fun e => e.elim h2 h1)]
        simp [h2]
theorem repl_len (c : UInt8) (r : List UInt8) (hr : r.length ≤ 2) : ∀ l : List UInt8, (l.flatMap fun b => if b = c then r else [b]).length ≤ 2 * l.length
  | [] => by simp
  | b :: l => by
    have ih := repl_len c r hr l
    rw [List.flatMap_cons, List.length_append, List.length_cons]
    by_cases h : b = c
    · rw [if_pos h]; omega
    · rw [if_neg h, List.length_singleton]; omega
theorem esc_len (l : List UInt8) : (escK l).length ≤ 2 * l.length ∧ (escQ (escK l)).length ≤ 4 * l.length := by
  have h1 := repl_len 92 [92, 92] (Nat.le_refl _) l
  have h2 := repl_len 34 [92, 34] (Nat.le_refl _) (escK l)
  exact ⟨h1, Nat.le_trans h2 (by show 2 * (escK l).length ≤ _; have : (escK l).length ≤ 2 * l.length := h1; omega)⟩
theorem form_len (l : List UInt8) : (formP l).length ≤ 4 * l.length + 2 := by
  unfold formP
  split
  · omega
  · have := (esc_len l).2
    rw [esc_two] at this
    rw [List.length_cons, List.length_append, List.length_singleton]
    omega
theorem countB_le (s : ByteArray) (c : UInt8) : Lib.countB s ⟨#[c]⟩ ≤ s.size := by
  have h := Ci.pieces_data s c
  have h1 := congrArg List.length h
  rw [List.length_map, Ci.splitL_len] at h1
  have h2 := List.count_le_length (a := c) (l := s.data.toList)
  rw [← Lib.size_eq] at h2
  have h3 : (Ci.pieces s ⟨#[c]⟩).length = Lib.countB s ⟨#[c]⟩ + 1 := Lib.splitB_all ⟨#[c]⟩ (Nat.le_refl 1) 0 _ s rfl
  omega
theorem repl_all (s : List UInt8) (c : UInt8) (r : List UInt8) (hr : r ≠ [c]) (hc : Lib.count s [c] = s.count c) : Lib.replaceAll s [c] r = s.flatMap fun b => if b = c then r else [b] := by
  unfold Lib.replaceAll Lib.replace Lib.replaceNum
  rw [if_neg (by rw [beq_iff_eq]; exact fun e => hr e.symm), if_pos (.inl (by decide)), hc]
  exact repl_one c r _ s rfl
theorem replace_run (s : ByteArray) (c : UInt8) (r : List UInt8) (hr : r ≠ [c]) (h2 : r.length ≤ 2) (w : World) (hw : Lay w) (hs : s.size ≤ 16777216) :
    Calls Tryz.prog 145 #[.string s, .string ⟨#[c]⟩, .string ⟨r.toArray⟩] w fun e w' => e = .returned (.string ⟨(s.data.toList.flatMap fun b => if b = c then r else [b]).toArray⟩) ∧ Bel w w' := by
  obtain ⟨m, hm⟩ := hw.most
  have hcb := countB_le s c
  have hrs : (⟨r.toArray⟩ : ByteArray).size = r.length := by rw [Lib.size_eq]
  have hb : Lib.countB s ⟨#[c]⟩ * (⟨r.toArray⟩ : ByteArray).size ≤ 33554432 := by
    rw [hrs]
    have := Nat.mul_le_mul hcb h2
    omega
  have hc : Lib.count s.data.toList [c] = s.data.toList.count c := by
    have h := congrArg List.length (Ci.pieces_data s c)
    rw [List.length_map, Ci.splitL_len] at h
    have h3 : (Ci.pieces s ⟨#[c]⟩).length = Lib.countB s ⟨#[c]⟩ + 1 := Lib.splitB_all ⟨#[c]⟩ (Nat.le_refl 1) 0 _ s rfl
    have h4 : Lib.countB s ⟨#[c]⟩ = Lib.count s.data.toList [c] := rfl
    omega
  have := Tryz.strings_ReplaceAll s ⟨#[c]⟩ ⟨r.toArray⟩ m w (by omega) hm (Nat.le_refl 1) (by omega)
  rw [show (⟨#[c]⟩ : ByteArray).data.toList = [c] from rfl, show (⟨r.toArray⟩ : ByteArray).data.toList = r by simp, repl_all _ _ _ hr hc] at this
  exact this
end Go.Proofs.YtpmmaickjolimaaGreatDoor.Ma
