/- Walk: mailbox of path, at a bare local part. -/
import Derived.Test.YtpmmaickjolimaaGreatDoorJ12
import Derived.Test.YtpmmaickjolimaaGreatDoorJ15
import Derived.Test.YtpmmaickjolimaaGreatDoorJ11
namespace Go.Proofs.YtpmmaickjolimaaGreatDoor.Ma
open Go.RowKit
open Ci (Bel Lay)

set_option maxHeartbeats 8000000 in
set_option maxRecDepth 100000 in
theorem mail_d (s : ByteArray) (w : World) (hw : Lay w) (hs : s.size ≤ 4000000) (hq : (s.data.toList.head? == some 34) = false) (hd : dottedQ (s.data.toList.take (whN atdL s.data.toList)) = true) : Calls Tryz.prog 161 #[.string s] w fun e w' => e = .returned (.tuple #[.agg (ptC (mailP s.data.toList).1).toArray, .int .i64 (mailP s.data.toList).2.1, .int .i64 (mailP s.data.toList).2.2]) ∧ Bel w w' := by
  have HW := hid hw
  have H0 := hid (mbI_new w)
  have HP := (show Hid (∀ W, Calls Tryz.prog 193 #[.string s, .string ⟨#[34]⟩] W fun e w' => e = .returned (.bool false) ∧ Bel W w') from fun W => by rw [← hq]; exact hasPre_run s 34 W (by omega))
  have hn := whN_le atdL s.data.toList
  rw [← Lib.size_eq] at hn
  have HWh := (show Hid (∀ W, Calls Tryz.prog 183 #[.string s, .string ⟨atdL.toArray⟩] W fun e w' => e = .returned (.int .i64 (whN atdL s.data.toList : Nat)) ∧ w' = W) from fun W => while_run s ⟨atdL.toArray⟩ W (by omega))
  have HM : Hid (mailP s.data.toList = tailP s.data.toList (s.data.toList.take (whN atdL s.data.toList)) (whN atdL s.data.toList)) := hid (by unfold mailP lpP; rw [hq, if_neg Bool.false_ne_true, hd, if_pos rfl])
  generalize whN atdL s.data.toList = n at HWh HM hn hd
  have HDt := (show Hid (∀ W, Lay W → Calls Tryz.prog 144 #[.string (s.extract 0 n)] W fun e w' => e = .returned (.bool true) ∧ Bel W w') from fun W hW => by rw [← hd, ← ext_front]; exact dotted_run _ W hW (by rw [ByteArray.size_extract]; omega))
  have hlz : (s.extract 0 n).size ≤ s.size := by rw [ByteArray.size_extract]; omega
  have HLB := hid (show s.data.toList.take n = (s.extract 0 n).data.toList by rw [ext_front])
  rw [HLB.out] at HM
  have h0 : ¬ n = 0 := by
    rintro rfl
    exact absurd hd (by rw [List.take_zero]; decide)
  clear hd hq
  · have b0 : ((n : Int) == 0) = false := by rw [beq_eq_false_iff_ne]; omega
    have HAt := (show Hid (∀ W, Calls Tryz.prog 193 #[.string (s.extract n s.size), .string ⟨#[64]⟩] W fun e w' => e = .returned (.bool ((s.data.toList.drop n).head? == some 64)) ∧ Bel W w') from fun W => by rw [← ext_back]; exact hasPre_run _ 64 W (by rw [ByteArray.size_extract]; omega))
    cases hat : ((s.data.toList.drop n).head? == some 64) with
    | false =>
      rw [hat] at HAt
      have HLo := (show Hid (∀ W, Calls Tryz.prog 94 #[.string (s.extract 0 n)] W fun e w' => e = .returned (.string ⟨(lowL (s.data.toList.take n)).toArray⟩) ∧ Bel W w') from fun W => by rw [← ext_front]; exact lower_run _ W (by rw [ByteArray.size_extract]; omega))
      have HE := hid (show (lowL (s.data.toList.take n) == pmL) = ((⟨(lowL (s.data.toList.take n)).toArray⟩ : ByteArray).toList == [112, 111, 115, 116, 109, 97, 115, 116, 101, 114]) by rw [ByteArray.toList_eq]; rfl)
      have HT := hid (show mailP s.data.toList = if (lowL (s.data.toList.take n) == pmL) then (⟨false, pmL, [], false⟩, n, 0) else (zeroP, 0, 90) by rw [HM.out]; unfold tailP; rw [if_neg h0, hat, if_neg Bool.false_ne_true])
      rw [HE.out] at HT
      clear HE
      generalize (⟨(lowL (s.data.toList.take n)).toArray⟩ : ByteArray) = lo at HLo HT
      cases hpm : (lo.toList == [112, 111, 115, 116, 109, 97, 115, 116, 101, 114]) with
      | false =>
        have HX := hid (show mailP s.data.toList = (zeroP, 0, 90) by rw [HT.out, hpm, if_neg Bool.false_ne_true])
        go_enter Tryz.func161, Tryz.ntmps161
        go_wp2_with (first | (go_at_call 193; refine (HP.out _).mono ?_; rintro e w1 ⟨rfl, hb_w1⟩; have HB1 := hid (H0.out.next hb_w1)) | (go_at_call 183; refine (HWh.out _).mono ?_; rintro e w2 ⟨rfl, rfl⟩) | (go_at_call 144; refine (HDt.out _ (HW.out.next HB1.out.1)).mono ?_; rintro e w3 ⟨rfl, hb_w3⟩; have HB3 := hid (HB1.out.next hb_w3)) | (go_at_call 193; refine (HAt.out _).mono ?_; rintro e w5 ⟨rfl, hb_w5⟩; have HB5 := hid (HB3.out.next hb_w5)) | (go_at_call 94; refine (HLo.out _).mono ?_; rintro e w6 ⟨rfl, hb_w6⟩; have HB6 := hid (HB5.out.next hb_w6)) | (refine wpList_store_blk rfl 39 (.tmp 2) (.tmp 43) rfl w.heap.size ([.bool false, .string ⟨#[]⟩, .string ⟨#[]⟩, .bool false]) rfl rfl pt_size (by simp [Value.oneCell']) (ptC zeroP) _ HB6.out.2 rfl ?_; intro w9 hc9 ho9 hs9 hb9; have HB9 := hid (hb9 w HB6.out.1 (Nat.le_refl _)); have HC9 := hid hc9; clear ho9 hs9 hb9 hc9))
        have hl2 := load_pt (cs := [.bool false, .string ⟨#[]⟩, .string ⟨#[]⟩, .bool false]) HC9.out rfl
        refine bodyPost_ret (v := .tuple #[.agg ([.bool false, .string ⟨#[]⟩, .string ⟨#[]⟩, .bool false]).toArray, .int .i64 0, .int .i64 90]) (by simp [results, Tryz.results161, asAddr, hl2]) rfl ⟨?_, HB9.out⟩
        rw [HX.out]; rfl
      | true =>
        have HX := hid (show mailP s.data.toList = (⟨false, pmL, [], false⟩, n, 0) by rw [HT.out, hpm, if_pos rfl])
        go_enter Tryz.func161, Tryz.ntmps161
        go_wp2_with (first | (go_at_call 193; refine (HP.out _).mono ?_; rintro e w1 ⟨rfl, hb_w1⟩; have HB1 := hid (H0.out.next hb_w1)) | (go_at_call 183; refine (HWh.out _).mono ?_; rintro e w2 ⟨rfl, rfl⟩) | (go_at_call 144; refine (HDt.out _ (HW.out.next HB1.out.1)).mono ?_; rintro e w3 ⟨rfl, hb_w3⟩; have HB3 := hid (HB1.out.next hb_w3)) | (go_at_call 193; refine (HAt.out _).mono ?_; rintro e w5 ⟨rfl, hb_w5⟩; have HB5 := hid (HB3.out.next hb_w5)) | (go_at_call 94; refine (HLo.out _).mono ?_; rintro e w6 ⟨rfl, hb_w6⟩; have HB6 := hid (HB5.out.next hb_w6)) | (refine wpList_store_blk rfl 39 (.tmp 2) (.tmp 44) rfl w.heap.size ([.bool false, .string ⟨#[112, 111, 115, 116, 109, 97, 115, 116, 101, 114]⟩, .string ⟨#[]⟩, .bool false]) rfl rfl pt_size (by simp [Value.oneCell']) (ptC zeroP) _ HB6.out.2 rfl ?_; intro w9 hc9 ho9 hs9 hb9; have HB9 := hid (hb9 w HB6.out.1 (Nat.le_refl _)); have HC9 := hid hc9; clear ho9 hs9 hb9 hc9))
        have hl2 := load_pt (cs := [.bool false, .string ⟨#[112, 111, 115, 116, 109, 97, 115, 116, 101, 114]⟩, .string ⟨#[]⟩, .bool false]) HC9.out rfl
        refine bodyPost_ret (v := .tuple #[.agg ([.bool false, .string ⟨#[112, 111, 115, 116, 109, 97, 115, 116, 101, 114]⟩, .string ⟨#[]⟩, .bool false]).toArray, .int .i64 n, .int .i64 0]) (by simp [results, Tryz.results161, asAddr, hl2]) rfl ⟨?_, HB9.out⟩
        rw [HX.out]; rfl
    | true =>
      rw [hat] at HAt
      have hn1 : n + 1 ≤ s.size := by
        refine Nat.lt_of_not_le fun hge => ?_
        rw [List.drop_eq_nil_of_le (by rw [← Lib.size_eq]; omega)] at hat
        cases hat
      have HDm := (show Hid (∀ W, Calls Tryz.prog 195 #[.string (s.extract (n + 1) s.size)] W fun e w' => e = .returned (.string ⟨(domTextP (s.data.toList.drop (n + 1))).toArray⟩) ∧ Bel W w') from fun W => by rw [← ext_back]; exact domText_run _ W (by rw [ByteArray.size_extract]; omega))
      have hdl := domText_len (s.data.toList.drop (n + 1))
      rw [List.length_drop, ← Lib.size_eq] at hdl
      have HT : Hid (mailP s.data.toList = _) := hid (show mailP s.data.toList = ((⟨false, (s.extract 0 n).data.toList, (domainQ (domTextP (s.data.toList.drop (n + 1)))).1, (domainQ (domTextP (s.data.toList.drop (n + 1)))).2.1⟩ : Pt), n + 1 + (domTextP (s.data.toList.drop (n + 1))).length, if (domainQ (domTextP (s.data.toList.drop (n + 1)))).2.2 = 0 then rightP ⟨false, (s.extract 0 n).data.toList, (domainQ (domTextP (s.data.toList.drop (n + 1)))).1, (domainQ (domTextP (s.data.toList.drop (n + 1)))).2.1⟩ else (domainQ (domTextP (s.data.toList.drop (n + 1)))).2.2) by rw [HM.out]; unfold tailP; rw [if_neg h0, hat, if_pos rfl])
      generalize domTextP (s.data.toList.drop (n + 1)) = d at HDm hdl HT
      have hdz : (⟨d.toArray⟩ : ByteArray).size = d.length := by rw [Lib.size_eq]
      have HPd := (show Hid (∀ W, Lay W → Calls Tryz.prog 48 #[.string ⟨d.toArray⟩] W fun e w' => e = .returned (.tuple #[.string ⟨(domainQ d).1.toArray⟩, .bool (domainQ d).2.1, .int .i64 (domainQ d).2.2]) ∧ Bel W w') from fun W hW => pdomain_run ⟨d.toArray⟩ W hW (by omega))
      have hds := dom_size d
      generalize domainQ d = D at HPd HT hds
      obtain ⟨dm, li, de⟩ := D
      simp only at HPd HT hds
      have hz : (⟨dm.toArray⟩ : ByteArray).size ≤ 4194304 := by rw [Lib.size_eq]; show dm.length ≤ _; omega
      have hw1 : wrap64 (wrap64 ((n : Int) + 1) + ((⟨d.toArray⟩ : ByteArray).size : Int)) = ((n + 1 + d.length : Nat) : Int) := by rw [hdz]; unfold wrap64; omega
      have HR := (show Hid (∀ W, Lay W → Calls Tryz.prog 49 #[.agg #[.bool false, .string (s.extract 0 n), .string ⟨dm.toArray⟩, .bool li]] W fun e w' => e = .returned (.int .i64 (rightP (pOf false (s.extract 0 n) ⟨dm.toArray⟩ li))) ∧ Bel W w') from fun W hW => right_run false (s.extract 0 n) ⟨dm.toArray⟩ li W hW (by omega) hz)
      have HT2 := hid (show mailP s.data.toList = (pOf false (s.extract 0 n) ⟨dm.toArray⟩ li, n + 1 + d.length, if de = 0 then rightP (pOf false (s.extract 0 n) ⟨dm.toArray⟩ li) else de) by rw [HT.out]; rfl)
      clear HT hat
      generalize rightP (pOf false (s.extract 0 n) ⟨dm.toArray⟩ li) = r at HR HT2
      obtain rfl | rfl | rfl := hds.2
      · have HX := hid (show mailP s.data.toList = (pOf false (s.extract 0 n) ⟨dm.toArray⟩ li, n + 1 + d.length, r) from HT2.out)
        go_enter Tryz.func161, Tryz.ntmps161
        go_wp2_with (first | (go_at_call 193; refine (HP.out _).mono ?_; rintro e w1 ⟨rfl, hb_w1⟩; have HB1 := hid (H0.out.next hb_w1)) | (go_at_call 183; refine (HWh.out _).mono ?_; rintro e w2 ⟨rfl, rfl⟩) | (go_at_call 144; refine (HDt.out _ (HW.out.next HB1.out.1)).mono ?_; rintro e w3 ⟨rfl, hb_w3⟩; have HB3 := hid (HB1.out.next hb_w3)) | (go_at_call 193; refine (HAt.out _).mono ?_; rintro e w5 ⟨rfl, hb_w5⟩; have HB5 := hid (HB3.out.next hb_w5)) | (go_at_call 195; refine (HDm.out _).mono ?_; rintro e w6 ⟨rfl, hb_w6⟩; have HB6 := hid (HB5.out.next hb_w6)) | (go_at_call 48; refine (HPd.out _ (HW.out.next HB6.out.1)).mono ?_; rintro e w7 ⟨rfl, hb_w7⟩; have HB7 := hid (HB6.out.next hb_w7)) | (refine wpList_store_blk rfl 39 (.tmp 11) (.tmp 60) rfl w7.heap.size ([.bool false, .string (s.extract 0 n), .string ⟨dm.toArray⟩, .bool li]) rfl rfl pt_size (by simp [Value.oneCell']) (ptC zeroP) _ (heap_alloc_new w7 _) rfl ?_; intro w8 hc8 ho8 hs8 hb8; have HB8 := hid (HB7.out.next (hb8 w7 ((Bel.refl w7).alloc _) (Nat.le_refl _))); have HC8 := hid hc8; clear ho8 hs8 hb8 hc8) | (refine wpList_load_mid rfl 39 (.tmp 11) rfl w7.heap.size 0 rfl [.bool false, .string (s.extract 0 n), .string ⟨dm.toArray⟩, .bool li] _ (range_pt HC8.out) Tryz.underlying39 rfl pt_size ?_) | (go_at_call 49; refine (HR.out _ (HW.out.next HB8.out.1)).mono ?_; rintro e wa ⟨rfl, hb_a⟩; have HBa := hid (HB8.out.next hb_a); have HCa := hid (hb_a.heap HC8.out)) | (refine wpList_load_mid rfl 39 (.tmp 11) rfl w7.heap.size 0 rfl [.bool false, .string (s.extract 0 n), .string ⟨dm.toArray⟩, .bool li] _ (range_pt HCa.out) Tryz.underlying39 rfl pt_size ?_) | (refine wpList_store_blk rfl 39 (.tmp 2) (.tmp 65) rfl w.heap.size ([.bool false, .string (s.extract 0 n), .string ⟨dm.toArray⟩, .bool li]) rfl rfl pt_size (by simp [Value.oneCell']) (ptC zeroP) _ HBa.out.2 rfl ?_; intro w9 hc9 ho9 hs9 hb9; have HB9 := hid (hb9 w HBa.out.1 (Nat.le_refl _)); have HC9 := hid hc9; clear ho9 hs9 hb9 hc9))
        have hl2 := load_pt (cs := [.bool false, .string (s.extract 0 n), .string ⟨dm.toArray⟩, .bool li]) HC9.out rfl
        refine bodyPost_ret (v := .tuple #[.agg ([.bool false, .string (s.extract 0 n), .string ⟨dm.toArray⟩, .bool li]).toArray, .int .i64 ((n + 1 + d.length : Nat) : Int), .int .i64 r]) (by simp [results, Tryz.results161, asAddr, hl2]) rfl ⟨?_, HB9.out⟩
        rw [HX.out]; rfl
      
      · have HX := hid (show mailP s.data.toList = (pOf false (s.extract 0 n) ⟨dm.toArray⟩ li, n + 1 + d.length, 90) from HT2.out)
        go_enter Tryz.func161, Tryz.ntmps161
        go_wp2_with (first | (go_at_call 193; refine (HP.out _).mono ?_; rintro e w1 ⟨rfl, hb_w1⟩; have HB1 := hid (H0.out.next hb_w1)) | (go_at_call 183; refine (HWh.out _).mono ?_; rintro e w2 ⟨rfl, rfl⟩) | (go_at_call 144; refine (HDt.out _ (HW.out.next HB1.out.1)).mono ?_; rintro e w3 ⟨rfl, hb_w3⟩; have HB3 := hid (HB1.out.next hb_w3)) | (go_at_call 193; refine (HAt.out _).mono ?_; rintro e w5 ⟨rfl, hb_w5⟩; have HB5 := hid (HB3.out.next hb_w5)) | (go_at_call 195; refine (HDm.out _).mono ?_; rintro e w6 ⟨rfl, hb_w6⟩; have HB6 := hid (HB5.out.next hb_w6)) | (go_at_call 48; refine (HPd.out _ (HW.out.next HB6.out.1)).mono ?_; rintro e w7 ⟨rfl, hb_w7⟩; have HB7 := hid (HB6.out.next hb_w7)) | (refine wpList_store_blk rfl 39 (.tmp 11) (.tmp 60) rfl w7.heap.size ([.bool false, .string (s.extract 0 n), .string ⟨dm.toArray⟩, .bool li]) rfl rfl pt_size (by simp [Value.oneCell']) (ptC zeroP) _ (heap_alloc_new w7 _) rfl ?_; intro w8 hc8 ho8 hs8 hb8; have HB8 := hid (HB7.out.next (hb8 w7 ((Bel.refl w7).alloc _) (Nat.le_refl _))); have HC8 := hid hc8; clear ho8 hs8 hb8 hc8) | (refine wpList_load_mid rfl 39 (.tmp 11) rfl w7.heap.size 0 rfl [.bool false, .string (s.extract 0 n), .string ⟨dm.toArray⟩, .bool li] _ (range_pt HC8.out) Tryz.underlying39 rfl pt_size ?_) | (refine wpList_store_blk rfl 39 (.tmp 2) (.tmp 65) rfl w.heap.size ([.bool false, .string (s.extract 0 n), .string ⟨dm.toArray⟩, .bool li]) rfl rfl pt_size (by simp [Value.oneCell']) (ptC zeroP) _ HB8.out.2 rfl ?_; intro w9 hc9 ho9 hs9 hb9; have HB9 := hid (hb9 w HB8.out.1 (Nat.le_refl _)); have HC9 := hid hc9; clear ho9 hs9 hb9 hc9))
        have hl2 := load_pt (cs := [.bool false, .string (s.extract 0 n), .string ⟨dm.toArray⟩, .bool li]) HC9.out rfl
        refine bodyPost_ret (v := .tuple #[.agg ([.bool false, .string (s.extract 0 n), .string ⟨dm.toArray⟩, .bool li]).toArray, .int .i64 ((n + 1 + d.length : Nat) : Int), .int .i64 90]) (by simp [results, Tryz.results161, asAddr, hl2]) rfl ⟨?_, HB9.out⟩
        rw [HX.out]; rfl
      
      · have HX := hid (show mailP s.data.toList = (pOf false (s.extract 0 n) ⟨dm.toArray⟩ li, n + 1 + d.length, 91) from HT2.out)
        go_enter Tryz.func161, Tryz.ntmps161
        go_wp2_with (first | (go_at_call 193; refine (HP.out _).mono ?_; rintro e w1 ⟨rfl, hb_w1⟩; have HB1 := hid (H0.out.next hb_w1)) | (go_at_call 183; refine (HWh.out _).mono ?_; rintro e w2 ⟨rfl, rfl⟩) | (go_at_call 144; refine (HDt.out _ (HW.out.next HB1.out.1)).mono ?_; rintro e w3 ⟨rfl, hb_w3⟩; have HB3 := hid (HB1.out.next hb_w3)) | (go_at_call 193; refine (HAt.out _).mono ?_; rintro e w5 ⟨rfl, hb_w5⟩; have HB5 := hid (HB3.out.next hb_w5)) | (go_at_call 195; refine (HDm.out _).mono ?_; rintro e w6 ⟨rfl, hb_w6⟩; have HB6 := hid (HB5.out.next hb_w6)) | (go_at_call 48; refine (HPd.out _ (HW.out.next HB6.out.1)).mono ?_; rintro e w7 ⟨rfl, hb_w7⟩; have HB7 := hid (HB6.out.next hb_w7)) | (refine wpList_store_blk rfl 39 (.tmp 11) (.tmp 60) rfl w7.heap.size ([.bool false, .string (s.extract 0 n), .string ⟨dm.toArray⟩, .bool li]) rfl rfl pt_size (by simp [Value.oneCell']) (ptC zeroP) _ (heap_alloc_new w7 _) rfl ?_; intro w8 hc8 ho8 hs8 hb8; have HB8 := hid (HB7.out.next (hb8 w7 ((Bel.refl w7).alloc _) (Nat.le_refl _))); have HC8 := hid hc8; clear ho8 hs8 hb8 hc8) | (refine wpList_load_mid rfl 39 (.tmp 11) rfl w7.heap.size 0 rfl [.bool false, .string (s.extract 0 n), .string ⟨dm.toArray⟩, .bool li] _ (range_pt HC8.out) Tryz.underlying39 rfl pt_size ?_) | (refine wpList_store_blk rfl 39 (.tmp 2) (.tmp 65) rfl w.heap.size ([.bool false, .string (s.extract 0 n), .string ⟨dm.toArray⟩, .bool li]) rfl rfl pt_size (by simp [Value.oneCell']) (ptC zeroP) _ HB8.out.2 rfl ?_; intro w9 hc9 ho9 hs9 hb9; have HB9 := hid (hb9 w HB8.out.1 (Nat.le_refl _)); have HC9 := hid hc9; clear ho9 hs9 hb9 hc9))
        have hl2 := load_pt (cs := [.bool false, .string (s.extract 0 n), .string ⟨dm.toArray⟩, .bool li]) HC9.out rfl
        refine bodyPost_ret (v := .tuple #[.agg ([.bool false, .string (s.extract 0 n), .string ⟨dm.toArray⟩, .bool li]).toArray, .int .i64 ((n + 1 + d.length : Nat) : Int), .int .i64 91]) (by simp [results, Tryz.results161, asAddr, hl2]) rfl ⟨?_, HB9.out⟩
        rw [HX.out]; rfl
end Go.Proofs.YtpmmaickjolimaaGreatDoor.Ma

/- Walk: mailbox of path. -/
namespace Go.Proofs.YtpmmaickjolimaaGreatDoor.Ma
open Go.RowKit
open Ci (Bel Lay)

set_option maxHeartbeats 8000000 in
set_option maxRecDepth 100000 in
theorem mail_n (s : ByteArray) (w : World) (hw : Lay w) (hs : s.size ≤ 4000000) (hq : (s.data.toList.head? == some 34) = false) (hd : dottedQ (s.data.toList.take (whN atdL s.data.toList)) = false) : Calls Tryz.prog 161 #[.string s] w fun e w' => e = .returned (.tuple #[.agg (ptC (mailP s.data.toList).1).toArray, .int .i64 (mailP s.data.toList).2.1, .int .i64 (mailP s.data.toList).2.2]) ∧ Bel w w' := by
  have HW := hid hw
  have H0 := hid (mbI_new w)
  have HP := (show Hid (∀ W, Calls Tryz.prog 193 #[.string s, .string ⟨#[34]⟩] W fun e w' => e = .returned (.bool false) ∧ Bel W w') from fun W => by rw [← hq]; exact hasPre_run s 34 W (by omega))
  have hn := whN_le atdL s.data.toList
  rw [← Lib.size_eq] at hn
  have HWh := (show Hid (∀ W, Calls Tryz.prog 183 #[.string s, .string ⟨atdL.toArray⟩] W fun e w' => e = .returned (.int .i64 (whN atdL s.data.toList : Nat)) ∧ w' = W) from fun W => while_run s ⟨atdL.toArray⟩ W (by omega))
  have HX := hid (show mailP s.data.toList = (zeroP, 0, 90) by unfold mailP lpP; rw [hq, if_neg Bool.false_ne_true, hd, if_neg Bool.false_ne_true]; rfl)
  generalize whN atdL s.data.toList = n at HWh hn hd
  have HDt := (show Hid (∀ W, Lay W → Calls Tryz.prog 144 #[.string (s.extract 0 n)] W fun e w' => e = .returned (.bool false) ∧ Bel W w') from fun W hW => by rw [← hd, ← ext_front]; exact dotted_run _ W hW (by rw [ByteArray.size_extract]; omega))
  clear hd hq
  go_enter Tryz.func161, Tryz.ntmps161
  go_wp2_with (first | (go_at_call 193; refine (HP.out _).mono ?_; rintro e w1 ⟨rfl, hb_w1⟩; have HB1 := hid (H0.out.next hb_w1)) | (go_at_call 183; refine (HWh.out _).mono ?_; rintro e w2 ⟨rfl, rfl⟩) | (go_at_call 144; refine (HDt.out _ (HW.out.next HB1.out.1)).mono ?_; rintro e w3 ⟨rfl, hb_w3⟩; have HB3 := hid (HB1.out.next hb_w3)) | (refine wpList_store_blk rfl 39 (.tmp 2) (.tmp 31) rfl w.heap.size ([.bool false, .string ⟨#[]⟩, .string ⟨#[]⟩, .bool false]) rfl rfl pt_size (by simp [Value.oneCell']) (ptC zeroP) _ HB3.out.2 rfl ?_; intro w9 hc9 ho9 hs9 hb9; have HB9 := hid (hb9 w HB3.out.1 (Nat.le_refl _)); have HC9 := hid hc9; clear ho9 hs9 hb9 hc9))
  have hl2 := load_pt (cs := [.bool false, .string ⟨#[]⟩, .string ⟨#[]⟩, .bool false]) HC9.out rfl
  refine bodyPost_ret (v := .tuple #[.agg ([.bool false, .string ⟨#[]⟩, .string ⟨#[]⟩, .bool false]).toArray, .int .i64 0, .int .i64 90]) (by simp [results, Tryz.results161, asAddr, hl2]) rfl ⟨?_, HB9.out⟩
  rw [HX.out]; rfl
theorem pmailbox_run (s : ByteArray) (w : World) (hw : Lay w) (hs : s.size ≤ 4000000) : Calls Tryz.prog 161 #[.string s] w fun e w' => e = .returned (.tuple #[.agg (ptC (mailP s.data.toList).1).toArray, .int .i64 (mailP s.data.toList).2.1, .int .i64 (mailP s.data.toList).2.2]) ∧ Bel w w' := by
  cases hq : (s.data.toList.head? == some 34) with
  | true => exact mail_q s w hw hs hq
  | false => cases hd : dottedQ (s.data.toList.take (whN atdL s.data.toList)) with
    | true => exact mail_d s w hw hs hq hd
    | false => exact mail_n s w hw hs hq hd
end Go.Proofs.YtpmmaickjolimaaGreatDoor.Ma

/- Walk: Mailbox of path. -/
namespace Go.Proofs.YtpmmaickjolimaaGreatDoor.Ma
open Go.RowKit
open Ci (Bel Lay)

/-- A text read as a mailbox. -/
def mbQ (s : List UInt8) : Pt × Int :=
  if s = [] then (⟨true, [], [], false⟩, 0)
  else if (mailP s).2.2 = 90 ∨ (mailP s).2.1 < s.length then (zeroP, 90)
  else if (mailP s).2.2 ≠ 0 then (zeroP, (mailP s).2.2)
  else ((mailP s).1, 0)
set_option maxHeartbeats 8000000 in
set_option maxRecDepth 100000 in
theorem Mailbox_run (s : ByteArray) (w : World) (hw : Lay w) (hs : s.size ≤ 4000000) : Calls Tryz.prog 113 #[.string s] w fun e w' => e = .returned (.tuple #[.agg (ptC (mbQ s.data.toList).1).toArray, .int .i64 (mbQ s.data.toList).2]) ∧ Bel w w' := by
  have HW := hid hw
  have H0 := hid (mbI_new w)
  have hsz := Lib.size_eq s
  by_cases h0 : s.data.toList = []
  · have hb : s.toList.isEmpty = true := by rw [ByteArray.toList_eq, h0]; rfl
    have hb2 : (s.toList == []) = true := by rw [ByteArray.toList_eq, h0]; rfl
    have HX := hid (show mbQ s.data.toList = (⟨true, [], [], false⟩, 0) by rw [h0]; rfl)
    clear h0 hsz
    go_enter Tryz.func113, Tryz.ntmps113
    go_wp2_with (first | (refine wpList_store_blk rfl 39 (.tmp 2) (.tmp 9) rfl w.heap.size ([.bool true, .string ⟨#[]⟩, .string ⟨#[]⟩, .bool false]) rfl rfl pt_size (by simp [Value.oneCell']) (ptC zeroP) _ H0.out.2 rfl ?_; intro w9 hc9 ho9 hs9 hb9; have HB9 := hid (hb9 w H0.out.1 (Nat.le_refl _)); have HC9 := hid hc9; clear ho9 hs9 hb9 hc9))
    have hl2 := load_pt (cs := [.bool true, .string ⟨#[]⟩, .string ⟨#[]⟩, .bool false]) HC9.out rfl
    refine bodyPost_ret (v := .tuple #[.agg ([.bool true, .string ⟨#[]⟩, .string ⟨#[]⟩, .bool false]).toArray, .int .i64 0]) (by simp [results, Tryz.results113, asAddr, hl2]) rfl ⟨?_, HB9.out⟩
    rw [HX.out]; rfl
  · have hb : s.toList.isEmpty = false := by
      rw [ByteArray.toList_eq]
      cases h : s.data.toList with
      | nil => exact absurd h h0
      | cons => rfl
    have hb2 : (s.toList == []) = false := by
      rw [ByteArray.toList_eq]
      cases h : s.data.toList with
      | nil => exact absurd h h0
      | cons => rfl
    have HM := (show Hid (∀ W, Lay W → Calls Tryz.prog 161 #[.string s] W fun e w' => e = .returned (.tuple #[.agg (ptC (mailP s.data.toList).1).toArray, .int .i64 (mailP s.data.toList).2.1, .int .i64 (mailP s.data.toList).2.2]) ∧ Bel W w') from fun W hW => pmailbox_run s W hW hs)
    have HX : Hid (mbQ s.data.toList = if (mailP s.data.toList).2.2 = 90 ∨ (mailP s.data.toList).2.1 < s.size then (zeroP, 90) else if (mailP s.data.toList).2.2 ≠ 0 then (zeroP, (mailP s.data.toList).2.2) else ((mailP s.data.toList).1, 0)) := hid (by unfold mbQ; rw [if_neg h0, ← hsz])
    generalize mailP s.data.toList = M at HM HX
    obtain ⟨p, n, e⟩ := M
    simp only at HM HX
    clear h0 hsz
    by_cases h1 : e = 90
    · subst h1
      have HY := hid (show mbQ s.data.toList = (zeroP, 90) by rw [HX.out, if_pos (.inl rfl)])
      go_enter Tryz.func113, Tryz.ntmps113
      go_wp2_with (first | (go_at_call 161; refine (HM.out _ (HW.out.next H0.out.1)).mono ?_; rintro e w1 ⟨rfl, hb_w1⟩; have HB1 := hid (H0.out.next hb_w1); clear hb_w1) | (refine wpList_store_blk rfl 39 (.tmp 4) (.tmp 13) rfl w1.heap.size (ptC p) rfl rfl pt_size (ptC_one p) (ptC zeroP) _ (heap_alloc_new w1 _) rfl ?_; intro w2 hc2 ho2 hs2 hb2; have HB2 := hid (HB1.out.next (hb2 w1 ((Bel.refl w1).alloc _) (Nat.le_refl _))); have HC2 := hid hc2; clear ho2 hs2 hb2 hc2) | (refine wpList_store_blk rfl 39 (.tmp 2) (.tmp 25) rfl w.heap.size ([.bool false, .string ⟨#[]⟩, .string ⟨#[]⟩, .bool false]) rfl rfl pt_size (by simp [Value.oneCell']) (ptC zeroP) _ HB2.out.2 rfl ?_; intro w9 hc9 ho9 hs9 hb9; have HB9 := hid (hb9 w HB2.out.1 (Nat.le_refl _)); have HC9 := hid hc9; clear ho9 hs9 hb9 hc9))
      have hl2 := load_pt (cs := [.bool false, .string ⟨#[]⟩, .string ⟨#[]⟩, .bool false]) HC9.out rfl
      refine bodyPost_ret (v := .tuple #[.agg ([.bool false, .string ⟨#[]⟩, .string ⟨#[]⟩, .bool false]).toArray, .int .i64 90]) (by simp [results, Tryz.results113, asAddr, hl2]) rfl ⟨?_, HB9.out⟩
      rw [HY.out]; rfl
    · have b1 : (e == 90) = false := by simpa using h1
      by_cases h2 : n < s.size
      · have b2 : decide ((n : Int) < (s.size : Int)) = true := decide_eq_true (by omega)
        have HY := hid (show mbQ s.data.toList = (zeroP, 90) by rw [HX.out, if_pos (.inr h2)])
        go_enter Tryz.func113, Tryz.ntmps113
        go_wp2_with (first | (go_at_call 161; refine (HM.out _ (HW.out.next H0.out.1)).mono ?_; rintro e w1 ⟨rfl, hb_w1⟩; have HB1 := hid (H0.out.next hb_w1); clear hb_w1) | (refine wpList_store_blk rfl 39 (.tmp 4) (.tmp 13) rfl w1.heap.size (ptC p) rfl rfl pt_size (ptC_one p) (ptC zeroP) _ (heap_alloc_new w1 _) rfl ?_; intro w2 hc2 ho2 hs2 hb2; have HB2 := hid (HB1.out.next (hb2 w1 ((Bel.refl w1).alloc _) (Nat.le_refl _))); have HC2 := hid hc2; clear ho2 hs2 hb2 hc2) | (refine wpList_store_blk rfl 39 (.tmp 2) (.tmp 25) rfl w.heap.size ([.bool false, .string ⟨#[]⟩, .string ⟨#[]⟩, .bool false]) rfl rfl pt_size (by simp [Value.oneCell']) (ptC zeroP) _ HB2.out.2 rfl ?_; intro w9 hc9 ho9 hs9 hb9; have HB9 := hid (hb9 w HB2.out.1 (Nat.le_refl _)); have HC9 := hid hc9; clear ho9 hs9 hb9 hc9))
        have hl2 := load_pt (cs := [.bool false, .string ⟨#[]⟩, .string ⟨#[]⟩, .bool false]) HC9.out rfl
        refine bodyPost_ret (v := .tuple #[.agg ([.bool false, .string ⟨#[]⟩, .string ⟨#[]⟩, .bool false]).toArray, .int .i64 90]) (by simp [results, Tryz.results113, asAddr, hl2]) rfl ⟨?_, HB9.out⟩
        rw [HY.out]; rfl
      · have b2 : decide ((n : Int) < (s.size : Int)) = false := decide_eq_false (by omega)
        have HX2 := hid (show mbQ s.data.toList = if e ≠ 0 then (zeroP, e) else (p, 0) by rw [HX.out, if_neg (by rintro (h | h); exact h1 h; exact h2 h)])
        by_cases h3 : e = 0
        · subst h3
          have HY := hid (show mbQ s.data.toList = (p, 0) from HX2.out)
          go_enter Tryz.func113, Tryz.ntmps113
          go_wp2_with (first | (go_at_call 161; refine (HM.out _ (HW.out.next H0.out.1)).mono ?_; rintro e w1 ⟨rfl, hb_w1⟩; have HB1 := hid (H0.out.next hb_w1); clear hb_w1) | (refine wpList_store_blk rfl 39 (.tmp 4) (.tmp 13) rfl w1.heap.size (ptC p) rfl rfl pt_size (ptC_one p) (ptC zeroP) _ (heap_alloc_new w1 _) rfl ?_; intro w2 hc2 ho2 hs2 hb2; have HB2 := hid (HB1.out.next (hb2 w1 ((Bel.refl w1).alloc _) (Nat.le_refl _))); have HC2 := hid hc2; clear ho2 hs2 hb2 hc2) | (refine wpList_load_mid rfl 39 (.tmp 4) rfl w1.heap.size 0 rfl (ptC p) _ (ptC_range HC2.out) Tryz.underlying39 rfl pt_size ?_) | (refine wpList_store_blk rfl 39 (.tmp 2) (.tmp 31) rfl w.heap.size (ptC p) rfl rfl pt_size (ptC_one _) (ptC zeroP) _ HB2.out.2 rfl ?_; intro w9 hc9 ho9 hs9 hb9; have HB9 := hid (hb9 w HB2.out.1 (Nat.le_refl _)); have HC9 := hid hc9; clear ho9 hs9 hb9 hc9))
          have hl2 := load_pt (cs := ptC p) HC9.out rfl
          refine bodyPost_ret (v := .tuple #[.agg (ptC p).toArray, .int .i64 0]) (by simp [results, Tryz.results113, asAddr, hl2]) rfl ⟨?_, HB9.out⟩
          rw [HY.out]
        · have b3 : (e == 0) = false := by simpa using h3
          have HY := hid (show mbQ s.data.toList = (zeroP, e) by rw [HX2.out, if_pos h3])
          go_enter Tryz.func113, Tryz.ntmps113
          go_wp2_with (first | (go_at_call 161; refine (HM.out _ (HW.out.next H0.out.1)).mono ?_; rintro e w1 ⟨rfl, hb_w1⟩; have HB1 := hid (H0.out.next hb_w1); clear hb_w1) | (refine wpList_store_blk rfl 39 (.tmp 4) (.tmp 13) rfl w1.heap.size (ptC p) rfl rfl pt_size (ptC_one p) (ptC zeroP) _ (heap_alloc_new w1 _) rfl ?_; intro w2 hc2 ho2 hs2 hb2; have HB2 := hid (HB1.out.next (hb2 w1 ((Bel.refl w1).alloc _) (Nat.le_refl _))); have HC2 := hid hc2; clear ho2 hs2 hb2 hc2) | (refine wpList_store_blk rfl 39 (.tmp 2) (.tmp 29) rfl w.heap.size ([.bool false, .string ⟨#[]⟩, .string ⟨#[]⟩, .bool false]) rfl rfl pt_size (by simp [Value.oneCell']) (ptC zeroP) _ HB2.out.2 rfl ?_; intro w9 hc9 ho9 hs9 hb9; have HB9 := hid (hb9 w HB2.out.1 (Nat.le_refl _)); have HC9 := hid hc9; clear ho9 hs9 hb9 hc9))
          have hl2 := load_pt (cs := [.bool false, .string ⟨#[]⟩, .string ⟨#[]⟩, .bool false]) HC9.out rfl
          refine bodyPost_ret (v := .tuple #[.agg ([.bool false, .string ⟨#[]⟩, .string ⟨#[]⟩, .bool false]).toArray, .int .i64 e]) (by simp [results, Tryz.results113, asAddr, hl2]) rfl ⟨?_, HB9.out⟩
          rw [HY.out]; rfl
end Go.Proofs.YtpmmaickjolimaaGreatDoor.Ma

/- The law's shown: the document's examples. -/
namespace Go.Proofs.YtpmmaickjolimaaGreatDoor.Ma
open Go.RowKit
open Ci (Bel Lay own_bel row_shape addr_add own_base Aft wp_region_aft quiet_load_aft)

def t1 : List UInt8 := [74, 111, 101, 32, 40, 120, 41, 32, 81, 32, 60, 97, 32, 46, 32, 98, 32, 40, 99, 41, 32, 64, 32, 68, 46, 111, 114, 103, 62, 44, 32, 60, 99, 64, 100, 62]
def t2 : List UInt8 := [116, 101, 97, 109, 58, 32, 97, 64, 98, 44, 32, 34, 99, 32, 100, 34, 64, 101, 59, 44, 32, 102, 64, 103]
def t5 : List UInt8 := [74, 32, 60, 97, 64, 98, 62, 32, 40, 120, 41]
def m1 : Ml := ⟨⟨false, [97, 46, 98], [100, 46, 111, 114, 103], false⟩, 11, 28, [74, 111, 101, 32, 40, 120, 41, 32, 81]⟩
def m2 : Ml := ⟨⟨false, [99], [100], false⟩, 32, 35, []⟩
def m3 : Ml := ⟨⟨false, [97], [98], false⟩, 6, 9, []⟩
def m4 : Ml := ⟨⟨false, [99, 32, 100], [101], false⟩, 11, 18, []⟩
def m5 : Ml := ⟨⟨false, [102], [103], false⟩, 21, 24, []⟩
def p5 : Pt := ⟨false, [99], [100], false⟩
theorem q1 : parseQ t1 = ([m1, m2], 0) := by kernel_rfl
theorem q2 : parseQ t2 = ([m3, m4, m5], 0) := by kernel_rfl
theorem q3 : parseQ [44, 44] = ([], 0) := by kernel_rfl
theorem q4 : parseQ [97, 64, 98, 32, 99, 64, 100] = ([], 100) := by kernel_rfl
theorem q5 : replaceQ t5 [p5] = ([74, 32, 60, 99, 64, 100, 62, 32, 40, 120, 41], 0) := by kernel_rfl
end Go.Proofs.YtpmmaickjolimaaGreatDoor.Ma

/- MailaddrKeeps: the law's walk. -/
namespace Go.Proofs.YtpmmaickjolimaaGreatDoor.Ma
open Go.RowKit
open Ci (Bel Lay own_bel row_shape addr_add own_base Aft wp_region_aft quiet_load_aft wpList_push)

theorem pt_infos : (Tryz.prog.info? 39).map (fun i => (i.zero, i.size, i.bytes)) = some (some (.agg #[.bool false, .string ⟨#[]⟩, .string ⟨#[]⟩, .bool false]), 4, 48) := by kernel_rfl
def ptCs (l : List Pt) : List Value := l.flatMap ptC
theorem ptCs_snoc (l : List Pt) (p : Pt) : ptCs (l ++ [p]) = ptCs l ++ ptC p := by unfold ptCs; rw [List.flatMap_append]; simp
theorem ptCs_at (L : List Pt) (k : Nat) (hk : k < L.length) (j : Nat) (v : Value) (hv : (ptC L[k])[j]? = some v) : (ptCs L)[k * 4 + j]? = some v := by
  induction L generalizing k with
  | nil => simp at hk
  | cons t L ih =>
    show (ptC t ++ ptCs L)[k * 4 + j]? = some v
    have hl : (ptC t).length = 4 := rfl
    cases k with
    | zero =>
      have hj : j < 4 := (List.getElem?_eq_some_iff.1 hv).1
      rw [List.getElem?_append_left (by omega), Nat.zero_mul, Nat.zero_add]
      exact hv
    | succ k =>
      rw [List.getElem?_append_right (by omega), hl, show (k + 1) * 4 + j - 4 = k * 4 + j by omega]
      exact ih k (by simp at hk; omega) hv
theorem esc_ge (l : List UInt8) : l.length ≤ (l.flatMap esc).length := by
  induction l with
  | nil => simp
  | cons b l ih =>
    rw [List.flatMap_cons, List.length_append, List.length_cons]
    have : 1 ≤ (esc b).length := by unfold esc; split <;> simp
    omega
theorem good_small {p : Pt} (h : Good p) : p.loc.length ≤ 4194304 ∧ p.dom.length ≤ 4194304 := by
  have hl := h.len
  simp only [not_or] at hl
  have h1 : p.loc.length ≤ (formP p.loc).length := by
    unfold formP
    split
    · exact Nat.le_refl _
    · have := esc_ge p.loc
      rw [List.length_cons, List.length_append]; omega
  have h2 : p.dom.length ≤ (domP p).length := by
    unfold domP
    split
    · simp only [List.length_append]; omega
    · exact Nat.le_refl _
  have h3 : (domP p).length ≤ (shownP p).length := by
    have he : p.dom.isEmpty = false := by
      cases hd : p.dom with
      | nil => exact absurd hd h.dn
      | cons => rfl
    unfold shownP
    rw [h.nn, if_neg Bool.false_ne_true, he, Bool.and_false, if_neg Bool.false_ne_true]
    simp only [List.length_append]; omega
  omega
end Go.Proofs.YtpmmaickjolimaaGreatDoor.Ma
