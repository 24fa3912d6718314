import Derived.Test.YtmlmkmhkmifnkaaGreatDoorM33
set_option maxHeartbeats 16000000
set_option maxRecDepth 1000000
namespace Go.Proofs.YtmlmkmhkmifnkaaGreatDoor.Tb
open Go.RowKit
open Ci (Bel hid own_bel row_shape own_base addr_add Aft wp_region_aft Lay Calls.aft quiet_load_aft)
open Ma (Pt ptC ptC_one ptC_range pt_size zeroP domainQ rightP wpList_store_blk load_pt)
theorem twice_law(hs:ByteArray)(x:Option Addr)(bs:List ByteArray)(cap:Nat)(pa:Pt)(w:World)(hw:Lat w)(hh:hs.size≤4194304)(hS:Sts w x bs)(hp:pa.loc.length≤4194304∧pa.dom.length≤4194304):
 Calls Tryz.prog 5 #[.agg #[.string hs,.slice x bs.length cap],.agg (ptC pa).toArray] w fun e w'=>e=.returned (.bool true)∧Bel w w':=by
 obtain⟨W1,hW1⟩:∃W1,W1=(w.alloc (.cells #[.string hs,.slice x bs.length cap] 24)).alloc (.cells (ptC pa).toArray 26):=⟨_,rfl⟩
 have HB1:=hid (show Bel w W1 by rw[hW1];exact((Bel.refl w).alloc _).alloc _)
 have HK:=hid (show∀W,Bel W1 W→W.cell? ⟨w.heap.size,0,none⟩=some (.string hs)∧W.cell? ⟨w.heap.size,1,none⟩=some (.slice x bs.length cap)from fun W hW=>by
  have h0:W1.heap[w.heap.size]?=some (.cells #[.string hs,.slice x bs.length cap] 24 (0,0)):=by rw[hW1];exact Bel.heap ((Bel.refl _).alloc _) (heap_alloc_new w _)
  exact⟨by rw[Lib.cell_of_heap (hW.heap h0)];rfl,by rw[Lib.cell_of_heap (hW.heap h0)];rfl⟩)
 have HPt:=hid (show∀W,Bel W1 W→W.heap[w.heap.size+1]?=some (.cells (ptC pa).toArray 26 (0,0))from fun W hW=>hW.heap (by rw[hW1];exact Ci.alloc_second w _ _))
 have HAw:=hid (fun W (hW:Bel w W)=>cawake_run W (hw.next hW))
 cases hn:newC hs.data.toList (bs.map (·.data.toList))with
 |error k=>
  have HN:=hid (new_err (c:=cap) hw hh hS hn)
  have hk:k≠0:=by
   unfold newC at hn
   split at hn
   ·cases hn;decide
   ·split at hn<;>cases hn
    decide
  have hk0:(k==0)=false:=by simpa using hk
  clear hw hS hn
  generalize bs.length=n at hW1 HK HN⊢
  go_enter Tryz.func5,Tryz.ntmps5
  go_wp2_with (first|(go_at_call 10;(try rw[←hW1]);refine(HAw.out W1 HB1.out).mono ?_;rintro _ W2 ⟨rfl,hb2⟩;have HX2:=hid hb2;have HB2:=hid (HB1.out.trans hb2);have c0:=(HK.out W2 hb2).1;have c1:=(HK.out W2 hb2).2;clear hb2)|(go_at_call 11;refine(HN.out W2 HB2.out).mono ?_;rintro _ W3 ⟨rfl,hb3⟩;have HX3:=hid (HX2.out.trans hb3);have HB3:=hid (HB2.out.trans hb3);have e3:=(HK.out W3 HX3.out).1;have g3:=(HK.out W3 HX3.out).2;clear hb3))
  go_ret
  exact⟨rfl,HB3.out⟩
 |ok ts=>
  have HN:=hid (new_good (c:=cap) hw hh hS hn)
  have HR:=hid (rnew_good (c:=cap) hh hS hn)
  have HP:=(show Hid (∀W b p,Bel w W→CnAt W (some ⟨b,0,none⟩) hs.data.toList ts→(p.loc.length≤4194304∧p.dom.length≤4194304)→Calls Tryz.prog 13 #[.pointer (some ⟨b,0,none⟩),.agg (ptC p).toArray] W fun e w'=>e=.returned (.agg (ptC (pathC hs.data.toList ts p)).toArray)∧Bel W w')from fun W b p hW hC hp=>cpath_run _ _ ts p W (hw.next hW) hC hp.1 hp.2)
  have HQ:=(show Hid (∀W b p,RCnAt W (some ⟨b,0,none⟩) hs.data.toList ts→(p.loc.length≤4194304∧p.dom.length≤4194304)→Calls Tryz.prog 14 #[.pointer (some ⟨b,0,none⟩),.agg (ptC p).toArray] W fun e w'=>e=.returned (.agg (ptC (pathC hs.data.toList ts p)).toArray)∧Bel W w')from fun W b p hC hp=>rcpath_run _ _ ts p W hC hp.1 hp.2)
  have HRt:=hid (fun W=>rRight_pt pa W hp.1 hp.2)
  have HNo:=hid (fun hr:rightP pa≠0=>path_not_right (h:=hs.data.toList) (ts:=ts) hr)
  have HSm:=hid (fun(hh:hostC hs.data.toList=true) (hok:∀es∈ts,valsC es=true)=>path_small hh hok hp)
  have HPa:=hid hp
  clear hw hS hn hp
  generalize bs.length=n at hW1 HK HN HR⊢
  generalize hq:pathC hs.data.toList ts pa=q at HNo HSm
  generalize hr:pathC hs.data.toList ts q=r
  have HQ1:=hid hq
  have HR1:=hid hr
  clear hq hr
  by_cases hright:rightP pa=0
  ·rw[hright]at HRt
   go_enter Tryz.func5,Tryz.ntmps5
   go_wp2_with (first|(go_at_call 10;(try rw[←hW1]);refine(HAw.out W1 HB1.out).mono ?_;rintro _ W2 ⟨rfl,hb2⟩;have HX2:=hid hb2;have HB2:=hid (HB1.out.trans hb2);have c0:=(HK.out W2 hb2).1;have c1:=(HK.out W2 hb2).2;clear hb2)|(go_at_call 11;refine(HN.out W2 HB2.out).mono ?_;rintro _ W3 ⟨b3,rfl,hb3,hc3⟩;have HX3:=hid (HX2.out.trans hb3);have HB3:=hid (HB2.out.trans hb3);have e3:=(HK.out W3 HX3.out).1;have g3:=(HK.out W3 HX3.out).2;have HC3:=hid hc3;clear hc3;clear hb3)|(refine wpList_load_mid rfl 26 (.tmp 3) rfl (w.heap.size+1) 0 rfl (ptC pa) _ (ptC_range (HPt.out _ HX3.out)) Tryz.underlying26 rfl pt_size ?_)|(go_at_call 13;with_reducible refine(HP.out W3 b3 pa HB3.out HC3.out HPa.out).mono ?_;rw[HQ1.out];rintro _ W5 ⟨rfl,hb5⟩;have HX5:=hid hb5;clear hb5)|(refine wpList_store_blk rfl 26 (.tmp 8) (.tmp 38) rfl (W5.heap.size) (ptC q) rfl rfl pt_size (ptC_one _) (ptC zeroP) _ (heap_alloc_new W5 _) rfl ?_;intro W6 hc6 ho6 hs6 hb6;have HB6:=hid (HX5.out.trans (hb6 W5 ((Bel.refl W5).alloc _) (Nat.le_refl _)));have HC6:=hid hc6;clear hc6 ho6 hs6 hb6)|(refine wpList_load_mid rfl 26 (.tmp 8) rfl (W5.heap.size) 0 rfl (ptC q) _ (ptC_range (HC6.out)) Tryz.underlying26 rfl pt_size ?_)|(go_at_call 13;with_reducible refine(HP.out W6 b3 q (HB3.out.trans HB6.out) (HC3.out.next HB6.out) (HSm.out HC3.out.host HC3.out.ok)).mono ?_;rw[HR1.out];rintro _ W7 ⟨rfl,hb7⟩;have HX7:=hid hb7;clear hb7)|(refine wpList_store_blk rfl 26 (.tmp 9) (.tmp 41) rfl (W7.heap.size) (ptC r) rfl rfl pt_size (ptC_one _) (ptC zeroP) _ (heap_alloc_new W7 _) rfl ?_;intro W8 hc8 ho8 hs8 hb8;have HB8:=hid (HX7.out.trans (hb8 W7 ((Bel.refl W7).alloc _) (Nat.le_refl _)));have HC8:=hid hc8;have HX8:=hid (HX3.out.trans (HB6.out.trans HB8.out));have e8:=(HK.out W8 HX8.out).1;have g8:=(HK.out W8 HX8.out).2;clear hc8 ho8 hs8 hb8)|(go_at_call 12;refine(HR.out W8 (HB3.out.trans (HB6.out.trans HB8.out))).mono ?_;rintro _ W9 ⟨b9,rfl,hb9,hc9⟩;have HB9:=hid hb9;have HC9:=hid hc9;clear hb9 hc9)|(refine wpList_load_mid rfl 26 (.tmp 3) rfl (w.heap.size+1) 0 rfl (ptC pa) _ (ptC_range (HPt.out _ (HX8.out.trans HB9.out))) Tryz.underlying26 rfl pt_size ?_)|(go_at_call 17;refine(HRt.out W9).mono ?_;rintro _ W10 ⟨rfl,hb10⟩;have HB10:=hid (HB9.out.trans hb10);have HC10:=hid (HC9.out.next hb10);clear hb10)|(refine wpList_load_mid rfl 26 (.tmp 8) rfl (W5.heap.size) 0 rfl (ptC q) _ (ptC_range ((HB8.out.trans HB10.out).heap HC6.out)) Tryz.underlying26 rfl pt_size ?_)|(go_at_call 14;refine(HQ.out W10 b9 q HC10.out (HSm.out HC3.out.host HC3.out.ok)).mono ?_;rw[HR1.out];rintro _ W11 ⟨rfl,hb11⟩;have HB11:=hid hb11;clear hb11)|(refine wpList_store_blk rfl 26 (.tmp 13) (.tmp 56) rfl (W11.heap.size) (ptC r) rfl rfl pt_size (ptC_one _) (ptC zeroP) _ (heap_alloc_new W11 _) rfl ?_;intro W12 hc12 ho12 hs12 hb12;have HB12:=hid (HB11.out.trans (hb12 W11 ((Bel.refl W11).alloc _) (Nat.le_refl _)));have HC12:=hid hc12;clear hc12 ho12 hs12 hb12))
   have l3:∀P:Aft W12,P.wd.rangeAt (w.heap.size+1) 0 (ptC pa):=fun P=>ptC_range (P.bel.heap (HPt.out _ (HX8.out.trans (HB10.out.trans HB12.out))))
   have l8:∀P:Aft W12,P.wd.rangeAt W5.heap.size 0 (ptC q):=fun P=>ptC_range (P.bel.heap ((HB8.out.trans (HB10.out.trans HB12.out)).heap HC6.out))
   have l9:∀P:Aft W12,P.wd.rangeAt W7.heap.size 0 (ptC r):=fun P=>ptC_range (P.bel.heap ((HB10.out.trans HB12.out).heap HC8.out))
   have l13:∀P:Aft W12,P.wd.rangeAt W11.heap.size 0 (ptC r):=fun P=>ptC_range (P.bel.heap HC12.out)
   have L3:=hid l3
   have L8:=hid l8
   have L9:=hid l9
   have L13:=hid l13
   have HSz:=(show Hid ((Tryz.prog.info? 26).map (·.size)=some 4)from hid pt_size)
   clear l3 l8 l9 l13
   obtain⟨d,hd⟩:∃d,d=decide (r=q):=⟨_,rfl⟩
   have he1:∀W:World,(Op.equalIn 10000 26 (.agg (ptC r).toArray) (.agg (ptC q).toArray)).run Tryz.prog W=.ok d W:=fun W=>by rw[hd];exact eq_ptc r q W
   have hdd:(d==d)=true:=by simp
   skip
   clear hd
   refine wp_region_aft (by kernel_rfl) (by kernel_rfl) ?_
   repeat (first
    | (refine quiet_load_aft 26 _ rfl (w.heap.size+1) 0 rfl (ptC pa) _ L3.out Tryz.underlying26 rfl HSz.out (by rfl) ?_;intro a' ha';simp only[Act.put,Array.setIfInBounds,go_sem]at ha';subst ha')
    | (refine quiet_load_aft 26 _ rfl W5.heap.size 0 rfl (ptC q) _ L8.out Tryz.underlying26 rfl HSz.out (by rfl) ?_;intro a' ha';simp only[Act.put,Array.setIfInBounds,go_sem]at ha';subst ha')
    | (refine quiet_load_aft 26 _ rfl W7.heap.size 0 rfl (ptC r) _ L9.out Tryz.underlying26 rfl HSz.out (by rfl) ?_;intro a' ha';simp only[Act.put,Array.setIfInBounds,List.size_toArray,go_sem]at ha';subst ha')
    | (refine quiet_load_aft 26 _ rfl W11.heap.size 0 rfl (ptC r) _ L13.out Tryz.underlying26 rfl HSz.out (by rfl) ?_;intro a' ha';simp only[Act.put,Array.setIfInBounds,List.size_toArray,go_sem]at ha';subst ha')
    |go_big_quiet_skip
    |go_big_quiet_step (fail)
    |quiet_step (fail))
   refine wpQuiet_nil ?_
   rintro _ ⟨P6,rfl⟩
   go_wp2_with fail
   go_ret
   exact⟨rfl,(((HB3.out.trans (HB6.out.trans HB8.out)).trans HB10.out).trans HB12.out).trans P6.bel⟩
  ·have hr0:(rightP pa==0)=false:=by simpa using hright
   have HQp:=hid (HNo.out hright)
   go_enter Tryz.func5,Tryz.ntmps5
   go_wp2_with (first|(go_at_call 10;(try rw[←hW1]);refine(HAw.out W1 HB1.out).mono ?_;rintro _ W2 ⟨rfl,hb2⟩;have HX2:=hid hb2;have HB2:=hid (HB1.out.trans hb2);have c0:=(HK.out W2 hb2).1;have c1:=(HK.out W2 hb2).2;clear hb2)|(go_at_call 11;refine(HN.out W2 HB2.out).mono ?_;rintro _ W3 ⟨b3,rfl,hb3,hc3⟩;have HX3:=hid (HX2.out.trans hb3);have HB3:=hid (HB2.out.trans hb3);have e3:=(HK.out W3 HX3.out).1;have g3:=(HK.out W3 HX3.out).2;have HC3:=hid hc3;clear hc3;clear hb3)|(refine wpList_load_mid rfl 26 (.tmp 3) rfl (w.heap.size+1) 0 rfl (ptC pa) _ (ptC_range (HPt.out _ HX3.out)) Tryz.underlying26 rfl pt_size ?_)|(go_at_call 13;with_reducible refine(HP.out W3 b3 pa HB3.out HC3.out HPa.out).mono ?_;rw[HQ1.out];rintro _ W5 ⟨rfl,hb5⟩;have HX5:=hid hb5;clear hb5)|(refine wpList_store_blk rfl 26 (.tmp 8) (.tmp 38) rfl (W5.heap.size) (ptC q) rfl rfl pt_size (ptC_one _) (ptC zeroP) _ (heap_alloc_new W5 _) rfl ?_;intro W6 hc6 ho6 hs6 hb6;have HB6:=hid (HX5.out.trans (hb6 W5 ((Bel.refl W5).alloc _) (Nat.le_refl _)));have HC6:=hid hc6;clear hc6 ho6 hs6 hb6)|(refine wpList_load_mid rfl 26 (.tmp 8) rfl (W5.heap.size) 0 rfl (ptC q) _ (ptC_range (HC6.out)) Tryz.underlying26 rfl pt_size ?_)|(go_at_call 13;with_reducible refine(HP.out W6 b3 q (HB3.out.trans HB6.out) (HC3.out.next HB6.out) (HSm.out HC3.out.host HC3.out.ok)).mono ?_;rw[HR1.out];rintro _ W7 ⟨rfl,hb7⟩;have HX7:=hid hb7;clear hb7)|(refine wpList_store_blk rfl 26 (.tmp 9) (.tmp 41) rfl (W7.heap.size) (ptC r) rfl rfl pt_size (ptC_one _) (ptC zeroP) _ (heap_alloc_new W7 _) rfl ?_;intro W8 hc8 ho8 hs8 hb8;have HB8:=hid (HX7.out.trans (hb8 W7 ((Bel.refl W7).alloc _) (Nat.le_refl _)));have HC8:=hid hc8;have HX8:=hid (HX3.out.trans (HB6.out.trans HB8.out));have e8:=(HK.out W8 HX8.out).1;have g8:=(HK.out W8 HX8.out).2;clear hc8 ho8 hs8 hb8)|(go_at_call 12;refine(HR.out W8 (HB3.out.trans (HB6.out.trans HB8.out))).mono ?_;rintro _ W9 ⟨b9,rfl,hb9,hc9⟩;have HB9:=hid hb9;have HC9:=hid hc9;clear hb9 hc9)|(refine wpList_load_mid rfl 26 (.tmp 3) rfl (w.heap.size+1) 0 rfl (ptC pa) _ (ptC_range (HPt.out _ (HX8.out.trans HB9.out))) Tryz.underlying26 rfl pt_size ?_)|(go_at_call 17;refine(HRt.out W9).mono ?_;rintro _ W10 ⟨rfl,hb10⟩;have HB10:=hid (HB9.out.trans hb10);have HC10:=hid (HC9.out.next hb10);clear hb10)|(refine wpList_load_mid rfl 26 (.tmp 8) rfl (W5.heap.size) 0 rfl (ptC q) _ (ptC_range ((HB8.out.trans HB10.out).heap HC6.out)) Tryz.underlying26 rfl pt_size ?_)|(go_at_call 14;refine(HQ.out W10 b9 q HC10.out (HSm.out HC3.out.host HC3.out.ok)).mono ?_;rw[HR1.out];rintro _ W11 ⟨rfl,hb11⟩;have HB11:=hid hb11;clear hb11)|(refine wpList_store_blk rfl 26 (.tmp 13) (.tmp 56) rfl (W11.heap.size) (ptC r) rfl rfl pt_size (ptC_one _) (ptC zeroP) _ (heap_alloc_new W11 _) rfl ?_;intro W12 hc12 ho12 hs12 hb12;have HB12:=hid (HB11.out.trans (hb12 W11 ((Bel.refl W11).alloc _) (Nat.le_refl _)));have HC12:=hid hc12;clear hc12 ho12 hs12 hb12))
   have l3:∀P:Aft W12,P.wd.rangeAt (w.heap.size+1) 0 (ptC pa):=fun P=>ptC_range (P.bel.heap (HPt.out _ (HX8.out.trans (HB10.out.trans HB12.out))))
   have l8:∀P:Aft W12,P.wd.rangeAt W5.heap.size 0 (ptC q):=fun P=>ptC_range (P.bel.heap ((HB8.out.trans (HB10.out.trans HB12.out)).heap HC6.out))
   have l9:∀P:Aft W12,P.wd.rangeAt W7.heap.size 0 (ptC r):=fun P=>ptC_range (P.bel.heap ((HB10.out.trans HB12.out).heap HC8.out))
   have l13:∀P:Aft W12,P.wd.rangeAt W11.heap.size 0 (ptC r):=fun P=>ptC_range (P.bel.heap HC12.out)
   have L3:=hid l3
   have L8:=hid l8
   have L9:=hid l9
   have L13:=hid l13
   have HSz:=(show Hid ((Tryz.prog.info? 26).map (·.size)=some 4)from hid pt_size)
   clear l3 l8 l9 l13
   obtain⟨d,hd⟩:∃d,d=decide (r=q):=⟨_,rfl⟩
   have he1:∀W:World,(Op.equalIn 10000 26 (.agg (ptC r).toArray) (.agg (ptC q).toArray)).run Tryz.prog W=.ok d W:=fun W=>by rw[hd];exact eq_ptc r q W
   have hdd:(d==d)=true:=by simp
   have he2:∀W:World,(Op.equalIn 10000 26 (.agg (ptC q).toArray) (.agg (ptC pa).toArray)).run Tryz.prog W=.ok true W:=fun W=>by have:=eq_ptc q pa W;rw[decide_eq_true HQp.out]at this;exact this
   clear hd
   refine wp_region_aft (by kernel_rfl) (by kernel_rfl) ?_
   repeat (first
    | (refine quiet_load_aft 26 _ rfl (w.heap.size+1) 0 rfl (ptC pa) _ L3.out Tryz.underlying26 rfl HSz.out (by rfl) ?_;intro a' ha';simp only[Act.put,Array.setIfInBounds,go_sem]at ha';subst ha')
    | (refine quiet_load_aft 26 _ rfl W5.heap.size 0 rfl (ptC q) _ L8.out Tryz.underlying26 rfl HSz.out (by rfl) ?_;intro a' ha';simp only[Act.put,Array.setIfInBounds,go_sem]at ha';subst ha')
    | (refine quiet_load_aft 26 _ rfl W7.heap.size 0 rfl (ptC r) _ L9.out Tryz.underlying26 rfl HSz.out (by rfl) ?_;intro a' ha';simp only[Act.put,Array.setIfInBounds,List.size_toArray,go_sem]at ha';subst ha')
    | (refine quiet_load_aft 26 _ rfl W11.heap.size 0 rfl (ptC r) _ L13.out Tryz.underlying26 rfl HSz.out (by rfl) ?_;intro a' ha';simp only[Act.put,Array.setIfInBounds,List.size_toArray,go_sem]at ha';subst ha')
    |go_big_quiet_skip
    |go_big_quiet_step (fail)
    |quiet_step (fail))
   refine wpQuiet_nil ?_
   rintro _ ⟨P6,rfl⟩
   go_wp2_with fail
   go_ret
   exact⟨rfl,(((HB3.out.trans (HB6.out.trans HB8.out)).trans HB10.out).trans HB12.out).trans P6.bel⟩
end Go.Proofs.YtmlmkmhkmifnkaaGreatDoor.Tb