import Derived.Test.YtmlmkmhkmifnkaaGreatDoorK16
import Derived.Lib.Bytealg
import Derived.Lib.MapU
import Derived.Lib.MapLaws
import Derived.Lib.TrimAscii
set_option maxHeartbeats 16000000
set_option maxRecDepth 1000000
namespace Go.Proofs.YtmlmkmhkmifnkaaGreatDoor.Ma
open Go.RowKit
open Ci (Bel Lay)
theorem mail_q(s:ByteArray)(w:World)(hw:Lay w)(hs:s.size≤4000000)(hq:(s.data.toList.head?==some 34)=true):Calls Tryz.prog 143 #[.string s] w fun e w'=>e=.returned (.tuple #[.agg (ptC (mailP s.data.toList).1).toArray,.int .i64 (mailP s.data.toList).2.1,.int .i64 (mailP s.data.toList).2.2])∧Bel w w':=by
 have HW:=hid hw
 have H0:=hid (mbI_new w)
 have HP:=(show Hid (∀W,Calls Tryz.prog 218 #[.string s,.string ⟨#[34]⟩] W fun e w'=>e=.returned (.bool true)∧Bel W w')from fun W=>by rw[←hq];exact hasPre_run s 34 W (by omega))
 have HQ:=(show Hid (∀W,Calls Tryz.prog 219 #[.string s] W fun e w'=>e=.returned (.tuple #[.string ⟨(quotedP s.data.toList).1.toArray⟩,.int .i64 (quotedP s.data.toList).2])∧Bel W w')from fun W=>quoted_run s W (by omega))
 have HM:Hid (mailP s.data.toList=tailP s.data.toList (quotedP s.data.toList).1 (quotedP s.data.toList).2):=hid (by unfold mailP lpP;rw[hq,if_pos rfl])
 have hl:=quotedP_len s.data.toList
 rw[←Lib.size_eq]at hl
 obtain⟨lb,hlb⟩:∃lb:ByteArray,lb=⟨(quotedP s.data.toList).1.toArray⟩:=⟨_,rfl⟩
 have hlz:lb.size≤s.size:=by rw[hlb,Lib.size_eq];exact hl.1
 rw[←hlb]at HQ
 have HLB:=hid (show(quotedP s.data.toList).1=lb.data.toList by rw[hlb])
 rw[HLB.out]at HM
 have hn:=hl.2
 generalize (quotedP s.data.toList).2=n at HQ HM hn
 clear hlb hl HLB hq
 by_cases h0:n=0
 ·subst h0
  have HX:=hid (show mailP s.data.toList=(zeroP,0,90)from HM.out)
  go_enter Tryz.func143,Tryz.ntmps143
  go_wp2_with (first|(go_at_call 218;refine(HP.out _).mono ?_;rintro e w1 ⟨rfl,hb_w1⟩;have HB1:=hid (H0.out.next hb_w1))|(go_at_call 219;refine(HQ.out _).mono ?_;rintro e w2 ⟨rfl,hb_w2⟩;have HB2:=hid (HB1.out.next hb_w2))|(refine wpList_store_blk rfl 26 (.tmp 2) (.tmp 31) rfl w.heap.size ([.bool false,.string ⟨#[]⟩,.string ⟨#[]⟩,.bool false]) rfl rfl pt_size (by simp[Value.oneCell']) (ptC zeroP) _ HB2.out.2 rfl ?_;intro w9 hc9 ho9 hs9 hb9;have HB9:=hid (hb9 w HB2.out.1 (Nat.le_refl _));have HC9:=hid hc9;clear ho9 hs9 hb9 hc9))
  have hl2:=load_pt (cs:=[.bool false,.string ⟨#[]⟩,.string ⟨#[]⟩,.bool false]) HC9.out rfl
  refine bodyPost_ret (v:=.tuple #[.agg ([.bool false,.string ⟨#[]⟩,.string ⟨#[]⟩,.bool false]).toArray,.int .i64 0,.int .i64 90]) (by simp[results,Tryz.results143,asAddr,hl2]) rfl ⟨?_,HB9.out⟩
  rw[HX.out];rfl
 ·have b0:((n:Int)==0)=false:=by rw[beq_eq_false_iff_ne];omega
  have HAt:=(show Hid (∀W,Calls Tryz.prog 218 #[.string (s.extract n s.size),.string ⟨#[64]⟩] W fun e w'=>e=.returned (.bool ((s.data.toList.drop n).head?==some 64))∧Bel W w')from fun W=>by rw[←ext_back];exact hasPre_run _ 64 W (by rw[ByteArray.size_extract];omega))
  cases hat:((s.data.toList.drop n).head?==some 64)with
  |false=>
   rw[hat]at HAt
   have HLo:=(show Hid (∀W,Calls Tryz.prog 63 #[.string (s.extract 0 n)] W fun e w'=>e=.returned (.string ⟨(lowL (s.data.toList.take n)).toArray⟩)∧Bel W w')from fun W=>by rw[←ext_front];exact lower_run _ W (by rw[ByteArray.size_extract];omega))
   have HE:=hid (show(lowL (s.data.toList.take n)==pmL)=((⟨(lowL (s.data.toList.take n)).toArray⟩:ByteArray).toList==[112,111,115,116,109,97,115,116,101,114]) by rw[ByteArray.toList_eq];rfl)
   have HT:=hid (show mailP s.data.toList=if(lowL (s.data.toList.take n)==pmL)then(⟨false,pmL,[],false⟩,n,0)else(zeroP,0,90) by rw[HM.out];unfold tailP;rw[if_neg h0,hat,if_neg Bool.false_ne_true])
   rw[HE.out]at HT
   clear HE
   generalize (⟨(lowL (s.data.toList.take n)).toArray⟩:ByteArray)=lo at HLo HT
   cases hpm:(lo.toList==[112,111,115,116,109,97,115,116,101,114])with
   |false=>
    have HX:=hid (show mailP s.data.toList=(zeroP,0,90) by rw[HT.out,hpm,if_neg Bool.false_ne_true])
    go_enter Tryz.func143,Tryz.ntmps143
    go_wp2_with (first|(go_at_call 218;refine(HP.out _).mono ?_;rintro e w1 ⟨rfl,hb_w1⟩;have HB1:=hid (H0.out.next hb_w1))|(go_at_call 219;refine(HQ.out _).mono ?_;rintro e w2 ⟨rfl,hb_w2⟩;have HB2:=hid (HB1.out.next hb_w2))|(go_at_call 218;refine(HAt.out _).mono ?_;rintro e w5 ⟨rfl,hb_w5⟩;have HB5:=hid (HB2.out.next hb_w5))|(go_at_call 63;refine(HLo.out _).mono ?_;rintro e w6 ⟨rfl,hb_w6⟩;have HB6:=hid (HB5.out.next hb_w6))|(refine wpList_store_blk rfl 26 (.tmp 2) (.tmp 43) rfl w.heap.size ([.bool false,.string ⟨#[]⟩,.string ⟨#[]⟩,.bool false]) rfl rfl pt_size (by simp[Value.oneCell']) (ptC zeroP) _ HB6.out.2 rfl ?_;intro w9 hc9 ho9 hs9 hb9;have HB9:=hid (hb9 w HB6.out.1 (Nat.le_refl _));have HC9:=hid hc9;clear ho9 hs9 hb9 hc9))
    have hl2:=load_pt (cs:=[.bool false,.string ⟨#[]⟩,.string ⟨#[]⟩,.bool false]) HC9.out rfl
    refine bodyPost_ret (v:=.tuple #[.agg ([.bool false,.string ⟨#[]⟩,.string ⟨#[]⟩,.bool false]).toArray,.int .i64 0,.int .i64 90]) (by simp[results,Tryz.results143,asAddr,hl2]) rfl ⟨?_,HB9.out⟩
    rw[HX.out];rfl
   |true=>
    have HX:=hid (show mailP s.data.toList=(⟨false,pmL,[],false⟩,n,0) by rw[HT.out,hpm,if_pos rfl])
    go_enter Tryz.func143,Tryz.ntmps143
    go_wp2_with (first|(go_at_call 218;refine(HP.out _).mono ?_;rintro e w1 ⟨rfl,hb_w1⟩;have HB1:=hid (H0.out.next hb_w1))|(go_at_call 219;refine(HQ.out _).mono ?_;rintro e w2 ⟨rfl,hb_w2⟩;have HB2:=hid (HB1.out.next hb_w2))|(go_at_call 218;refine(HAt.out _).mono ?_;rintro e w5 ⟨rfl,hb_w5⟩;have HB5:=hid (HB2.out.next hb_w5))|(go_at_call 63;refine(HLo.out _).mono ?_;rintro e w6 ⟨rfl,hb_w6⟩;have HB6:=hid (HB5.out.next hb_w6))|(refine wpList_store_blk rfl 26 (.tmp 2) (.tmp 44) rfl w.heap.size ([.bool false,.string ⟨#[112,111,115,116,109,97,115,116,101,114]⟩,.string ⟨#[]⟩,.bool false]) rfl rfl pt_size (by simp[Value.oneCell']) (ptC zeroP) _ HB6.out.2 rfl ?_;intro w9 hc9 ho9 hs9 hb9;have HB9:=hid (hb9 w HB6.out.1 (Nat.le_refl _));have HC9:=hid hc9;clear ho9 hs9 hb9 hc9))
    have hl2:=load_pt (cs:=[.bool false,.string ⟨#[112,111,115,116,109,97,115,116,101,114]⟩,.string ⟨#[]⟩,.bool false]) HC9.out rfl
    refine bodyPost_ret (v:=.tuple #[.agg ([.bool false,.string ⟨#[112,111,115,116,109,97,115,116,101,114]⟩,.string ⟨#[]⟩,.bool false]).toArray,.int .i64 n,.int .i64 0]) (by simp[results,Tryz.results143,asAddr,hl2]) rfl ⟨?_,HB9.out⟩
    rw[HX.out];rfl
  |true=>
   rw[hat]at HAt
   have hn1:n+1≤s.size:=by
    refine Nat.lt_of_not_le fun hge=> ?_
    rw[List.drop_eq_nil_of_le (by rw[←Lib.size_eq];omega)]at hat
    cases hat
   have HDm:=(show Hid (∀W,Calls Tryz.prog 220 #[.string (s.extract (n+1) s.size)] W fun e w'=>e=.returned (.string ⟨(domTextP (s.data.toList.drop (n+1))).toArray⟩)∧Bel W w')from fun W=>by rw[←ext_back];exact domText_run _ W (by rw[ByteArray.size_extract];omega))
   have hdl:=domText_len (s.data.toList.drop (n+1))
   rw[List.length_drop,←Lib.size_eq]at hdl
   have HT:Hid (mailP s.data.toList=_):=hid (show mailP s.data.toList=((⟨false,lb.data.toList,(domainQ (domTextP (s.data.toList.drop (n+1)))).1,(domainQ (domTextP (s.data.toList.drop (n+1)))).2.1⟩:Pt),n+1+(domTextP (s.data.toList.drop (n+1))).length,if(domainQ (domTextP (s.data.toList.drop (n+1)))).2.2=0 then rightP ⟨false,lb.data.toList,(domainQ (domTextP (s.data.toList.drop (n+1)))).1,(domainQ (domTextP (s.data.toList.drop (n+1)))).2.1⟩else(domainQ (domTextP (s.data.toList.drop (n+1)))).2.2) by rw[HM.out];unfold tailP;rw[if_neg h0,hat,if_pos rfl])
   generalize domTextP (s.data.toList.drop (n+1))=d at HDm hdl HT
   have hdz:(⟨d.toArray⟩:ByteArray).size=d.length:=by rw[Lib.size_eq]
   have HPd:=(show Hid (∀W,Lay W→Calls Tryz.prog 26 #[.string ⟨d.toArray⟩] W fun e w'=>e=.returned (.tuple #[.string ⟨(domainQ d).1.toArray⟩,.bool (domainQ d).2.1,.int .i64 (domainQ d).2.2])∧Bel W w')from fun W hW=>pdomain_run ⟨d.toArray⟩ W hW (by omega))
   have hds:=dom_size d
   generalize domainQ d=D at HPd HT hds
   obtain⟨dm,li,de⟩:=D
   simp only at HPd HT hds
   have hz:(⟨dm.toArray⟩:ByteArray).size≤4194304:=by rw[Lib.size_eq];show dm.length≤_;omega
   have hw1:wrap64 (wrap64 ((n:Int)+1)+((⟨d.toArray⟩:ByteArray).size:Int))=((n+1+d.length:Nat):Int):=by rw[hdz];unfold wrap64;omega
   have HR:=(show Hid (∀W,Lay W→Calls Tryz.prog 36 #[.agg #[.bool false,.string lb,.string ⟨dm.toArray⟩,.bool li]] W fun e w'=>e=.returned (.int .i64 (rightP (pOf false lb ⟨dm.toArray⟩ li)))∧Bel W w')from fun W hW=>right_run false lb ⟨dm.toArray⟩ li W hW (by omega) hz)
   have HT2:=hid (show mailP s.data.toList=(pOf false lb ⟨dm.toArray⟩ li,n+1+d.length,if de=0 then rightP (pOf false lb ⟨dm.toArray⟩ li)else de) by rw[HT.out];rfl)
   clear HT hat
   generalize rightP (pOf false lb ⟨dm.toArray⟩ li)=r at HR HT2
   obtain rfl|rfl|rfl:=hds.2
   ·have HX:=hid (show mailP s.data.toList=(pOf false lb ⟨dm.toArray⟩ li,n+1+d.length,r)from HT2.out)
    go_enter Tryz.func143,Tryz.ntmps143
    go_wp2_with (first|(go_at_call 218;refine(HP.out _).mono ?_;rintro e w1 ⟨rfl,hb_w1⟩;have HB1:=hid (H0.out.next hb_w1))|(go_at_call 219;refine(HQ.out _).mono ?_;rintro e w2 ⟨rfl,hb_w2⟩;have HB2:=hid (HB1.out.next hb_w2))|(go_at_call 218;refine(HAt.out _).mono ?_;rintro e w5 ⟨rfl,hb_w5⟩;have HB5:=hid (HB2.out.next hb_w5))|(go_at_call 220;refine(HDm.out _).mono ?_;rintro e w6 ⟨rfl,hb_w6⟩;have HB6:=hid (HB5.out.next hb_w6))|(go_at_call 26;refine(HPd.out _ (HW.out.next HB6.out.1)).mono ?_;rintro e w7 ⟨rfl,hb_w7⟩;have HB7:=hid (HB6.out.next hb_w7))|(refine wpList_store_blk rfl 26 (.tmp 11) (.tmp 60) rfl w7.heap.size ([.bool false,.string lb,.string ⟨dm.toArray⟩,.bool li]) rfl rfl pt_size (by simp[Value.oneCell']) (ptC zeroP) _ (heap_alloc_new w7 _) rfl ?_;intro w8 hc8 ho8 hs8 hb8;have HB8:=hid (HB7.out.next (hb8 w7 ((Bel.refl w7).alloc _) (Nat.le_refl _)));have HC8:=hid hc8;clear ho8 hs8 hb8 hc8)|(refine wpList_load_mid rfl 26 (.tmp 11) rfl w7.heap.size 0 rfl [.bool false,.string lb,.string ⟨dm.toArray⟩,.bool li] _ (range_pt HC8.out) Tryz.underlying26 rfl pt_size ?_)|(go_at_call 36;refine(HR.out _ (HW.out.next HB8.out.1)).mono ?_;rintro e wa ⟨rfl,hb_a⟩;have HBa:=hid (HB8.out.next hb_a);have HCa:=hid (hb_a.heap HC8.out))|(refine wpList_load_mid rfl 26 (.tmp 11) rfl w7.heap.size 0 rfl [.bool false,.string lb,.string ⟨dm.toArray⟩,.bool li] _ (range_pt HCa.out) Tryz.underlying26 rfl pt_size ?_)|(refine wpList_store_blk rfl 26 (.tmp 2) (.tmp 65) rfl w.heap.size ([.bool false,.string lb,.string ⟨dm.toArray⟩,.bool li]) rfl rfl pt_size (by simp[Value.oneCell']) (ptC zeroP) _ HBa.out.2 rfl ?_;intro w9 hc9 ho9 hs9 hb9;have HB9:=hid (hb9 w HBa.out.1 (Nat.le_refl _));have HC9:=hid hc9;clear ho9 hs9 hb9 hc9))
    have hl2:=load_pt (cs:=[.bool false,.string lb,.string ⟨dm.toArray⟩,.bool li]) HC9.out rfl
    refine bodyPost_ret (v:=.tuple #[.agg ([.bool false,.string lb,.string ⟨dm.toArray⟩,.bool li]).toArray,.int .i64 ((n+1+d.length:Nat):Int),.int .i64 r]) (by simp[results,Tryz.results143,asAddr,hl2]) rfl ⟨?_,HB9.out⟩
    rw[HX.out];rfl
   ·have HX:=hid (show mailP s.data.toList=(pOf false lb ⟨dm.toArray⟩ li,n+1+d.length,90)from HT2.out)
    go_enter Tryz.func143,Tryz.ntmps143
    go_wp2_with (first|(go_at_call 218;refine(HP.out _).mono ?_;rintro e w1 ⟨rfl,hb_w1⟩;have HB1:=hid (H0.out.next hb_w1))|(go_at_call 219;refine(HQ.out _).mono ?_;rintro e w2 ⟨rfl,hb_w2⟩;have HB2:=hid (HB1.out.next hb_w2))|(go_at_call 218;refine(HAt.out _).mono ?_;rintro e w5 ⟨rfl,hb_w5⟩;have HB5:=hid (HB2.out.next hb_w5))|(go_at_call 220;refine(HDm.out _).mono ?_;rintro e w6 ⟨rfl,hb_w6⟩;have HB6:=hid (HB5.out.next hb_w6))|(go_at_call 26;refine(HPd.out _ (HW.out.next HB6.out.1)).mono ?_;rintro e w7 ⟨rfl,hb_w7⟩;have HB7:=hid (HB6.out.next hb_w7))|(refine wpList_store_blk rfl 26 (.tmp 11) (.tmp 60) rfl w7.heap.size ([.bool false,.string lb,.string ⟨dm.toArray⟩,.bool li]) rfl rfl pt_size (by simp[Value.oneCell']) (ptC zeroP) _ (heap_alloc_new w7 _) rfl ?_;intro w8 hc8 ho8 hs8 hb8;have HB8:=hid (HB7.out.next (hb8 w7 ((Bel.refl w7).alloc _) (Nat.le_refl _)));have HC8:=hid hc8;clear ho8 hs8 hb8 hc8)|(refine wpList_load_mid rfl 26 (.tmp 11) rfl w7.heap.size 0 rfl [.bool false,.string lb,.string ⟨dm.toArray⟩,.bool li] _ (range_pt HC8.out) Tryz.underlying26 rfl pt_size ?_)|(refine wpList_store_blk rfl 26 (.tmp 2) (.tmp 65) rfl w.heap.size ([.bool false,.string lb,.string ⟨dm.toArray⟩,.bool li]) rfl rfl pt_size (by simp[Value.oneCell']) (ptC zeroP) _ HB8.out.2 rfl ?_;intro w9 hc9 ho9 hs9 hb9;have HB9:=hid (hb9 w HB8.out.1 (Nat.le_refl _));have HC9:=hid hc9;clear ho9 hs9 hb9 hc9))
    have hl2:=load_pt (cs:=[.bool false,.string lb,.string ⟨dm.toArray⟩,.bool li]) HC9.out rfl
    refine bodyPost_ret (v:=.tuple #[.agg ([.bool false,.string lb,.string ⟨dm.toArray⟩,.bool li]).toArray,.int .i64 ((n+1+d.length:Nat):Int),.int .i64 90]) (by simp[results,Tryz.results143,asAddr,hl2]) rfl ⟨?_,HB9.out⟩
    rw[HX.out];rfl
   ·have HX:=hid (show mailP s.data.toList=(pOf false lb ⟨dm.toArray⟩ li,n+1+d.length,91)from HT2.out)
    go_enter Tryz.func143,Tryz.ntmps143
    go_wp2_with (first|(go_at_call 218;refine(HP.out _).mono ?_;rintro e w1 ⟨rfl,hb_w1⟩;have HB1:=hid (H0.out.next hb_w1))|(go_at_call 219;refine(HQ.out _).mono ?_;rintro e w2 ⟨rfl,hb_w2⟩;have HB2:=hid (HB1.out.next hb_w2))|(go_at_call 218;refine(HAt.out _).mono ?_;rintro e w5 ⟨rfl,hb_w5⟩;have HB5:=hid (HB2.out.next hb_w5))|(go_at_call 220;refine(HDm.out _).mono ?_;rintro e w6 ⟨rfl,hb_w6⟩;have HB6:=hid (HB5.out.next hb_w6))|(go_at_call 26;refine(HPd.out _ (HW.out.next HB6.out.1)).mono ?_;rintro e w7 ⟨rfl,hb_w7⟩;have HB7:=hid (HB6.out.next hb_w7))|(refine wpList_store_blk rfl 26 (.tmp 11) (.tmp 60) rfl w7.heap.size ([.bool false,.string lb,.string ⟨dm.toArray⟩,.bool li]) rfl rfl pt_size (by simp[Value.oneCell']) (ptC zeroP) _ (heap_alloc_new w7 _) rfl ?_;intro w8 hc8 ho8 hs8 hb8;have HB8:=hid (HB7.out.next (hb8 w7 ((Bel.refl w7).alloc _) (Nat.le_refl _)));have HC8:=hid hc8;clear ho8 hs8 hb8 hc8)|(refine wpList_load_mid rfl 26 (.tmp 11) rfl w7.heap.size 0 rfl [.bool false,.string lb,.string ⟨dm.toArray⟩,.bool li] _ (range_pt HC8.out) Tryz.underlying26 rfl pt_size ?_)|(refine wpList_store_blk rfl 26 (.tmp 2) (.tmp 65) rfl w.heap.size ([.bool false,.string lb,.string ⟨dm.toArray⟩,.bool li]) rfl rfl pt_size (by simp[Value.oneCell']) (ptC zeroP) _ HB8.out.2 rfl ?_;intro w9 hc9 ho9 hs9 hb9;have HB9:=hid (hb9 w HB8.out.1 (Nat.le_refl _));have HC9:=hid hc9;clear ho9 hs9 hb9 hc9))
    have hl2:=load_pt (cs:=[.bool false,.string lb,.string ⟨dm.toArray⟩,.bool li]) HC9.out rfl
    refine bodyPost_ret (v:=.tuple #[.agg ([.bool false,.string lb,.string ⟨dm.toArray⟩,.bool li]).toArray,.int .i64 ((n+1+d.length:Nat):Int),.int .i64 91]) (by simp[results,Tryz.results143,asAddr,hl2]) rfl ⟨?_,HB9.out⟩
    rw[HX.out];rfl
end Go.Proofs.YtmlmkmhkmifnkaaGreatDoor.Ma
namespace Go.Proofs.YtmlmkmhkmifnkaaGreatDoor.Ma
open Go.RowKit
open Ci (Bel Lay)
theorem mail_d(s:ByteArray)(w:World)(hw:Lay w)(hs:s.size≤4000000)(hq:(s.data.toList.head?==some 34)=false)(hd:dottedQ (s.data.toList.take (whN atdL s.data.toList))=true):Calls Tryz.prog 143 #[.string s] w fun e w'=>e=.returned (.tuple #[.agg (ptC (mailP s.data.toList).1).toArray,.int .i64 (mailP s.data.toList).2.1,.int .i64 (mailP s.data.toList).2.2])∧Bel w w':=by
 have HW:=hid hw
 have H0:=hid (mbI_new w)
 have HP:=(show Hid (∀W,Calls Tryz.prog 218 #[.string s,.string ⟨#[34]⟩] W fun e w'=>e=.returned (.bool false)∧Bel W w')from fun W=>by rw[←hq];exact hasPre_run s 34 W (by omega))
 have hn:=whN_le atdL s.data.toList
 rw[←Lib.size_eq]at hn
 have HWh:=(show Hid (∀W,Calls Tryz.prog 201 #[.string s,.string ⟨atdL.toArray⟩] W fun e w'=>e=.returned (.int .i64 (whN atdL s.data.toList:Nat))∧w'=W)from fun W=>while_run s ⟨atdL.toArray⟩ W (by omega))
 have HM:Hid (mailP s.data.toList=tailP s.data.toList (s.data.toList.take (whN atdL s.data.toList)) (whN atdL s.data.toList)):=hid (by unfold mailP lpP;rw[hq,if_neg Bool.false_ne_true,hd,if_pos rfl])
 generalize whN atdL s.data.toList=n at HWh HM hn hd
 have HDt:=(show Hid (∀W,Lay W→Calls Tryz.prog 157 #[.string (s.extract 0 n)] W fun e w'=>e=.returned (.bool true)∧Bel W w')from fun W hW=>by rw[←hd,←ext_front];exact dotted_run _ W hW (by rw[ByteArray.size_extract];omega))
 have hlz:(s.extract 0 n).size≤s.size:=by rw[ByteArray.size_extract];omega
 have HLB:=hid (show s.data.toList.take n=(s.extract 0 n).data.toList by rw[ext_front])
 rw[HLB.out]at HM
 have h0:¬n=0:=by
  rintro rfl
  exact absurd hd (by rw[List.take_zero];decide)
 clear hd hq
 ·have b0:((n:Int)==0)=false:=by rw[beq_eq_false_iff_ne];omega
  have HAt:=(show Hid (∀W,Calls Tryz.prog 218 #[.string (s.extract n s.size),.string ⟨#[64]⟩] W fun e w'=>e=.returned (.bool ((s.data.toList.drop n).head?==some 64))∧Bel W w')from fun W=>by rw[←ext_back];exact hasPre_run _ 64 W (by rw[ByteArray.size_extract];omega))
  cases hat:((s.data.toList.drop n).head?==some 64)with
  |false=>
   rw[hat]at HAt
   have HLo:=(show Hid (∀W,Calls Tryz.prog 63 #[.string (s.extract 0 n)] W fun e w'=>e=.returned (.string ⟨(lowL (s.data.toList.take n)).toArray⟩)∧Bel W w')from fun W=>by rw[←ext_front];exact lower_run _ W (by rw[ByteArray.size_extract];omega))
   have HE:=hid (show(lowL (s.data.toList.take n)==pmL)=((⟨(lowL (s.data.toList.take n)).toArray⟩:ByteArray).toList==[112,111,115,116,109,97,115,116,101,114]) by rw[ByteArray.toList_eq];rfl)
   have HT:=hid (show mailP s.data.toList=if(lowL (s.data.toList.take n)==pmL)then(⟨false,pmL,[],false⟩,n,0)else(zeroP,0,90) by rw[HM.out];unfold tailP;rw[if_neg h0,hat,if_neg Bool.false_ne_true])
   rw[HE.out]at HT
   clear HE
   generalize (⟨(lowL (s.data.toList.take n)).toArray⟩:ByteArray)=lo at HLo HT
   cases hpm:(lo.toList==[112,111,115,116,109,97,115,116,101,114])with
   |false=>
    have HX:=hid (show mailP s.data.toList=(zeroP,0,90) by rw[HT.out,hpm,if_neg Bool.false_ne_true])
    go_enter Tryz.func143,Tryz.ntmps143
    go_wp2_with (first|(go_at_call 218;refine(HP.out _).mono ?_;rintro e w1 ⟨rfl,hb_w1⟩;have HB1:=hid (H0.out.next hb_w1))|(go_at_call 201;refine(HWh.out _).mono ?_;rintro e w2 ⟨rfl,rfl⟩)|(go_at_call 157;refine(HDt.out _ (HW.out.next HB1.out.1)).mono ?_;rintro e w3 ⟨rfl,hb_w3⟩;have HB3:=hid (HB1.out.next hb_w3))|(go_at_call 218;refine(HAt.out _).mono ?_;rintro e w5 ⟨rfl,hb_w5⟩;have HB5:=hid (HB3.out.next hb_w5))|(go_at_call 63;refine(HLo.out _).mono ?_;rintro e w6 ⟨rfl,hb_w6⟩;have HB6:=hid (HB5.out.next hb_w6))|(refine wpList_store_blk rfl 26 (.tmp 2) (.tmp 43) rfl w.heap.size ([.bool false,.string ⟨#[]⟩,.string ⟨#[]⟩,.bool false]) rfl rfl pt_size (by simp[Value.oneCell']) (ptC zeroP) _ HB6.out.2 rfl ?_;intro w9 hc9 ho9 hs9 hb9;have HB9:=hid (hb9 w HB6.out.1 (Nat.le_refl _));have HC9:=hid hc9;clear ho9 hs9 hb9 hc9))
    have hl2:=load_pt (cs:=[.bool false,.string ⟨#[]⟩,.string ⟨#[]⟩,.bool false]) HC9.out rfl
    refine bodyPost_ret (v:=.tuple #[.agg ([.bool false,.string ⟨#[]⟩,.string ⟨#[]⟩,.bool false]).toArray,.int .i64 0,.int .i64 90]) (by simp[results,Tryz.results143,asAddr,hl2]) rfl ⟨?_,HB9.out⟩
    rw[HX.out];rfl
   |true=>
    have HX:=hid (show mailP s.data.toList=(⟨false,pmL,[],false⟩,n,0) by rw[HT.out,hpm,if_pos rfl])
    go_enter Tryz.func143,Tryz.ntmps143
    go_wp2_with (first|(go_at_call 218;refine(HP.out _).mono ?_;rintro e w1 ⟨rfl,hb_w1⟩;have HB1:=hid (H0.out.next hb_w1))|(go_at_call 201;refine(HWh.out _).mono ?_;rintro e w2 ⟨rfl,rfl⟩)|(go_at_call 157;refine(HDt.out _ (HW.out.next HB1.out.1)).mono ?_;rintro e w3 ⟨rfl,hb_w3⟩;have HB3:=hid (HB1.out.next hb_w3))|(go_at_call 218;refine(HAt.out _).mono ?_;rintro e w5 ⟨rfl,hb_w5⟩;have HB5:=hid (HB3.out.next hb_w5))|(go_at_call 63;refine(HLo.out _).mono ?_;rintro e w6 ⟨rfl,hb_w6⟩;have HB6:=hid (HB5.out.next hb_w6))|(refine wpList_store_blk rfl 26 (.tmp 2) (.tmp 44) rfl w.heap.size ([.bool false,.string ⟨#[112,111,115,116,109,97,115,116,101,114]⟩,.string ⟨#[]⟩,.bool false]) rfl rfl pt_size (by simp[Value.oneCell']) (ptC zeroP) _ HB6.out.2 rfl ?_;intro w9 hc9 ho9 hs9 hb9;have HB9:=hid (hb9 w HB6.out.1 (Nat.le_refl _));have HC9:=hid hc9;clear ho9 hs9 hb9 hc9))
    have hl2:=load_pt (cs:=[.bool false,.string ⟨#[112,111,115,116,109,97,115,116,101,114]⟩,.string ⟨#[]⟩,.bool false]) HC9.out rfl
    refine bodyPost_ret (v:=.tuple #[.agg ([.bool false,.string ⟨#[112,111,115,116,109,97,115,116,101,114]⟩,.string ⟨#[]⟩,.bool false]).toArray,.int .i64 n,.int .i64 0]) (by simp[results,Tryz.results143,asAddr,hl2]) rfl ⟨?_,HB9.out⟩
    rw[HX.out];rfl
  |true=>
   rw[hat]at HAt
   have hn1:n+1≤s.size:=by
    refine Nat.lt_of_not_le fun hge=> ?_
    rw[List.drop_eq_nil_of_le (by rw[←Lib.size_eq];omega)]at hat
    cases hat
   have HDm:=(show Hid (∀W,Calls Tryz.prog 220 #[.string (s.extract (n+1) s.size)] W fun e w'=>e=.returned (.string ⟨(domTextP (s.data.toList.drop (n+1))).toArray⟩)∧Bel W w')from fun W=>by rw[←ext_back];exact domText_run _ W (by rw[ByteArray.size_extract];omega))
   have hdl:=domText_len (s.data.toList.drop (n+1))
   rw[List.length_drop,←Lib.size_eq]at hdl
   have HT:Hid (mailP s.data.toList=_):=hid (show mailP s.data.toList=((⟨false,(s.extract 0 n).data.toList,(domainQ (domTextP (s.data.toList.drop (n+1)))).1,(domainQ (domTextP (s.data.toList.drop (n+1)))).2.1⟩:Pt),n+1+(domTextP (s.data.toList.drop (n+1))).length,if(domainQ (domTextP (s.data.toList.drop (n+1)))).2.2=0 then rightP ⟨false,(s.extract 0 n).data.toList,(domainQ (domTextP (s.data.toList.drop (n+1)))).1,(domainQ (domTextP (s.data.toList.drop (n+1)))).2.1⟩else(domainQ (domTextP (s.data.toList.drop (n+1)))).2.2) by rw[HM.out];unfold tailP;rw[if_neg h0,hat,if_pos rfl])
   generalize domTextP (s.data.toList.drop (n+1))=d at HDm hdl HT
   have hdz:(⟨d.toArray⟩:ByteArray).size=d.length:=by rw[Lib.size_eq]
   have HPd:=(show Hid (∀W,Lay W→Calls Tryz.prog 26 #[.string ⟨d.toArray⟩] W fun e w'=>e=.returned (.tuple #[.string ⟨(domainQ d).1.toArray⟩,.bool (domainQ d).2.1,.int .i64 (domainQ d).2.2])∧Bel W w')from fun W hW=>pdomain_run ⟨d.toArray⟩ W hW (by omega))
   have hds:=dom_size d
   generalize domainQ d=D at HPd HT hds
   obtain⟨dm,li,de⟩:=D
   simp only at HPd HT hds
   have hz:(⟨dm.toArray⟩:ByteArray).size≤4194304:=by rw[Lib.size_eq];show dm.length≤_;omega
   have hw1:wrap64 (wrap64 ((n:Int)+1)+((⟨d.toArray⟩:ByteArray).size:Int))=((n+1+d.length:Nat):Int):=by rw[hdz];unfold wrap64;omega
   have HR:=(show Hid (∀W,Lay W→Calls Tryz.prog 36 #[.agg #[.bool false,.string (s.extract 0 n),.string ⟨dm.toArray⟩,.bool li]] W fun e w'=>e=.returned (.int .i64 (rightP (pOf false (s.extract 0 n) ⟨dm.toArray⟩ li)))∧Bel W w')from fun W hW=>right_run false (s.extract 0 n) ⟨dm.toArray⟩ li W hW (by omega) hz)
   have HT2:=hid (show mailP s.data.toList=(pOf false (s.extract 0 n) ⟨dm.toArray⟩ li,n+1+d.length,if de=0 then rightP (pOf false (s.extract 0 n) ⟨dm.toArray⟩ li)else de) by rw[HT.out];rfl)
   clear HT hat
   generalize rightP (pOf false (s.extract 0 n) ⟨dm.toArray⟩ li)=r at HR HT2
   obtain rfl|rfl|rfl:=hds.2
   ·have HX:=hid (show mailP s.data.toList=(pOf false (s.extract 0 n) ⟨dm.toArray⟩ li,n+1+d.length,r)from HT2.out)
    go_enter Tryz.func143,Tryz.ntmps143
    go_wp2_with (first|(go_at_call 218;refine(HP.out _).mono ?_;rintro e w1 ⟨rfl,hb_w1⟩;have HB1:=hid (H0.out.next hb_w1))|(go_at_call 201;refine(HWh.out _).mono ?_;rintro e w2 ⟨rfl,rfl⟩)|(go_at_call 157;refine(HDt.out _ (HW.out.next HB1.out.1)).mono ?_;rintro e w3 ⟨rfl,hb_w3⟩;have HB3:=hid (HB1.out.next hb_w3))|(go_at_call 218;refine(HAt.out _).mono ?_;rintro e w5 ⟨rfl,hb_w5⟩;have HB5:=hid (HB3.out.next hb_w5))|(go_at_call 220;refine(HDm.out _).mono ?_;rintro e w6 ⟨rfl,hb_w6⟩;have HB6:=hid (HB5.out.next hb_w6))|(go_at_call 26;refine(HPd.out _ (HW.out.next HB6.out.1)).mono ?_;rintro e w7 ⟨rfl,hb_w7⟩;have HB7:=hid (HB6.out.next hb_w7))|(refine wpList_store_blk rfl 26 (.tmp 11) (.tmp 60) rfl w7.heap.size ([.bool false,.string (s.extract 0 n),.string ⟨dm.toArray⟩,.bool li]) rfl rfl pt_size (by simp[Value.oneCell']) (ptC zeroP) _ (heap_alloc_new w7 _) rfl ?_;intro w8 hc8 ho8 hs8 hb8;have HB8:=hid (HB7.out.next (hb8 w7 ((Bel.refl w7).alloc _) (Nat.le_refl _)));have HC8:=hid hc8;clear ho8 hs8 hb8 hc8)|(refine wpList_load_mid rfl 26 (.tmp 11) rfl w7.heap.size 0 rfl [.bool false,.string (s.extract 0 n),.string ⟨dm.toArray⟩,.bool li] _ (range_pt HC8.out) Tryz.underlying26 rfl pt_size ?_)|(go_at_call 36;refine(HR.out _ (HW.out.next HB8.out.1)).mono ?_;rintro e wa ⟨rfl,hb_a⟩;have HBa:=hid (HB8.out.next hb_a);have HCa:=hid (hb_a.heap HC8.out))|(refine wpList_load_mid rfl 26 (.tmp 11) rfl w7.heap.size 0 rfl [.bool false,.string (s.extract 0 n),.string ⟨dm.toArray⟩,.bool li] _ (range_pt HCa.out) Tryz.underlying26 rfl pt_size ?_)|(refine wpList_store_blk rfl 26 (.tmp 2) (.tmp 65) rfl w.heap.size ([.bool false,.string (s.extract 0 n),.string ⟨dm.toArray⟩,.bool li]) rfl rfl pt_size (by simp[Value.oneCell']) (ptC zeroP) _ HBa.out.2 rfl ?_;intro w9 hc9 ho9 hs9 hb9;have HB9:=hid (hb9 w HBa.out.1 (Nat.le_refl _));have HC9:=hid hc9;clear ho9 hs9 hb9 hc9))
    have hl2:=load_pt (cs:=[.bool false,.string (s.extract 0 n),.string ⟨dm.toArray⟩,.bool li]) HC9.out rfl
    refine bodyPost_ret (v:=.tuple #[.agg ([.bool false,.string (s.extract 0 n),.string ⟨dm.toArray⟩,.bool li]).toArray,.int .i64 ((n+1+d.length:Nat):Int),.int .i64 r]) (by simp[results,Tryz.results143,asAddr,hl2]) rfl ⟨?_,HB9.out⟩
    rw[HX.out];rfl
   ·have HX:=hid (show mailP s.data.toList=(pOf false (s.extract 0 n) ⟨dm.toArray⟩ li,n+1+d.length,90)from HT2.out)
    go_enter Tryz.func143,Tryz.ntmps143
    go_wp2_with (first|(go_at_call 218;refine(HP.out _).mono ?_;rintro e w1 ⟨rfl,hb_w1⟩;have HB1:=hid (H0.out.next hb_w1))|(go_at_call 201;refine(HWh.out _).mono ?_;rintro e w2 ⟨rfl,rfl⟩)|(go_at_call 157;refine(HDt.out _ (HW.out.next HB1.out.1)).mono ?_;rintro e w3 ⟨rfl,hb_w3⟩;have HB3:=hid (HB1.out.next hb_w3))|(go_at_call 218;refine(HAt.out _).mono ?_;rintro e w5 ⟨rfl,hb_w5⟩;have HB5:=hid (HB3.out.next hb_w5))|(go_at_call 220;refine(HDm.out _).mono ?_;rintro e w6 ⟨rfl,hb_w6⟩;have HB6:=hid (HB5.out.next hb_w6))|(go_at_call 26;refine(HPd.out _ (HW.out.next HB6.out.1)).mono ?_;rintro e w7 ⟨rfl,hb_w7⟩;have HB7:=hid (HB6.out.next hb_w7))|(refine wpList_store_blk rfl 26 (.tmp 11) (.tmp 60) rfl w7.heap.size ([.bool false,.string (s.extract 0 n),.string ⟨dm.toArray⟩,.bool li]) rfl rfl pt_size (by simp[Value.oneCell']) (ptC zeroP) _ (heap_alloc_new w7 _) rfl ?_;intro w8 hc8 ho8 hs8 hb8;have HB8:=hid (HB7.out.next (hb8 w7 ((Bel.refl w7).alloc _) (Nat.le_refl _)));have HC8:=hid hc8;clear ho8 hs8 hb8 hc8)|(refine wpList_load_mid rfl 26 (.tmp 11) rfl w7.heap.size 0 rfl [.bool false,.string (s.extract 0 n),.string ⟨dm.toArray⟩,.bool li] _ (range_pt HC8.out) Tryz.underlying26 rfl pt_size ?_)|(refine wpList_store_blk rfl 26 (.tmp 2) (.tmp 65) rfl w.heap.size ([.bool false,.string (s.extract 0 n),.string ⟨dm.toArray⟩,.bool li]) rfl rfl pt_size (by simp[Value.oneCell']) (ptC zeroP) _ HB8.out.2 rfl ?_;intro w9 hc9 ho9 hs9 hb9;have HB9:=hid (hb9 w HB8.out.1 (Nat.le_refl _));have HC9:=hid hc9;clear ho9 hs9 hb9 hc9))
    have hl2:=load_pt (cs:=[.bool false,.string (s.extract 0 n),.string ⟨dm.toArray⟩,.bool li]) HC9.out rfl
    refine bodyPost_ret (v:=.tuple #[.agg ([.bool false,.string (s.extract 0 n),.string ⟨dm.toArray⟩,.bool li]).toArray,.int .i64 ((n+1+d.length:Nat):Int),.int .i64 90]) (by simp[results,Tryz.results143,asAddr,hl2]) rfl ⟨?_,HB9.out⟩
    rw[HX.out];rfl
   ·have HX:=hid (show mailP s.data.toList=(pOf false (s.extract 0 n) ⟨dm.toArray⟩ li,n+1+d.length,91)from HT2.out)
    go_enter Tryz.func143,Tryz.ntmps143
    go_wp2_with (first|(go_at_call 218;refine(HP.out _).mono ?_;rintro e w1 ⟨rfl,hb_w1⟩;have HB1:=hid (H0.out.next hb_w1))|(go_at_call 201;refine(HWh.out _).mono ?_;rintro e w2 ⟨rfl,rfl⟩)|(go_at_call 157;refine(HDt.out _ (HW.out.next HB1.out.1)).mono ?_;rintro e w3 ⟨rfl,hb_w3⟩;have HB3:=hid (HB1.out.next hb_w3))|(go_at_call 218;refine(HAt.out _).mono ?_;rintro e w5 ⟨rfl,hb_w5⟩;have HB5:=hid (HB3.out.next hb_w5))|(go_at_call 220;refine(HDm.out _).mono ?_;rintro e w6 ⟨rfl,hb_w6⟩;have HB6:=hid (HB5.out.next hb_w6))|(go_at_call 26;refine(HPd.out _ (HW.out.next HB6.out.1)).mono ?_;rintro e w7 ⟨rfl,hb_w7⟩;have HB7:=hid (HB6.out.next hb_w7))|(refine wpList_store_blk rfl 26 (.tmp 11) (.tmp 60) rfl w7.heap.size ([.bool false,.string (s.extract 0 n),.string ⟨dm.toArray⟩,.bool li]) rfl rfl pt_size (by simp[Value.oneCell']) (ptC zeroP) _ (heap_alloc_new w7 _) rfl ?_;intro w8 hc8 ho8 hs8 hb8;have HB8:=hid (HB7.out.next (hb8 w7 ((Bel.refl w7).alloc _) (Nat.le_refl _)));have HC8:=hid hc8;clear ho8 hs8 hb8 hc8)|(refine wpList_load_mid rfl 26 (.tmp 11) rfl w7.heap.size 0 rfl [.bool false,.string (s.extract 0 n),.string ⟨dm.toArray⟩,.bool li] _ (range_pt HC8.out) Tryz.underlying26 rfl pt_size ?_)|(refine wpList_store_blk rfl 26 (.tmp 2) (.tmp 65) rfl w.heap.size ([.bool false,.string (s.extract 0 n),.string ⟨dm.toArray⟩,.bool li]) rfl rfl pt_size (by simp[Value.oneCell']) (ptC zeroP) _ HB8.out.2 rfl ?_;intro w9 hc9 ho9 hs9 hb9;have HB9:=hid (hb9 w HB8.out.1 (Nat.le_refl _));have HC9:=hid hc9;clear ho9 hs9 hb9 hc9))
    have hl2:=load_pt (cs:=[.bool false,.string (s.extract 0 n),.string ⟨dm.toArray⟩,.bool li]) HC9.out rfl
    refine bodyPost_ret (v:=.tuple #[.agg ([.bool false,.string (s.extract 0 n),.string ⟨dm.toArray⟩,.bool li]).toArray,.int .i64 ((n+1+d.length:Nat):Int),.int .i64 91]) (by simp[results,Tryz.results143,asAddr,hl2]) rfl ⟨?_,HB9.out⟩
    rw[HX.out];rfl
end Go.Proofs.YtmlmkmhkmifnkaaGreatDoor.Ma
namespace Go.Proofs.YtmlmkmhkmifnkaaGreatDoor.Ma
open Go.RowKit
open Ci (Bel Lay)
theorem mail_n(s:ByteArray)(w:World)(hw:Lay w)(hs:s.size≤4000000)(hq:(s.data.toList.head?==some 34)=false)(hd:dottedQ (s.data.toList.take (whN atdL s.data.toList))=false):Calls Tryz.prog 143 #[.string s] w fun e w'=>e=.returned (.tuple #[.agg (ptC (mailP s.data.toList).1).toArray,.int .i64 (mailP s.data.toList).2.1,.int .i64 (mailP s.data.toList).2.2])∧Bel w w':=by
 have HW:=hid hw
 have H0:=hid (mbI_new w)
 have HP:=(show Hid (∀W,Calls Tryz.prog 218 #[.string s,.string ⟨#[34]⟩] W fun e w'=>e=.returned (.bool false)∧Bel W w')from fun W=>by rw[←hq];exact hasPre_run s 34 W (by omega))
 have hn:=whN_le atdL s.data.toList
 rw[←Lib.size_eq]at hn
 have HWh:=(show Hid (∀W,Calls Tryz.prog 201 #[.string s,.string ⟨atdL.toArray⟩] W fun e w'=>e=.returned (.int .i64 (whN atdL s.data.toList:Nat))∧w'=W)from fun W=>while_run s ⟨atdL.toArray⟩ W (by omega))
 have HX:=hid (show mailP s.data.toList=(zeroP,0,90) by unfold mailP lpP;rw[hq,if_neg Bool.false_ne_true,hd,if_neg Bool.false_ne_true];rfl)
 generalize whN atdL s.data.toList=n at HWh hn hd
 have HDt:=(show Hid (∀W,Lay W→Calls Tryz.prog 157 #[.string (s.extract 0 n)] W fun e w'=>e=.returned (.bool false)∧Bel W w')from fun W hW=>by rw[←hd,←ext_front];exact dotted_run _ W hW (by rw[ByteArray.size_extract];omega))
 clear hd hq
 go_enter Tryz.func143,Tryz.ntmps143
 go_wp2_with (first|(go_at_call 218;refine(HP.out _).mono ?_;rintro e w1 ⟨rfl,hb_w1⟩;have HB1:=hid (H0.out.next hb_w1))|(go_at_call 201;refine(HWh.out _).mono ?_;rintro e w2 ⟨rfl,rfl⟩)|(go_at_call 157;refine(HDt.out _ (HW.out.next HB1.out.1)).mono ?_;rintro e w3 ⟨rfl,hb_w3⟩;have HB3:=hid (HB1.out.next hb_w3))|(refine wpList_store_blk rfl 26 (.tmp 2) (.tmp 31) rfl w.heap.size ([.bool false,.string ⟨#[]⟩,.string ⟨#[]⟩,.bool false]) rfl rfl pt_size (by simp[Value.oneCell']) (ptC zeroP) _ HB3.out.2 rfl ?_;intro w9 hc9 ho9 hs9 hb9;have HB9:=hid (hb9 w HB3.out.1 (Nat.le_refl _));have HC9:=hid hc9;clear ho9 hs9 hb9 hc9))
 have hl2:=load_pt (cs:=[.bool false,.string ⟨#[]⟩,.string ⟨#[]⟩,.bool false]) HC9.out rfl
 refine bodyPost_ret (v:=.tuple #[.agg ([.bool false,.string ⟨#[]⟩,.string ⟨#[]⟩,.bool false]).toArray,.int .i64 0,.int .i64 90]) (by simp[results,Tryz.results143,asAddr,hl2]) rfl ⟨?_,HB9.out⟩
 rw[HX.out];rfl
theorem pmailbox_run(s:ByteArray)(w:World)(hw:Lay w)(hs:s.size≤4000000):Calls Tryz.prog 143 #[.string s] w fun e w'=>e=.returned (.tuple #[.agg (ptC (mailP s.data.toList).1).toArray,.int .i64 (mailP s.data.toList).2.1,.int .i64 (mailP s.data.toList).2.2])∧Bel w w':=by
 cases hq:(s.data.toList.head?==some 34)with
 |true=>exact mail_q s w hw hs hq
 |false=>cases hd:dottedQ (s.data.toList.take (whN atdL s.data.toList))with
  |true=>exact mail_d s w hw hs hq hd
  |false=>exact mail_n s w hw hs hq hd
end Go.Proofs.YtmlmkmhkmifnkaaGreatDoor.Ma
namespace Go.Proofs.YtmlmkmhkmifnkaaGreatDoor.Ma
open Go.RowKit
open Ci (Bel Lay)
def mbQ(s:List UInt8):Pt×Int:=
 if s=[]then(⟨true,[],[],false⟩,0)
 else if(mailP s).2.2=90∨(mailP s).2.1<s.length then(zeroP,90)
 else if(mailP s).2.2≠0 then(zeroP,(mailP s).2.2)
 else((mailP s).1,0)
theorem Mailbox_run(s:ByteArray)(w:World)(hw:Lay w)(hs:s.size≤4000000):Calls Tryz.prog 72 #[.string s] w fun e w'=>e=.returned (.tuple #[.agg (ptC (mbQ s.data.toList).1).toArray,.int .i64 (mbQ s.data.toList).2])∧Bel w w':=by
 have HW:=hid hw
 have H0:=hid (mbI_new w)
 have hsz:=Lib.size_eq s
 by_cases h0:s.data.toList=[]
 ·have hb:s.toList.isEmpty=true:=by rw[ByteArray.toList_eq,h0];rfl
  have hb2:(s.toList==[])=true:=by rw[ByteArray.toList_eq,h0];rfl
  have HX:=hid (show mbQ s.data.toList=(⟨true,[],[],false⟩,0) by rw[h0];rfl)
  clear h0 hsz
  go_enter Tryz.func72,Tryz.ntmps72
  go_wp2_with (first|(refine wpList_store_blk rfl 26 (.tmp 2) (.tmp 9) rfl w.heap.size ([.bool true,.string ⟨#[]⟩,.string ⟨#[]⟩,.bool false]) rfl rfl pt_size (by simp[Value.oneCell']) (ptC zeroP) _ H0.out.2 rfl ?_;intro w9 hc9 ho9 hs9 hb9;have HB9:=hid (hb9 w H0.out.1 (Nat.le_refl _));have HC9:=hid hc9;clear ho9 hs9 hb9 hc9))
  have hl2:=load_pt (cs:=[.bool true,.string ⟨#[]⟩,.string ⟨#[]⟩,.bool false]) HC9.out rfl
  refine bodyPost_ret (v:=.tuple #[.agg ([.bool true,.string ⟨#[]⟩,.string ⟨#[]⟩,.bool false]).toArray,.int .i64 0]) (by simp[results,Tryz.results72,asAddr,hl2]) rfl ⟨?_,HB9.out⟩
  rw[HX.out];rfl
 ·have hb:s.toList.isEmpty=false:=by
   rw[ByteArray.toList_eq]
   cases h:s.data.toList with
   |nil=>exact absurd h h0
   |cons=>rfl
  have hb2:(s.toList==[])=false:=by
   rw[ByteArray.toList_eq]
   cases h:s.data.toList with
   |nil=>exact absurd h h0
   |cons=>rfl
  have HM:=(show Hid (∀W,Lay W→Calls Tryz.prog 143 #[.string s] W fun e w'=>e=.returned (.tuple #[.agg (ptC (mailP s.data.toList).1).toArray,.int .i64 (mailP s.data.toList).2.1,.int .i64 (mailP s.data.toList).2.2])∧Bel W w')from fun W hW=>pmailbox_run s W hW hs)
  have HX:Hid (mbQ s.data.toList=if(mailP s.data.toList).2.2=90∨(mailP s.data.toList).2.1<s.size then(zeroP,90)else if(mailP s.data.toList).2.2≠0 then(zeroP,(mailP s.data.toList).2.2)else((mailP s.data.toList).1,0)):=hid (by unfold mbQ;rw[if_neg h0,←hsz])
  generalize mailP s.data.toList=M at HM HX
  obtain⟨p,n,e⟩:=M
  simp only at HM HX
  clear h0 hsz
  by_cases h1:e=90
  ·subst h1
   have HY:=hid (show mbQ s.data.toList=(zeroP,90) by rw[HX.out,if_pos (.inl rfl)])
   go_enter Tryz.func72,Tryz.ntmps72
   go_wp2_with (first|(go_at_call 143;refine(HM.out _ (HW.out.next H0.out.1)).mono ?_;rintro e w1 ⟨rfl,hb_w1⟩;have HB1:=hid (H0.out.next hb_w1);clear hb_w1)|(refine wpList_store_blk rfl 26 (.tmp 4) (.tmp 13) rfl w1.heap.size (ptC p) rfl rfl pt_size (ptC_one p) (ptC zeroP) _ (heap_alloc_new w1 _) rfl ?_;intro w2 hc2 ho2 hs2 hb2;have HB2:=hid (HB1.out.next (hb2 w1 ((Bel.refl w1).alloc _) (Nat.le_refl _)));have HC2:=hid hc2;clear ho2 hs2 hb2 hc2)|(refine wpList_store_blk rfl 26 (.tmp 2) (.tmp 25) rfl w.heap.size ([.bool false,.string ⟨#[]⟩,.string ⟨#[]⟩,.bool false]) rfl rfl pt_size (by simp[Value.oneCell']) (ptC zeroP) _ HB2.out.2 rfl ?_;intro w9 hc9 ho9 hs9 hb9;have HB9:=hid (hb9 w HB2.out.1 (Nat.le_refl _));have HC9:=hid hc9;clear ho9 hs9 hb9 hc9))
   have hl2:=load_pt (cs:=[.bool false,.string ⟨#[]⟩,.string ⟨#[]⟩,.bool false]) HC9.out rfl
   refine bodyPost_ret (v:=.tuple #[.agg ([.bool false,.string ⟨#[]⟩,.string ⟨#[]⟩,.bool false]).toArray,.int .i64 90]) (by simp[results,Tryz.results72,asAddr,hl2]) rfl ⟨?_,HB9.out⟩
   rw[HY.out];rfl
  ·have b1:(e==90)=false:=by simpa using h1
   by_cases h2:n<s.size
   ·have b2:decide ((n:Int)<(s.size:Int))=true:=decide_eq_true (by omega)
    have HY:=hid (show mbQ s.data.toList=(zeroP,90) by rw[HX.out,if_pos (.inr h2)])
    go_enter Tryz.func72,Tryz.ntmps72
    go_wp2_with (first|(go_at_call 143;refine(HM.out _ (HW.out.next H0.out.1)).mono ?_;rintro e w1 ⟨rfl,hb_w1⟩;have HB1:=hid (H0.out.next hb_w1);clear hb_w1)|(refine wpList_store_blk rfl 26 (.tmp 4) (.tmp 13) rfl w1.heap.size (ptC p) rfl rfl pt_size (ptC_one p) (ptC zeroP) _ (heap_alloc_new w1 _) rfl ?_;intro w2 hc2 ho2 hs2 hb2;have HB2:=hid (HB1.out.next (hb2 w1 ((Bel.refl w1).alloc _) (Nat.le_refl _)));have HC2:=hid hc2;clear ho2 hs2 hb2 hc2)|(refine wpList_store_blk rfl 26 (.tmp 2) (.tmp 25) rfl w.heap.size ([.bool false,.string ⟨#[]⟩,.string ⟨#[]⟩,.bool false]) rfl rfl pt_size (by simp[Value.oneCell']) (ptC zeroP) _ HB2.out.2 rfl ?_;intro w9 hc9 ho9 hs9 hb9;have HB9:=hid (hb9 w HB2.out.1 (Nat.le_refl _));have HC9:=hid hc9;clear ho9 hs9 hb9 hc9))
    have hl2:=load_pt (cs:=[.bool false,.string ⟨#[]⟩,.string ⟨#[]⟩,.bool false]) HC9.out rfl
    refine bodyPost_ret (v:=.tuple #[.agg ([.bool false,.string ⟨#[]⟩,.string ⟨#[]⟩,.bool false]).toArray,.int .i64 90]) (by simp[results,Tryz.results72,asAddr,hl2]) rfl ⟨?_,HB9.out⟩
    rw[HY.out];rfl
   ·have b2:decide ((n:Int)<(s.size:Int))=false:=decide_eq_false (by omega)
    have HX2:=hid (show mbQ s.data.toList=if e≠0 then(zeroP,e)else(p,0) by rw[HX.out,if_neg (by rintro(h|h);exact h1 h;exact h2 h)])
    by_cases h3:e=0
    ·subst h3
     have HY:=hid (show mbQ s.data.toList=(p,0)from HX2.out)
     go_enter Tryz.func72,Tryz.ntmps72
     go_wp2_with (first|(go_at_call 143;refine(HM.out _ (HW.out.next H0.out.1)).mono ?_;rintro e w1 ⟨rfl,hb_w1⟩;have HB1:=hid (H0.out.next hb_w1);clear hb_w1)|(refine wpList_store_blk rfl 26 (.tmp 4) (.tmp 13) rfl w1.heap.size (ptC p) rfl rfl pt_size (ptC_one p) (ptC zeroP) _ (heap_alloc_new w1 _) rfl ?_;intro w2 hc2 ho2 hs2 hb2;have HB2:=hid (HB1.out.next (hb2 w1 ((Bel.refl w1).alloc _) (Nat.le_refl _)));have HC2:=hid hc2;clear ho2 hs2 hb2 hc2)|(refine wpList_load_mid rfl 26 (.tmp 4) rfl w1.heap.size 0 rfl (ptC p) _ (ptC_range HC2.out) Tryz.underlying26 rfl pt_size ?_)|(refine wpList_store_blk rfl 26 (.tmp 2) (.tmp 31) rfl w.heap.size (ptC p) rfl rfl pt_size (ptC_one _) (ptC zeroP) _ HB2.out.2 rfl ?_;intro w9 hc9 ho9 hs9 hb9;have HB9:=hid (hb9 w HB2.out.1 (Nat.le_refl _));have HC9:=hid hc9;clear ho9 hs9 hb9 hc9))
     have hl2:=load_pt (cs:=ptC p) HC9.out rfl
     refine bodyPost_ret (v:=.tuple #[.agg (ptC p).toArray,.int .i64 0]) (by simp[results,Tryz.results72,asAddr,hl2]) rfl ⟨?_,HB9.out⟩
     rw[HY.out]
    ·have b3:(e==0)=false:=by simpa using h3
     have HY:=hid (show mbQ s.data.toList=(zeroP,e) by rw[HX2.out,if_pos h3])
     go_enter Tryz.func72,Tryz.ntmps72
     go_wp2_with (first|(go_at_call 143;refine(HM.out _ (HW.out.next H0.out.1)).mono ?_;rintro e w1 ⟨rfl,hb_w1⟩;have HB1:=hid (H0.out.next hb_w1);clear hb_w1)|(refine wpList_store_blk rfl 26 (.tmp 4) (.tmp 13) rfl w1.heap.size (ptC p) rfl rfl pt_size (ptC_one p) (ptC zeroP) _ (heap_alloc_new w1 _) rfl ?_;intro w2 hc2 ho2 hs2 hb2;have HB2:=hid (HB1.out.next (hb2 w1 ((Bel.refl w1).alloc _) (Nat.le_refl _)));have HC2:=hid hc2;clear ho2 hs2 hb2 hc2)|(refine wpList_store_blk rfl 26 (.tmp 2) (.tmp 29) rfl w.heap.size ([.bool false,.string ⟨#[]⟩,.string ⟨#[]⟩,.bool false]) rfl rfl pt_size (by simp[Value.oneCell']) (ptC zeroP) _ HB2.out.2 rfl ?_;intro w9 hc9 ho9 hs9 hb9;have HB9:=hid (hb9 w HB2.out.1 (Nat.le_refl _));have HC9:=hid hc9;clear ho9 hs9 hb9 hc9))
     have hl2:=load_pt (cs:=[.bool false,.string ⟨#[]⟩,.string ⟨#[]⟩,.bool false]) HC9.out rfl
     refine bodyPost_ret (v:=.tuple #[.agg ([.bool false,.string ⟨#[]⟩,.string ⟨#[]⟩,.bool false]).toArray,.int .i64 e]) (by simp[results,Tryz.results72,asAddr,hl2]) rfl ⟨?_,HB9.out⟩
     rw[HY.out];rfl
end Go.Proofs.YtmlmkmhkmifnkaaGreatDoor.Ma
namespace Go.Proofs.YtmlmkmhkmifnkaaGreatDoor.Tb
open Go.RowKit
open Ci (splitL)
open Ma (Pt)
def bl2:List UInt8:=[32,9]
def isBl(b:UInt8):Bool:=bl2.contains b
def trm(s:List UInt8):List UInt8:=Lib.trimS s bl2
def lowI(r:Int):Int:=if 65≤r∧r≤90 then r+32 else r
def lowR(s:List UInt8):List UInt8:=Lib.mapD lowI s
structure Ln where
 at_:Nat
 key:List UInt8
 pcs:List (List UInt8)
def addPc(pcs:List (List UInt8))(s:List UInt8):List (List UInt8):=if trm s=[]then pcs else pcs++[trm s]
def keyN(s:List UInt8):Nat:=(s.takeWhile fun b=> !isBl b).length
structure Cs where
 at_:Nat
 out:List Ln
 bad:Int
def innerL(s:List UInt8):List UInt8:=Lib.trimLeftS s bl2
def lnOut(at_:Nat)(out:List Ln)(s:List UInt8):List Ln:=
 if trm (innerL s)=[]∨(innerL s).head?=some 35 then out
 else if(innerL s).length=s.length then out++[⟨at_,lowR (s.take (keyN s)),addPc [] (s.drop (keyN s))⟩]
 else match out.getLast? with
  |none=>out
  |some l=>out.dropLast++[⟨l.at_,l.key,addPc l.pcs s⟩]
def lnBad(at_:Nat)(out:List Ln)(bad:Int)(s:List UInt8):Int:=
 if trm (innerL s)=[]∨(innerL s).head?=some 35 then bad
 else if(innerL s).length=s.length then bad
 else if out=[]∧(bad<0∨(at_:Int)<bad)then at_ else bad
def lnStep(c:Cs)(s:List UInt8):Cs:=⟨c.at_+s.length+1,lnOut c.at_ c.out s,lnBad c.at_ c.out c.bad s⟩
def badB(b:UInt8):Bool:=b !=9&&b !=10&&(decide (b.toNat<32)||decide (126<b.toNat))
def badAt(s:List UInt8):Int:=match s.findIdx? badB with
 |some k=>k
 |none=> -1
def cutT(s:List UInt8):Cs:=(splitL 10 s).foldl lnStep ⟨0,[],badAt s⟩
structure En where
 key:List UInt8
 val:List UInt8
def ltK(a b:List UInt8):Bool:=decide (Lib.compareBytes a b<0)
def rank(es:List En)(k:List UInt8):Nat:=es.countP fun e=>ltK e.key k
def foundB(es:List En)(k:List UInt8):Bool:=match es[rank es k]? with
 |some e=>decide (Lib.compareBytes e.key k=0)
 |none=>false
def putE(es:List En)(e:En):List En:=es.take (rank es e.key)++e::es.drop (rank es e.key)
def parseF(bad:Int):List Ln→List En→Option (List En)
 |[],es=>if bad<0 then some es else none
 |x::r,es=>
  if 0≤bad∧bad≤x.at_ then none
  else if 320<x.key.length∨Lib.join x.pcs [32]=[]∨1000<(Lib.join x.pcs [32]).length then none
  else if foundB es x.key then none
  else if es.length=2000 then none
  else parseF bad r (putE es ⟨x.key,Lib.join x.pcs [32]⟩)
def tparse(s:List UInt8):Option (List En):=if 262144<s.length then none else parseF (cutT s).bad (cutT s).out []
def exactQ(es:List En)(k:List UInt8):Option (List UInt8):=if foundB es (lowR k)then(es[rank es (lowR k)]?).map (·.val)else none
def addrQ(es:List En)(l d:List UInt8):Option (List UInt8):=match exactQ es (l++[64]++d)with
 |some v=>some v
 |none=>exactQ es ([64]++d)
def askQ(ts:List (List En))(l d:List UInt8):Option (List UInt8):=ts.findSome? fun es=>addrQ es l d
end Go.Proofs.YtmlmkmhkmifnkaaGreatDoor.Tb
namespace Go.Proofs.YtmlmkmhkmifnkaaGreatDoor.Tb
open Go.RowKit
open Ci (splitL splitL_app)
theorem cmp_nil_l(b:UInt8)(l:List UInt8):Lib.compareBytes [] (b::l)= -1:=by simp[Lib.compareBytes]
theorem cmp_nil_r(b:UInt8)(l:List UInt8):Lib.compareBytes (b::l) []=1:=by simp[Lib.compareBytes]
theorem cmp_nil:Lib.compareBytes [] []=0:=by simp[Lib.compareBytes]
theorem cmp_cons(a b:UInt8)(l m:List UInt8):Lib.compareBytes (a::l) (b::m)=if a<b then -1 else if b<a then 1 else Lib.compareBytes l m:=by
 rw[Lib.compareBytes]
theorem u8_tri(a b:UInt8):a<b∨a=b∨b<a:=by
 rcases Nat.lt_trichotomy a.toNat b.toNat with h|h|h
 ·exact .inl (UInt8.lt_iff_toNat_lt.2 h)
 ·exact .inr (.inl (UInt8.toNat_inj.1 h))
 ·exact .inr (.inr (UInt8.lt_iff_toNat_lt.2 h))
theorem u8_asym{a b:UInt8}(h:a<b):¬b<a:=by
 rw[UInt8.lt_iff_toNat_lt]at*;omega
theorem u8_irr(a:UInt8):¬a<a:=by rw[UInt8.lt_iff_toNat_lt];omega
theorem u8_trans{a b c:UInt8}(h:a<b)(k:b<c):a<c:=by rw[UInt8.lt_iff_toNat_lt]at*;omega
theorem cmp_vals:∀a b:List UInt8,Lib.compareBytes a b= -1∨(Lib.compareBytes a b=0∧a=b)∨Lib.compareBytes a b=1
 |[],[]=>.inr (.inl ⟨cmp_nil,rfl⟩)
 |[],b::l=>.inl (cmp_nil_l b l)
 |a::l,[]=>.inr (.inr (cmp_nil_r a l))
 |a::l,b::m=>by
  rw[cmp_cons]
  rcases u8_tri a b with h|h|h
  ·exact .inl (if_pos h)
  ·subst h
   rw[if_neg (u8_irr a),if_neg (u8_irr a)]
   exact(cmp_vals l m).imp id (Or.imp (fun h=>⟨h.1,by rw[h.2]⟩) id)
  ·rw[if_neg (u8_asym h),if_pos h];exact .inr (.inr rfl)
theorem cmp_self:∀a:List UInt8,Lib.compareBytes a a=0
 |[]=>cmp_nil
 |a::l=>by rw[cmp_cons,if_neg (u8_irr a),if_neg (u8_irr a)];exact cmp_self l
theorem cmp_zero(a b:List UInt8):Lib.compareBytes a b=0↔a=b:=by
 constructor
 ·intro h
  rcases cmp_vals a b with h1|h1|h1
  ·omega
  ·exact h1.2
  ·omega
 ·rintro rfl;exact cmp_self a
theorem cmp_swap:∀a b:List UInt8,Lib.compareBytes a b= -Lib.compareBytes b a
 |[],[]=>by rw[cmp_nil];rfl
 |[],b::l=>by rw[cmp_nil_l,cmp_nil_r]
 |a::l,[]=>by rw[cmp_nil_l,cmp_nil_r];rfl
 |a::l,b::m=>by
  rw[cmp_cons,cmp_cons]
  rcases u8_tri a b with h|h|h
  ·rw[if_pos h,if_neg (u8_asym h),if_pos h]
  ·subst h
   rw[if_neg (u8_irr a),if_neg (u8_irr a),if_neg (u8_irr a),if_neg (u8_irr a)]
   exact cmp_swap l m
  ·rw[if_neg (u8_asym h),if_pos h,if_pos h];rfl
theorem cmp_trans:∀a b c:List UInt8,Lib.compareBytes a b<0→Lib.compareBytes b c<0→Lib.compareBytes a c<0
 |[],b,[],h,k=>by
  cases b with
  |nil=>rw[cmp_nil]at h;omega
  |cons b l=>rw[cmp_nil_r]at k;omega
 |[],_,c::n,_,_=>by rw[cmp_nil_l];omega
 |a::l,[],_,h,_=>by rw[cmp_nil_r]at h;omega
 |a::l,b::m,[],_,k=>by rw[cmp_nil_r]at k;omega
 |a::l,b::m,c::n,h,k=>by
  rw[cmp_cons]at h k⊢
  rcases u8_tri a b with h1|h1|h1
  ·rcases u8_tri b c with h2|h2|h2
   ·rw[if_pos (u8_trans h1 h2)];omega
   ·subst h2;rw[if_pos h1];omega
   ·rw[if_neg (u8_asym h2),if_pos h2]at k;omega
  ·subst h1
   rw[if_neg (u8_irr a),if_neg (u8_irr a)]at h
   rcases u8_tri a c with h2|h2|h2
   ·rw[if_pos h2];omega
   ·subst h2
    rw[if_neg (u8_irr a),if_neg (u8_irr a)]at k⊢
    exact cmp_trans l m n h k
   ·rw[if_neg (u8_asym h2),if_pos h2]at k;omega
  ·rw[if_neg (u8_asym h1),if_pos h1]at h;omega
theorem lt_tri(a b:List UInt8):ltK a b=true∨a=b∨ltK b a=true:=by
 unfold ltK
 rcases cmp_vals a b with h|h|h
 ·exact .inl (by rw[h];rfl)
 ·exact .inr (.inl h.2)
 ·refine .inr (.inr ?_)
  have:=cmp_swap b a
  rw[h]at this
  rw[this];rfl
theorem lt_irr(a:List UInt8):ltK a a=false:=by unfold ltK;rw[cmp_self];rfl
theorem lt_trans{a b c:List UInt8}(h:ltK a b=true)(k:ltK b c=true):ltK a c=true:=by
 unfold ltK at*
 exact decide_eq_true (cmp_trans a b c (of_decide_eq_true h) (of_decide_eq_true k))
theorem lt_asym{a b:List UInt8}(h:ltK a b=true):ltK b a=false:=by
 cases k:ltK b a with
 |false=>rfl
 |true=>have:=lt_trans h k;rw[lt_irr]at this;cases this
def Srt:List En→Prop
 |[]=>True
 |e::es=>(∀x∈es,ltK e.key x.key=true)∧Srt es
def ins(es:List En)(e:En):List En:=match es with
 |[]=>[e]
 |x::r=>if ltK x.key e.key then x::ins r e else e::x::r
def hasK(es:List En)(k:List UInt8):Bool:=es.any fun e=>e.key==k
theorem rank_none{es:List En}{k:List UInt8}(h:∀x∈es,ltK x.key k=false):rank es k=0:=by
 unfold rank
 rw[List.countP_eq_zero]
 intro x hx
 rw[h x hx];simp
theorem rank_le(es:List En)(k:List UInt8):rank es k≤es.length:=List.countP_le_length
theorem put_ins:∀(es:List En) (e:En),Srt es→putE es e=ins es e
 |[],e,_=>rfl
 |x::r,e,h=>by
  unfold ins
  by_cases hx:ltK x.key e.key=true
  ·rw[if_pos hx,←put_ins r e h.2]
   have:rank (x::r) e.key=rank r e.key+1:=by unfold rank;rw[List.countP_cons,if_pos hx]
   unfold putE
   rw[this];rfl
  ·rw[if_neg hx]
   have hf:∀y∈r,ltK y.key e.key=false:=fun y hy=>by
    cases hy2:ltK y.key e.key with
    |false=>rfl
    |true=>exact absurd (lt_trans (h.1 y hy) hy2) hx
   have:rank (x::r) e.key=0:=rank_none fun y hy=>by
    rcases List.mem_cons.1 hy with rfl|hy
    ·simpa using hx
    ·exact hf y hy
   unfold putE
   rw[this];rfl
theorem found_has:∀(es:List En) (k:List UInt8),Srt es→foundB es k=hasK es k
 |[],k,_=>rfl
 |x::r,k,h=>by
  by_cases hx:ltK x.key k=true
  ·have h1:rank (x::r) k=rank r k+1:=by unfold rank;rw[List.countP_cons,if_pos hx]
   have h2:foundB (x::r) k=foundB r k:=by unfold foundB;rw[h1];rfl
   have h3:(x.key==k)=false:=by
    rw[beq_eq_false_iff_ne];rintro e;rw[e,lt_irr]at hx;cases hx
   rw[h2,found_has r k h.2]
   unfold hasK
   rw[List.any_cons,h3,Bool.false_or]
  ·have hx:ltK x.key k=false:=by simpa using hx
   have hf:∀y∈r,ltK y.key k=false∧(y.key==k)=false:=fun y hy=>by
    have:=h.1 y hy
    rcases lt_tri x.key k with h4|h4|h4
    ·rw[h4]at hx;cases hx
    ·rw[h4]at this
     exact⟨lt_asym this,by rw[beq_eq_false_iff_ne];rintro e;rw[e,lt_irr]at this;cases this⟩
    ·have h5:=lt_trans h4 this
     exact⟨lt_asym h5,by rw[beq_eq_false_iff_ne];rintro e;rw[e,lt_irr]at h5;cases h5⟩
   have h1:rank (x::r) k=0:=rank_none fun y hy=>by
    rcases List.mem_cons.1 hy with rfl|hy
    ·exact hx
    ·exact(hf y hy).1
   have h2:foundB (x::r) k=(x.key==k):=by
    unfold foundB
    rw[h1]
    show decide (Lib.compareBytes x.key k=0)=_
    rw[Bool.eq_iff_iff]
    simp[cmp_zero]
   have h3:hasK r k=false:=by
    unfold hasK
    rw[List.any_eq_false]
    intro y hy
    rw[(hf y hy).2];simp
   rw[h2]
   unfold hasK at h3⊢
   rw[List.any_cons,h3,Bool.or_false]
theorem ins_mem:∀(es:List En) (e x:En),x∈ins es e↔x=e∨x∈es
 |[],e,x=>by simp[ins]
 |y::r,e,x=>by
  unfold ins
  split
  ·rw[List.mem_cons,ins_mem r e x,List.mem_cons]
   constructor
   ·rintro(h|h|h)
    ·exact .inr (.inl h)
    ·exact .inl h
    ·exact .inr (.inr h)
   ·rintro(h|h|h)
    ·exact .inr (.inl h)
    ·exact .inl h
    ·exact .inr (.inr h)
  ·rw[List.mem_cons]
theorem ins_len:∀(es:List En) (e:En),(ins es e).length=es.length+1
 |[],_=>rfl
 |y::r,e=>by
  unfold ins
  split
  ·rw[List.length_cons,ins_len r e,List.length_cons]
  ·rfl
theorem ins_srt:∀(es:List En) (e:En),Srt es→hasK es e.key=false→Srt (ins es e)
 |[],e,_,_=>⟨fun x hx=>(by cases hx),trivial⟩
 |y::r,e,h,hk=>by
  unfold hasK at hk
  rw[List.any_cons,Bool.or_eq_false_iff,beq_eq_false_iff_ne]at hk
  unfold ins
  split
  ·rename_i hy
   exact⟨fun x hx=>by
    rcases(ins_mem r e x).1 hx with rfl|hx
    ·exact hy
    ·exact h.1 x hx,ins_srt r e h.2 hk.2⟩
  ·rename_i hy
   have h2:ltK e.key y.key=true:=by
    rcases lt_tri y.key e.key with h3|h3|h3
    ·exact absurd h3 hy
    ·exact absurd h3 hk.1
    ·exact h3
   exact⟨fun x hx=>by
    rcases List.mem_cons.1 hx with rfl|hx
    ·exact h2
    ·exact lt_trans h2 (h.1 x hx),h⟩
theorem parse_bad{bad:Int}(hb:0≤bad):∀(L:List Ln) (es:List En),parseF bad L es=none
 |[],es=>by unfold parseF;rw[if_neg (by omega)]
 |x::r,es=>by
  unfold parseF
  split
  ·rfl
  ·split
   ·rfl
   ·split
    ·rfl
    ·split
     ·rfl
     ·exact parse_bad hb r _
end Go.Proofs.YtmlmkmhkmifnkaaGreatDoor.Tb
namespace Go.Proofs.YtmlmkmhkmifnkaaGreatDoor.Tb
open Go.RowKit
open Ci (splitL splitL_app)
open Ma (lowB lowL)
def skipR(s:List UInt8):Bool:=decide (trm s=[]∨(trm s).head?=some 35)
def blankR(s:List UInt8):Bool:=match s with
 |[]=>false
 |b::_=>isBl b
def addLast(out:List Ln)(p:List UInt8):List Ln:=match out.getLast? with
 |none=>out
 |some l=>out.dropLast++[⟨l.at_,l.key,l.pcs++[p]⟩]
structure Rs where
 at_:Nat
 out:List Ln
 bads:List Nat
def rsStep(c:Rs)(s:List UInt8):Rs:=
 ⟨c.at_+s.length+1,
  if skipR s then c.out else if blankR s then(if c.out=[]then c.out else addLast c.out (trm s))else c.out++[⟨c.at_,s,[]⟩],
  if skipR s then c.bads else if blankR s&&c.out.isEmpty then c.bads++[c.at_]else c.bads⟩
structure LnRel (g r:Ln):Prop where
 at_:g.at_=r.at_
 key:g.key=lowR (r.key.take (keyN r.key))
 pcs:g.pcs=addPc [] (r.key.drop (keyN r.key))++r.pcs
 ne:∀p∈r.pcs,p≠[]
inductive Al:List Ln→List Ln→Prop
 |nil:Al [] []
 |cons {g r:Ln} {a b:List Ln}:LnRel g r→Al a b→Al (g::a) (r::b)
structure RsRel (c:Cs) (r:Rs):Prop where
 at_:c.at_=r.at_
 out:Al c.out r.out
 bad:c.bad<0↔r.bads=[]
end Go.Proofs.YtmlmkmhkmifnkaaGreatDoor.Tb