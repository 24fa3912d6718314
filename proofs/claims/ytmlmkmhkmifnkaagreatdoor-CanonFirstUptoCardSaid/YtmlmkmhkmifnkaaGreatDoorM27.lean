import Derived.Test.YtmlmkmhkmifnkaaGreatDoorM26
import Derived.Test.YtmlmkmhkmifnkaaGreatDoorM12
set_option maxHeartbeats 16000000
set_option maxRecDepth 1000000
namespace Go.Proofs.YtmlmkmhkmifnkaaGreatDoor.Ma
open Go.RowKit
open Ci (Bel Lay)
theorem lpP_len(s:List UInt8):(lpP s).1.length≤s.length∧(lpP s).2≤s.length:=by
 unfold lpP
 split
 ·exact quotedP_len s
 ·split
  ·exact⟨by rw[List.length_take];omega,whN_le _ _⟩
  ·exact⟨Nat.zero_le _,Nat.zero_le _⟩
theorem rmbox_run(s:ByteArray)(w:World)(hs:s.size≤4000000):Calls Tryz.prog 155 #[.string s] w fun e w'=>e=.returned (.tuple #[.agg (ptC (mailP s.data.toList).1).toArray,.int .i64 ((mailP s.data.toList).2.1:Nat),.int .i64 (mailP s.data.toList).2.2])∧Bel w w':=by
 have H0:=hid (mbI_new w)
 have HLc:=(show Hid (∀W,Calls Tryz.prog 226 #[.string s] W fun e w'=>e=.returned (.tuple #[.string ⟨(lpP s.data.toList).1.toArray⟩,.int .i64 ((lpP s.data.toList).2:Nat)])∧Bel W w')from fun W=>rloc_run s W (by omega))
 have HM:=hid (show mailP s.data.toList=tailP s.data.toList (lpP s.data.toList).1 (lpP s.data.toList).2 from rfl)
 have hl:=lpP_len s.data.toList
 rw[←Lib.size_eq]at hl
 obtain⟨lb,hlb⟩:∃lb:ByteArray,lb=⟨(lpP s.data.toList).1.toArray⟩:=⟨_,rfl⟩
 have hlz:lb.size≤s.size:=by rw[hlb,Lib.size_eq];exact hl.1
 rw[←hlb]at HLc
 have HLB:=hid (show(lpP s.data.toList).1=lb.data.toList by rw[hlb])
 rw[HLB.out]at HM
 have hn:=hl.2
 generalize (lpP s.data.toList).2=n at HLc HM hn
 clear hlb hl HLB
 have HSz:=hid (Lib.size_eq s)
 by_cases h0:n=0
 ·subst h0
  have HX:=hid (show mailP s.data.toList=(zeroP,0,90)from HM.out)
  go_enter Tryz.func155,Tryz.ntmps155
  go_wp2_with (first|(go_at_call 226;refine(HLc.out _).mono ?_;rintro e w1 ⟨rfl,hb1⟩;have HB1:=hid (H0.out.next hb1);clear hb1)|((with_reducible refine wpList_store_blk (by with_unfolding_all rfl) 26 (.tmp 2) (.tmp 21) (by with_unfolding_all rfl) w.heap.size ([.bool false,.string ⟨#[]⟩,.string ⟨#[]⟩,.bool false]) (by with_unfolding_all rfl) (by with_unfolding_all rfl) (by with_unfolding_all exact pt_size) (by with_unfolding_all simp[Value.oneCell']) (ptC zeroP) _ (by with_unfolding_all exact HB1.out.2) (by with_unfolding_all rfl) ?_);intro w9 hc9 ho9 hs9 hb9;have HB9:=hid (hb9 w HB1.out.1 (Nat.le_refl _));have HC9:=hid hc9;clear ho9 hs9 hb9 hc9))
  have hl2:=load_pt (cs:=[.bool false,.string ⟨#[]⟩,.string ⟨#[]⟩,.bool false]) HC9.out rfl
  refine bodyPost_ret (v:=.tuple #[.agg ([.bool false,.string ⟨#[]⟩,.string ⟨#[]⟩,.bool false]).toArray,.int .i64 0,.int .i64 90]) (by simp[results,Tryz.results155,asAddr,hl2]) rfl ⟨?_,HB9.out⟩
  rw[HX.out];rfl
 ·have b0:((n:Int)==0)=false:=by rw[beq_eq_false_iff_ne];omega
  cases hat:((s.data.toList.drop n).head?==some 64)with
  |false=>
   have hnt:(n=s.size)∨∃h:n<s.size,s[n]≠64:=by
    rcases Nat.lt_or_ge n s.size with h|h
    ·refine .inr ⟨h,fun e=> ?_⟩
     rw[List.head?_drop,List.getElem?_eq_getElem (by rw[←Lib.size_eq];exact h)]at hat
     have e2:s.data.toList[n]'(by rw[←Lib.size_eq];exact h)=64:=e
     rw[e2]at hat
     cases hat
    ·exact .inl (by omega)
   have HLo:=(show Hid (∀W,Calls Tryz.prog 38 #[.string (s.extract 0 n)] W fun e w'=>e=.returned (.string ⟨(lowL (s.data.toList.take n)).toArray⟩)∧Bel W w')from fun W=>by rw[←ext_front];exact rlower_run _ W (by rw[ByteArray.size_extract];omega))
   have HE:=hid (show(lowL (s.data.toList.take n)==pmL)=((⟨(lowL (s.data.toList.take n)).toArray⟩:ByteArray).toList==[112,111,115,116,109,97,115,116,101,114]) by rw[ByteArray.toList_eq];rfl)
   have HT:=hid (show mailP s.data.toList=if(lowL (s.data.toList.take n)==pmL)then(⟨false,pmL,[],false⟩,n,0)else(zeroP,0,90) by rw[HM.out];unfold tailP;rw[if_neg h0,hat,if_neg Bool.false_ne_true])
   rw[HE.out]at HT
   clear HE
   generalize (⟨(lowL (s.data.toList.take n)).toArray⟩:ByteArray)=lo at HLo HT
   cases hpm:(lo.toList==[112,111,115,116,109,97,115,116,101,114])with
   |false=>
    have HX:=hid (show mailP s.data.toList=(zeroP,0,90) by rw[HT.out,hpm,if_neg Bool.false_ne_true])
    have hpn:¬lo.toList=[112,111,115,116,109,97,115,116,101,114]:=by rw[beq_eq_false_iff_ne]at hpm;exact hpm
    rcases hnt with rfl|⟨hlt,hne⟩
    ·have hext:s.extract 0 s.size=s:=Ci.ext_bytes (by rw[ext_front,List.take_of_length_le (by rw[←Lib.size_eq];exact Nat.le_refl _)])
     rw[hext]at HLo
     clear hext
     go_enter Tryz.func155,Tryz.ntmps155
     go_wp2_with (first|(go_at_call 226;refine(HLc.out _).mono ?_;rintro e w1 ⟨rfl,hb1⟩;have HB1:=hid (H0.out.next hb1);clear hb1)|(go_at_call 38;refine(HLo.out _).mono ?_;rintro e w2 ⟨rfl,hb2⟩;have HB2:=hid (HB1.out.next hb2);clear hb2)|((with_reducible refine wpList_store_blk (by with_unfolding_all rfl) 26 (.tmp 2) (.tmp 38) (by with_unfolding_all rfl) w.heap.size ([.bool false,.string ⟨#[]⟩,.string ⟨#[]⟩,.bool false]) (by with_unfolding_all rfl) (by with_unfolding_all rfl) (by with_unfolding_all exact pt_size) (by with_unfolding_all simp[Value.oneCell']) (ptC zeroP) _ (by with_unfolding_all exact HB2.out.2) (by with_unfolding_all rfl) ?_);intro w9 hc9 ho9 hs9 hb9;have HB9:=hid (hb9 w HB2.out.1 (Nat.le_refl _));have HC9:=hid hc9;clear ho9 hs9 hb9 hc9))
     have hl2:=load_pt (cs:=[.bool false,.string ⟨#[]⟩,.string ⟨#[]⟩,.bool false]) HC9.out rfl
     refine bodyPost_ret (v:=.tuple #[.agg ([.bool false,.string ⟨#[]⟩,.string ⟨#[]⟩,.bool false]).toArray,.int .i64 0,.int .i64 90]) (by simp[results,Tryz.results155,asAddr,hl2]) rfl ⟨?_,HB9.out⟩
     rw[HX.out];rfl
    ·have b1:((n:Int)==(s.size:Int))=false:=by rw[beq_eq_false_iff_ne];omega
     have c1:¬((s[n]'hlt).toNat:Int)=64:=by have:=byte_ne (n:=64) (by decide) hne;rwa[beq_eq_false_iff_ne]at this
     clear hne
     go_enter Tryz.func155,Tryz.ntmps155
     go_wp2_with (first|(go_at_call 226;refine(HLc.out _).mono ?_;rintro e w1 ⟨rfl,hb1⟩;have HB1:=hid (H0.out.next hb1);clear hb1)|(go_at_call 38;refine(HLo.out _).mono ?_;rintro e w2 ⟨rfl,hb2⟩;have HB2:=hid (HB1.out.next hb2);clear hb2)|((with_reducible refine wpList_store_blk (by with_unfolding_all rfl) 26 (.tmp 2) (.tmp 38) (by with_unfolding_all rfl) w.heap.size ([.bool false,.string ⟨#[]⟩,.string ⟨#[]⟩,.bool false]) (by with_unfolding_all rfl) (by with_unfolding_all rfl) (by with_unfolding_all exact pt_size) (by with_unfolding_all simp[Value.oneCell']) (ptC zeroP) _ (by with_unfolding_all exact HB2.out.2) (by with_unfolding_all rfl) ?_);intro w9 hc9 ho9 hs9 hb9;have HB9:=hid (hb9 w HB2.out.1 (Nat.le_refl _));have HC9:=hid hc9;clear ho9 hs9 hb9 hc9))
     have hl2:=load_pt (cs:=[.bool false,.string ⟨#[]⟩,.string ⟨#[]⟩,.bool false]) HC9.out rfl
     refine bodyPost_ret (v:=.tuple #[.agg ([.bool false,.string ⟨#[]⟩,.string ⟨#[]⟩,.bool false]).toArray,.int .i64 0,.int .i64 90]) (by simp[results,Tryz.results155,asAddr,hl2]) rfl ⟨?_,HB9.out⟩
     rw[HX.out];rfl
   |true=>
    have HX:=hid (show mailP s.data.toList=(⟨false,pmL,[],false⟩,n,0) by rw[HT.out,hpm,if_pos rfl])
    have hpe:=beq_iff_eq.1 hpm
    have hlob:lo=⟨#[112,111,115,116,109,97,115,116,101,114]⟩:=by
     rw[ByteArray.toList_eq]at hpe
     exact Ci.ext_bytes hpe
    subst hlob
    clear hpe
    rcases hnt with rfl|⟨hlt,hne⟩
    ·have hext:s.extract 0 s.size=s:=Ci.ext_bytes (by rw[ext_front,List.take_of_length_le (by rw[←Lib.size_eq];exact Nat.le_refl _)])
     rw[hext]at HLo
     clear hext
     go_enter Tryz.func155,Tryz.ntmps155
     go_wp2_with (first|(go_at_call 226;refine(HLc.out _).mono ?_;rintro e w1 ⟨rfl,hb1⟩;have HB1:=hid (H0.out.next hb1);clear hb1)|(go_at_call 38;refine(HLo.out _).mono ?_;rintro e w2 ⟨rfl,hb2⟩;have HB2:=hid (HB1.out.next hb2);clear hb2)|((with_reducible refine wpList_store_blk (by with_unfolding_all rfl) 26 (.tmp 2) (.tmp 40) (by with_unfolding_all rfl) w.heap.size ([.bool false,.string ⟨#[112,111,115,116,109,97,115,116,101,114]⟩,.string ⟨#[]⟩,.bool false]) (by with_unfolding_all rfl) (by with_unfolding_all rfl) (by with_unfolding_all exact pt_size) (by with_unfolding_all simp[Value.oneCell']) (ptC zeroP) _ (by with_unfolding_all exact HB2.out.2) (by with_unfolding_all rfl) ?_);intro w9 hc9 ho9 hs9 hb9;have HB9:=hid (hb9 w HB2.out.1 (Nat.le_refl _));have HC9:=hid hc9;clear ho9 hs9 hb9 hc9))
     have hl2:=load_pt (cs:=[.bool false,.string ⟨#[112,111,115,116,109,97,115,116,101,114]⟩,.string ⟨#[]⟩,.bool false]) HC9.out rfl
     refine bodyPost_ret (v:=.tuple #[.agg ([.bool false,.string ⟨#[112,111,115,116,109,97,115,116,101,114]⟩,.string ⟨#[]⟩,.bool false]).toArray,.int .i64 (s.size:Nat),.int .i64 0]) (by simp[results,Tryz.results155,asAddr,hl2]) rfl ⟨?_,HB9.out⟩
     rw[HX.out];rfl
    ·have b1:((n:Int)==(s.size:Int))=false:=by rw[beq_eq_false_iff_ne];omega
     have c1:¬((s[n]'hlt).toNat:Int)=64:=by have:=byte_ne (n:=64) (by decide) hne;rwa[beq_eq_false_iff_ne]at this
     clear hne
     go_enter Tryz.func155,Tryz.ntmps155
     go_wp2_with (first|(go_at_call 226;refine(HLc.out _).mono ?_;rintro e w1 ⟨rfl,hb1⟩;have HB1:=hid (H0.out.next hb1);clear hb1)|(go_at_call 38;refine(HLo.out _).mono ?_;rintro e w2 ⟨rfl,hb2⟩;have HB2:=hid (HB1.out.next hb2);clear hb2)|((with_reducible refine wpList_store_blk (by with_unfolding_all rfl) 26 (.tmp 2) (.tmp 40) (by with_unfolding_all rfl) w.heap.size ([.bool false,.string ⟨#[112,111,115,116,109,97,115,116,101,114]⟩,.string ⟨#[]⟩,.bool false]) (by with_unfolding_all rfl) (by with_unfolding_all rfl) (by with_unfolding_all exact pt_size) (by with_unfolding_all simp[Value.oneCell']) (ptC zeroP) _ (by with_unfolding_all exact HB2.out.2) (by with_unfolding_all rfl) ?_);intro w9 hc9 ho9 hs9 hb9;have HB9:=hid (hb9 w HB2.out.1 (Nat.le_refl _));have HC9:=hid hc9;clear ho9 hs9 hb9 hc9))
     have hl2:=load_pt (cs:=[.bool false,.string ⟨#[112,111,115,116,109,97,115,116,101,114]⟩,.string ⟨#[]⟩,.bool false]) HC9.out rfl
     refine bodyPost_ret (v:=.tuple #[.agg ([.bool false,.string ⟨#[112,111,115,116,109,97,115,116,101,114]⟩,.string ⟨#[]⟩,.bool false]).toArray,.int .i64 (n:Nat),.int .i64 0]) (by simp[results,Tryz.results155,asAddr,hl2]) rfl ⟨?_,HB9.out⟩
     rw[HX.out];rfl
  |true=>
   have hn1:n+1≤s.size:=by
    refine Nat.lt_of_not_le fun hge=> ?_
    rw[List.drop_eq_nil_of_le (by rw[←Lib.size_eq];omega)]at hat
    cases hat
   have hlt:n<s.size:=hn1
   have c1:((s[n]'hlt).toNat:Int)=64:=by
    rw[List.head?_drop,List.getElem?_eq_getElem (by rw[←Lib.size_eq];exact hlt),beq_iff_eq]at hat
    have e2:s[n]=64:=Option.some.inj hat
    rw[e2];rfl
   have b1:((n:Int)==(s.size:Int))=false:=by rw[beq_eq_false_iff_ne];omega
   have HDm:=(show Hid (∀W,Calls Tryz.prog 227 #[.string (s.extract (n+1) s.size)] W fun e w'=>e=.returned (.tuple #[.string ⟨(domTextP (s.data.toList.drop (n+1))).toArray⟩,.int .i64 ((domTextP (s.data.toList.drop (n+1))).length:Nat)])∧w'=W)from fun W=>by rw[←ext_back];exact rdomt_run _ W (by rw[ByteArray.size_extract];omega))
   have hdl:=domText_len (s.data.toList.drop (n+1))
   rw[List.length_drop,←Lib.size_eq]at hdl
   have HT:=hid (show mailP s.data.toList=((⟨false,lb.data.toList,(domainQ (domTextP (s.data.toList.drop (n+1)))).1,(domainQ (domTextP (s.data.toList.drop (n+1)))).2.1⟩:Pt),n+1+(domTextP (s.data.toList.drop (n+1))).length,if(domainQ (domTextP (s.data.toList.drop (n+1)))).2.2=0 then rightP ⟨false,lb.data.toList,(domainQ (domTextP (s.data.toList.drop (n+1)))).1,(domainQ (domTextP (s.data.toList.drop (n+1)))).2.1⟩else(domainQ (domTextP (s.data.toList.drop (n+1)))).2.2) by rw[HM.out];unfold tailP;rw[if_neg h0,hat,if_pos rfl])
   generalize domTextP (s.data.toList.drop (n+1))=d at HDm hdl HT
   have HPd:=(show Hid (∀W,Calls Tryz.prog 33 #[.string ⟨d.toArray⟩] W fun e w'=>e=.returned (.tuple #[.string ⟨(domainQ d).1.toArray⟩,.bool (domainQ d).2.1,.int .i64 (domainQ d).2.2])∧Bel W w')from fun W=>rdomain_run ⟨d.toArray⟩ W (by rw[Lib.size_eq];show d.length≤_;omega))
   have hds:=dom_size d
   generalize domainQ d=D at HPd HT hds
   obtain⟨dm,li,de⟩:=D
   simp only at HPd HT hds
   have hz:(⟨dm.toArray⟩:ByteArray).size≤4194304:=by rw[Lib.size_eq];show dm.length≤_;omega
   have hw1:wrap64 (wrap64 ((n:Int)+1)+(d.length:Int))=((n+1+d.length:Nat):Int):=by unfold wrap64;omega
   have HRt:=(show Hid (∀W,Calls Tryz.prog 17 #[.agg #[.bool false,.string lb,.string ⟨dm.toArray⟩,.bool li]] W fun e w'=>e=.returned (.int .i64 (rightP (pOf false lb ⟨dm.toArray⟩ li)))∧Bel W w')from fun W=>rright_run false lb ⟨dm.toArray⟩ li W (by omega) hz)
   have HT2:=hid (show mailP s.data.toList=(pOf false lb ⟨dm.toArray⟩ li,n+1+d.length,if de=0 then rightP (pOf false lb ⟨dm.toArray⟩ li)else de) by rw[HT.out];rfl)
   clear HT hat
   generalize rightP (pOf false lb ⟨dm.toArray⟩ li)=r at HRt HT2
   obtain rfl|rfl|rfl:=hds.2
   ·have HX:=hid (show mailP s.data.toList=(pOf false lb ⟨dm.toArray⟩ li,n+1+d.length,r)from HT2.out)
    go_enter Tryz.func155,Tryz.ntmps155
    go_wp2_with (first|(go_at_call 226;refine(HLc.out _).mono ?_;rintro e w1 ⟨rfl,hb1⟩;have HB1:=hid (H0.out.next hb1);clear hb1)|(go_at_call 227;refine(HDm.out _).mono ?_;rintro e w2 ⟨rfl,h2⟩;have h2:=h2.symm;subst h2)|(go_at_call 33;refine(HPd.out _).mono ?_;rintro e w3 ⟨rfl,hb3⟩;have HB3:=hid (HB1.out.next hb3);clear hb3)|((with_reducible refine wpList_store_blk (by with_unfolding_all rfl) 26 (.tmp 13) (.tmp 59) (by with_unfolding_all rfl) w3.heap.size ([.bool false,.string lb,.string ⟨dm.toArray⟩,.bool li]) (by with_unfolding_all rfl) (by with_unfolding_all rfl) (by with_unfolding_all exact pt_size) (by with_unfolding_all simp[Value.oneCell']) (ptC zeroP) _ (by with_unfolding_all exact heap_alloc_new w3 _) (by with_unfolding_all rfl) ?_);intro w4 hc4 ho4 hs4 hb4;have HB34:=hid (hb4 w3 ((Bel.refl w3).alloc _) (Nat.le_refl _));have HB4:=hid (HB3.out.next HB34.out);have HC4:=hid hc4;clear ho4 hs4 hb4 hc4)|((with_reducible refine wpList_load_mid (by with_unfolding_all rfl) 26 (.tmp 13) (by with_unfolding_all rfl) w3.heap.size 0 (by with_unfolding_all rfl) [.bool false,.string lb,.string ⟨dm.toArray⟩,.bool li] _ (by with_unfolding_all exact range_pt HC5.out) Tryz.underlying26 (by with_unfolding_all rfl) (by with_unfolding_all exact pt_size) ?_))|((with_reducible refine wpList_load_mid (by with_unfolding_all rfl) 26 (.tmp 13) (by with_unfolding_all rfl) w3.heap.size 0 (by with_unfolding_all rfl) [.bool false,.string lb,.string ⟨dm.toArray⟩,.bool li] _ (by with_unfolding_all exact range_pt HC4.out) Tryz.underlying26 (by with_unfolding_all rfl) (by with_unfolding_all exact pt_size) ?_))|(go_at_call 17;refine(HRt.out _).mono ?_;rintro e w5 ⟨rfl,hb5⟩;have HB5:=hid (HB4.out.next hb5);have HC5:=hid (hb5.heap HC4.out);clear hb5)|((with_reducible refine wpList_store_blk (by with_unfolding_all rfl) 26 (.tmp 2) (.tmp 64) (by with_unfolding_all rfl) w.heap.size ([.bool false,.string lb,.string ⟨dm.toArray⟩,.bool li]) (by with_unfolding_all rfl) (by with_unfolding_all rfl) (by with_unfolding_all exact pt_size) (by with_unfolding_all simp[Value.oneCell']) (ptC zeroP) _ (by with_unfolding_all exact HB5.out.2) (by with_unfolding_all rfl) ?_);intro w9 hc9 ho9 hs9 hb9;have HB9:=hid (hb9 w HB5.out.1 (Nat.le_refl _));have HC9:=hid hc9;clear ho9 hs9 hb9 hc9))
    have hl2:=load_pt (cs:=[.bool false,.string lb,.string ⟨dm.toArray⟩,.bool li]) HC9.out rfl
    refine bodyPost_ret (v:=.tuple #[.agg ([.bool false,.string lb,.string ⟨dm.toArray⟩,.bool li]).toArray,.int .i64 ((n+1+d.length:Nat):Int),.int .i64 r]) (by simp[results,Tryz.results155,asAddr,hl2]) rfl ⟨?_,HB9.out⟩
    rw[HX.out];rfl
   ·have HX:=hid (show mailP s.data.toList=(pOf false lb ⟨dm.toArray⟩ li,n+1+d.length,90)from HT2.out)
    go_enter Tryz.func155,Tryz.ntmps155
    go_wp2_with (first|(go_at_call 226;refine(HLc.out _).mono ?_;rintro e w1 ⟨rfl,hb1⟩;have HB1:=hid (H0.out.next hb1);clear hb1)|(go_at_call 227;refine(HDm.out _).mono ?_;rintro e w2 ⟨rfl,h2⟩;have h2:=h2.symm;subst h2)|(go_at_call 33;refine(HPd.out _).mono ?_;rintro e w3 ⟨rfl,hb3⟩;have HB3:=hid (HB1.out.next hb3);clear hb3)|((with_reducible refine wpList_store_blk (by with_unfolding_all rfl) 26 (.tmp 13) (.tmp 59) (by with_unfolding_all rfl) w3.heap.size ([.bool false,.string lb,.string ⟨dm.toArray⟩,.bool li]) (by with_unfolding_all rfl) (by with_unfolding_all rfl) (by with_unfolding_all exact pt_size) (by with_unfolding_all simp[Value.oneCell']) (ptC zeroP) _ (by with_unfolding_all exact heap_alloc_new w3 _) (by with_unfolding_all rfl) ?_);intro w4 hc4 ho4 hs4 hb4;have HB34:=hid (hb4 w3 ((Bel.refl w3).alloc _) (Nat.le_refl _));have HB4:=hid (HB3.out.next HB34.out);have HC4:=hid hc4;clear ho4 hs4 hb4 hc4)|((with_reducible refine wpList_load_mid (by with_unfolding_all rfl) 26 (.tmp 13) (by with_unfolding_all rfl) w3.heap.size 0 (by with_unfolding_all rfl) [.bool false,.string lb,.string ⟨dm.toArray⟩,.bool li] _ (by with_unfolding_all exact range_pt HC4.out) Tryz.underlying26 (by with_unfolding_all rfl) (by with_unfolding_all exact pt_size) ?_))|((with_reducible refine wpList_store_blk (by with_unfolding_all rfl) 26 (.tmp 2) (.tmp 64) (by with_unfolding_all rfl) w.heap.size ([.bool false,.string lb,.string ⟨dm.toArray⟩,.bool li]) (by with_unfolding_all rfl) (by with_unfolding_all rfl) (by with_unfolding_all exact pt_size) (by with_unfolding_all simp[Value.oneCell']) (ptC zeroP) _ (by with_unfolding_all exact HB4.out.2) (by with_unfolding_all rfl) ?_);intro w9 hc9 ho9 hs9 hb9;have HB9:=hid (hb9 w HB4.out.1 (Nat.le_refl _));have HC9:=hid hc9;clear ho9 hs9 hb9 hc9))
    have hl2:=load_pt (cs:=[.bool false,.string lb,.string ⟨dm.toArray⟩,.bool li]) HC9.out rfl
    refine bodyPost_ret (v:=.tuple #[.agg ([.bool false,.string lb,.string ⟨dm.toArray⟩,.bool li]).toArray,.int .i64 ((n+1+d.length:Nat):Int),.int .i64 90]) (by simp[results,Tryz.results155,asAddr,hl2]) rfl ⟨?_,HB9.out⟩
    rw[HX.out];rfl
   ·have HX:=hid (show mailP s.data.toList=(pOf false lb ⟨dm.toArray⟩ li,n+1+d.length,91)from HT2.out)
    go_enter Tryz.func155,Tryz.ntmps155
    go_wp2_with (first|(go_at_call 226;refine(HLc.out _).mono ?_;rintro e w1 ⟨rfl,hb1⟩;have HB1:=hid (H0.out.next hb1);clear hb1)|(go_at_call 227;refine(HDm.out _).mono ?_;rintro e w2 ⟨rfl,h2⟩;have h2:=h2.symm;subst h2)|(go_at_call 33;refine(HPd.out _).mono ?_;rintro e w3 ⟨rfl,hb3⟩;have HB3:=hid (HB1.out.next hb3);clear hb3)|((with_reducible refine wpList_store_blk (by with_unfolding_all rfl) 26 (.tmp 13) (.tmp 59) (by with_unfolding_all rfl) w3.heap.size ([.bool false,.string lb,.string ⟨dm.toArray⟩,.bool li]) (by with_unfolding_all rfl) (by with_unfolding_all rfl) (by with_unfolding_all exact pt_size) (by with_unfolding_all simp[Value.oneCell']) (ptC zeroP) _ (by with_unfolding_all exact heap_alloc_new w3 _) (by with_unfolding_all rfl) ?_);intro w4 hc4 ho4 hs4 hb4;have HB34:=hid (hb4 w3 ((Bel.refl w3).alloc _) (Nat.le_refl _));have HB4:=hid (HB3.out.next HB34.out);have HC4:=hid hc4;clear ho4 hs4 hb4 hc4)|((with_reducible refine wpList_load_mid (by with_unfolding_all rfl) 26 (.tmp 13) (by with_unfolding_all rfl) w3.heap.size 0 (by with_unfolding_all rfl) [.bool false,.string lb,.string ⟨dm.toArray⟩,.bool li] _ (by with_unfolding_all exact range_pt HC4.out) Tryz.underlying26 (by with_unfolding_all rfl) (by with_unfolding_all exact pt_size) ?_))|((with_reducible refine wpList_store_blk (by with_unfolding_all rfl) 26 (.tmp 2) (.tmp 64) (by with_unfolding_all rfl) w.heap.size ([.bool false,.string lb,.string ⟨dm.toArray⟩,.bool li]) (by with_unfolding_all rfl) (by with_unfolding_all rfl) (by with_unfolding_all exact pt_size) (by with_unfolding_all simp[Value.oneCell']) (ptC zeroP) _ (by with_unfolding_all exact HB4.out.2) (by with_unfolding_all rfl) ?_);intro w9 hc9 ho9 hs9 hb9;have HB9:=hid (hb9 w HB4.out.1 (Nat.le_refl _));have HC9:=hid hc9;clear ho9 hs9 hb9 hc9))
    have hl2:=load_pt (cs:=[.bool false,.string lb,.string ⟨dm.toArray⟩,.bool li]) HC9.out rfl
    refine bodyPost_ret (v:=.tuple #[.agg ([.bool false,.string lb,.string ⟨dm.toArray⟩,.bool li]).toArray,.int .i64 ((n+1+d.length:Nat):Int),.int .i64 91]) (by simp[results,Tryz.results155,asAddr,hl2]) rfl ⟨?_,HB9.out⟩
    rw[HX.out];rfl
end Go.Proofs.YtmlmkmhkmifnkaaGreatDoor.Ma
namespace Go.Proofs.YtmlmkmhkmifnkaaGreatDoor.Ma
open Go.RowKit
open Ci (Bel Lay)
theorem mailP_len(s:List UInt8):(mailP s).2.1≤s.length:=by
 unfold mailP tailP
 have h1:=(lpP_len s).2
 split
 ·exact Nat.zero_le _
 ·split
  ·rename_i h0 hat
   have h2:=domText_len (s.drop ((lpP s).2+1))
   have hlt:(lpP s).2<s.length:=by
    refine Nat.lt_of_not_le fun hge=> ?_
    rw[List.drop_eq_nil_of_le hge]at hat
    cases hat
   rw[List.length_drop]at h2
   show(lpP s).2+1+(domTextP (s.drop ((lpP s).2+1))).length≤_
   omega
  ·split
   ·exact h1
   ·exact Nat.zero_le _
theorem rMailbox_run(s:ByteArray)(w:World)(hs:s.size≤4000000):Calls Tryz.prog 86 #[.string s] w fun e w'=>e=.returned (.tuple #[.agg (ptC (mbQ s.data.toList).1).toArray,.int .i64 (mbQ s.data.toList).2])∧Bel w w':=by
 have H0:=hid (mbI_new w)
 have HSz:=hid (Lib.size_eq s)
 by_cases h0:s.data.toList=[]
 ·have b0:(s.toList==[])=true:=by rw[ByteArray.toList_eq,h0];rfl
  have HX:=hid (show mbQ s.data.toList=(⟨true,[],[],false⟩,0)from if_pos h0)
  clear h0
  go_enter Tryz.func86,Tryz.ntmps86
  go_wp2_with (first|((with_reducible refine wpList_store_blk (by with_unfolding_all rfl) 26 (.tmp 2) (.tmp 9) (by with_unfolding_all rfl) w.heap.size ([.bool true,.string ⟨#[]⟩,.string ⟨#[]⟩,.bool false]) (by with_unfolding_all rfl) (by with_unfolding_all rfl) (by with_unfolding_all exact pt_size) (by with_unfolding_all simp[Value.oneCell']) (ptC zeroP) _ (by with_unfolding_all exact H0.out.2) (by with_unfolding_all rfl) ?_);intro w9 hc9 ho9 hs9 hb9;have HB9:=hid (hb9 w H0.out.1 (Nat.le_refl _));have HC9:=hid hc9;clear ho9 hs9 hb9 hc9))
  have hl2:=load_pt (cs:=[.bool true,.string ⟨#[]⟩,.string ⟨#[]⟩,.bool false]) HC9.out rfl
  refine bodyPost_ret (v:=.tuple #[.agg ([.bool true,.string ⟨#[]⟩,.string ⟨#[]⟩,.bool false]).toArray,.int .i64 0]) (by simp[results,Tryz.results86,asAddr,hl2]) rfl ⟨?_,HB9.out⟩
  rw[HX.out];rfl
 ·have b0:(s.toList==[])=false:=by
   rw[ByteArray.toList_eq,beq_eq_false_iff_ne];exact h0
  have HMb:=(show Hid (∀W,Calls Tryz.prog 155 #[.string s] W fun e w'=>e=.returned (.tuple #[.agg (ptC (mailP s.data.toList).1).toArray,.int .i64 ((mailP s.data.toList).2.1:Nat),.int .i64 (mailP s.data.toList).2.2])∧Bel W w')from fun W=>rmbox_run s W hs)
  have HQ:=hid (show mbQ s.data.toList=if(mailP s.data.toList).2.2=90∨(mailP s.data.toList).2.1<s.data.toList.length then(zeroP,90)else if(mailP s.data.toList).2.2≠0 then(zeroP,(mailP s.data.toList).2.2)else((mailP s.data.toList).1,0)from if_neg h0)
  have hle:=mailP_len s.data.toList
  rw[←HSz.out]at hle HQ
  generalize mailP s.data.toList=M at HMb HQ hle
  obtain⟨⟨pn,pl,pd,pt⟩,n,er⟩:=M
  simp only at HMb hle
  have HQ:=(show Hid (mbQ s.data.toList=if er=90∨n<s.size then(zeroP,90)else if er≠0 then(zeroP,er)else(⟨pn,pl,pd,pt⟩,0))from HQ.out)
  have HMb:=(show Hid (∀W,Calls Tryz.prog 155 #[.string s] W fun e w'=>e=.returned (.tuple #[.agg #[.bool pn,.string ⟨pl.toArray⟩,.string ⟨pd.toArray⟩,.bool pt],.int .i64 (n:Nat),.int .i64 er])∧Bel W w')from HMb.out)
  clear h0
  by_cases h90:er=90
  ·subst h90
   have HX:=hid (show mbQ s.data.toList=(zeroP,90) by rw[HQ.out,if_pos (.inl rfl)])
   go_enter Tryz.func86,Tryz.ntmps86
   go_wp2_with (first|(go_at_call 155;refine(HMb.out _).mono ?_;rintro e w1 ⟨rfl,hb1⟩;have HB1:=hid (H0.out.next hb1);clear hb1)|((with_reducible refine wpList_store_blk (by with_unfolding_all rfl) 26 (.tmp 4) (.tmp 13) (by with_unfolding_all rfl) w1.heap.size ([.bool pn,.string ⟨pl.toArray⟩,.string ⟨pd.toArray⟩,.bool pt]) (by with_unfolding_all rfl) (by with_unfolding_all rfl) (by with_unfolding_all exact pt_size) (by with_unfolding_all simp[Value.oneCell']) (ptC zeroP) _ (by with_unfolding_all exact heap_alloc_new w1 _) (by with_unfolding_all rfl) ?_);intro w4 hc4 ho4 hs4 hb4;have HB4:=hid (HB1.out.next (hb4 w1 ((Bel.refl w1).alloc _) (Nat.le_refl _)));have HC4:=hid hc4;clear ho4 hs4 hb4 hc4)|((with_reducible refine wpList_store_blk (by with_unfolding_all rfl) 26 (.tmp 2) (.tmp 24) (by with_unfolding_all rfl) w.heap.size ([.bool false,.string ⟨#[]⟩,.string ⟨#[]⟩,.bool false]) (by with_unfolding_all rfl) (by with_unfolding_all rfl) (by with_unfolding_all exact pt_size) (by with_unfolding_all simp[Value.oneCell']) (ptC zeroP) _ (by with_unfolding_all exact HB4.out.2) (by with_unfolding_all rfl) ?_);intro w9 hc9 ho9 hs9 hb9;have HB9:=hid (hb9 w HB4.out.1 (Nat.le_refl _));have HC9:=hid hc9;clear ho9 hs9 hb9 hc9))
   have hl2:=load_pt (cs:=[.bool false,.string ⟨#[]⟩,.string ⟨#[]⟩,.bool false]) HC9.out rfl
   refine bodyPost_ret (v:=.tuple #[.agg ([.bool false,.string ⟨#[]⟩,.string ⟨#[]⟩,.bool false]).toArray,.int .i64 90]) (by simp[results,Tryz.results86,asAddr,hl2]) rfl ⟨?_,HB9.out⟩
   rw[HX.out];rfl
  ·have c90:(er==90)=false:=by rw[beq_eq_false_iff_ne];exact h90
   by_cases hn:n<s.size
   ·have cn:¬(n:Int)=(s.size:Int):=by omega
    have HX:=hid (show mbQ s.data.toList=(zeroP,90) by rw[HQ.out,if_pos (.inr hn)])
    go_enter Tryz.func86,Tryz.ntmps86
    go_wp2_with (first|(go_at_call 155;refine(HMb.out _).mono ?_;rintro e w1 ⟨rfl,hb1⟩;have HB1:=hid (H0.out.next hb1);clear hb1)|((with_reducible refine wpList_store_blk (by with_unfolding_all rfl) 26 (.tmp 4) (.tmp 13) (by with_unfolding_all rfl) w1.heap.size ([.bool pn,.string ⟨pl.toArray⟩,.string ⟨pd.toArray⟩,.bool pt]) (by with_unfolding_all rfl) (by with_unfolding_all rfl) (by with_unfolding_all exact pt_size) (by with_unfolding_all simp[Value.oneCell']) (ptC zeroP) _ (by with_unfolding_all exact heap_alloc_new w1 _) (by with_unfolding_all rfl) ?_);intro w4 hc4 ho4 hs4 hb4;have HB4:=hid (HB1.out.next (hb4 w1 ((Bel.refl w1).alloc _) (Nat.le_refl _)));have HC4:=hid hc4;clear ho4 hs4 hb4 hc4)|((with_reducible refine wpList_store_blk (by with_unfolding_all rfl) 26 (.tmp 2) (.tmp 24) (by with_unfolding_all rfl) w.heap.size ([.bool false,.string ⟨#[]⟩,.string ⟨#[]⟩,.bool false]) (by with_unfolding_all rfl) (by with_unfolding_all rfl) (by with_unfolding_all exact pt_size) (by with_unfolding_all simp[Value.oneCell']) (ptC zeroP) _ (by with_unfolding_all exact HB4.out.2) (by with_unfolding_all rfl) ?_);intro w9 hc9 ho9 hs9 hb9;have HB9:=hid (hb9 w HB4.out.1 (Nat.le_refl _));have HC9:=hid hc9;clear ho9 hs9 hb9 hc9))
    have hl2:=load_pt (cs:=[.bool false,.string ⟨#[]⟩,.string ⟨#[]⟩,.bool false]) HC9.out rfl
    refine bodyPost_ret (v:=.tuple #[.agg ([.bool false,.string ⟨#[]⟩,.string ⟨#[]⟩,.bool false]).toArray,.int .i64 90]) (by simp[results,Tryz.results86,asAddr,hl2]) rfl ⟨?_,HB9.out⟩
    rw[HX.out];rfl
   ·obtain rfl:n=s.size:=by omega
    by_cases he:er=0
    ·subst he
     have HX:=hid (show mbQ s.data.toList=(⟨pn,pl,pd,pt⟩,0) by rw[HQ.out,if_neg (by rintro(f|f);exact h90 f;exact hn f),if_neg (fun f=>f rfl)])
     go_enter Tryz.func86,Tryz.ntmps86
     go_wp2_with (first|(go_at_call 155;refine(HMb.out _).mono ?_;rintro e w1 ⟨rfl,hb1⟩;have HB1:=hid (H0.out.next hb1);clear hb1)|((with_reducible refine wpList_store_blk (by with_unfolding_all rfl) 26 (.tmp 4) (.tmp 13) (by with_unfolding_all rfl) w1.heap.size ([.bool pn,.string ⟨pl.toArray⟩,.string ⟨pd.toArray⟩,.bool pt]) (by with_unfolding_all rfl) (by with_unfolding_all rfl) (by with_unfolding_all exact pt_size) (by with_unfolding_all simp[Value.oneCell']) (ptC zeroP) _ (by with_unfolding_all exact heap_alloc_new w1 _) (by with_unfolding_all rfl) ?_);intro w4 hc4 ho4 hs4 hb4;have HB4:=hid (HB1.out.next (hb4 w1 ((Bel.refl w1).alloc _) (Nat.le_refl _)));have HC4:=hid hc4;clear ho4 hs4 hb4 hc4)|((with_reducible refine wpList_load_mid (by with_unfolding_all rfl) 26 (.tmp 4) (by with_unfolding_all rfl) w1.heap.size 0 (by with_unfolding_all rfl) [.bool pn,.string ⟨pl.toArray⟩,.string ⟨pd.toArray⟩,.bool pt] _ (by with_unfolding_all exact range_pt HC4.out) Tryz.underlying26 (by with_unfolding_all rfl) (by with_unfolding_all exact pt_size) ?_))|((with_reducible refine wpList_store_blk (by with_unfolding_all rfl) 26 (.tmp 2) (.tmp 29) (by with_unfolding_all rfl) w.heap.size ([.bool pn,.string ⟨pl.toArray⟩,.string ⟨pd.toArray⟩,.bool pt]) (by with_unfolding_all rfl) (by with_unfolding_all rfl) (by with_unfolding_all exact pt_size) (by with_unfolding_all simp[Value.oneCell']) (ptC zeroP) _ (by with_unfolding_all exact HB4.out.2) (by with_unfolding_all rfl) ?_);intro w9 hc9 ho9 hs9 hb9;have HB9:=hid (hb9 w HB4.out.1 (Nat.le_refl _));have HC9:=hid hc9;clear ho9 hs9 hb9 hc9))
     have hl2:=load_pt (cs:=[.bool pn,.string ⟨pl.toArray⟩,.string ⟨pd.toArray⟩,.bool pt]) HC9.out rfl
     refine bodyPost_ret (v:=.tuple #[.agg ([.bool pn,.string ⟨pl.toArray⟩,.string ⟨pd.toArray⟩,.bool pt]).toArray,.int .i64 0]) (by simp[results,Tryz.results86,asAddr,hl2]) rfl ⟨?_,HB9.out⟩
     rw[HX.out];rfl
    ·have ce:(er==0)=false:=by rw[beq_eq_false_iff_ne];exact he
     have HX:=hid (show mbQ s.data.toList=(zeroP,er) by rw[HQ.out,if_neg (by rintro(f|f);exact h90 f;exact hn f),if_pos he])
     go_enter Tryz.func86,Tryz.ntmps86
     go_wp2_with (first|(go_at_call 155;refine(HMb.out _).mono ?_;rintro e w1 ⟨rfl,hb1⟩;have HB1:=hid (H0.out.next hb1);clear hb1)|((with_reducible refine wpList_store_blk (by with_unfolding_all rfl) 26 (.tmp 4) (.tmp 13) (by with_unfolding_all rfl) w1.heap.size ([.bool pn,.string ⟨pl.toArray⟩,.string ⟨pd.toArray⟩,.bool pt]) (by with_unfolding_all rfl) (by with_unfolding_all rfl) (by with_unfolding_all exact pt_size) (by with_unfolding_all simp[Value.oneCell']) (ptC zeroP) _ (by with_unfolding_all exact heap_alloc_new w1 _) (by with_unfolding_all rfl) ?_);intro w4 hc4 ho4 hs4 hb4;have HB4:=hid (HB1.out.next (hb4 w1 ((Bel.refl w1).alloc _) (Nat.le_refl _)));have HC4:=hid hc4;clear ho4 hs4 hb4 hc4)|((with_reducible refine wpList_store_blk (by with_unfolding_all rfl) 26 (.tmp 2) (.tmp 27) (by with_unfolding_all rfl) w.heap.size ([.bool false,.string ⟨#[]⟩,.string ⟨#[]⟩,.bool false]) (by with_unfolding_all rfl) (by with_unfolding_all rfl) (by with_unfolding_all exact pt_size) (by with_unfolding_all simp[Value.oneCell']) (ptC zeroP) _ (by with_unfolding_all exact HB4.out.2) (by with_unfolding_all rfl) ?_);intro w9 hc9 ho9 hs9 hb9;have HB9:=hid (hb9 w HB4.out.1 (Nat.le_refl _));have HC9:=hid hc9;clear ho9 hs9 hb9 hc9))
     have hl2:=load_pt (cs:=[.bool false,.string ⟨#[]⟩,.string ⟨#[]⟩,.bool false]) HC9.out rfl
     refine bodyPost_ret (v:=.tuple #[.agg ([.bool false,.string ⟨#[]⟩,.string ⟨#[]⟩,.bool false]).toArray,.int .i64 er]) (by simp[results,Tryz.results86,asAddr,hl2]) rfl ⟨?_,HB9.out⟩
     rw[HX.out];rfl
end Go.Proofs.YtmlmkmhkmifnkaaGreatDoor.Ma
namespace Go.Proofs.YtmlmkmhkmifnkaaGreatDoor.Tb
open Go.RowKit
theorem trimL_pos{b:UInt8}{l:List UInt8}(h:isBl b=true):innerL (b::l)=innerL l:=by
 unfold innerL Lib.trimLeftS
 rw[List.dropWhile_cons_of_pos (show(bl2.contains b)=true from h)]
theorem trimL_neg{b:UInt8}{l:List UInt8}(h:isBl b=false):innerL (b::l)=b::l:=by
 unfold innerL Lib.trimLeftS
 rw[List.dropWhile_cons_of_neg (by unfold isBl at h;rw[h];simp)]
theorem trimR_pos{b:UInt8}{l:List UInt8}(h:isBl b=true):Lib.trimRightS (l++[b]) bl2=Lib.trimRightS l bl2:=by
 unfold Lib.trimRightS
 rw[List.reverse_append,List.reverse_singleton,List.singleton_append,List.dropWhile_cons_of_pos (show(bl2.contains b)=true from h)]
theorem trimR_neg{b:UInt8}{l:List UInt8}(h:isBl b=false):Lib.trimRightS (l++[b]) bl2=l++[b]:=by
 unfold Lib.trimRightS
 rw[List.reverse_append,List.reverse_singleton,List.singleton_append,List.dropWhile_cons_of_neg (by unfold isBl at h;rw[h];simp)]
 simp
theorem trm_alt(s:List UInt8):trm s=Lib.trimRightS (innerL s) bl2:=by
 rw[←trim_left_idem]
 have hi:innerL (innerL s)=innerL s:=by
  unfold innerL Lib.trimLeftS
  cases hx:s.dropWhile (bl2.contains ·)with
  |nil=>rfl
  |cons b l=>
   have hb:¬(bl2.contains b=true):=by
    have:=List.head?_dropWhile_not (bl2.contains ·) s
    rw[hx]at this
    simpa using this
   rw[List.dropWhile_cons_of_neg hb]
 generalize innerL s=t at hi⊢
 unfold trm Lib.trimS
 cases t with
 |nil=>rfl
 |cons b l=>
  have hb:isBl b=false:=by
   cases hb:isBl b with
   |false=>rfl
   |true=>
    rw[trimL_pos hb]at hi
    have:(innerL l).length≤l.length:=by unfold innerL Lib.trimLeftS;exact(List.dropWhile_suffix _).length_le
    rw[hi,List.length_cons]at this
    omega
  have e:Lib.trimRightS (b::l) bl2=b::Lib.trimRightS l bl2:=by
   unfold Lib.trimRightS
   rw[List.reverse_cons,List.dropWhile_append]
   split
   ·rename_i h2
    have h3:l.reverse.dropWhile (bl2.contains ·)=[]:=List.isEmpty_iff.1 h2
    rw[List.dropWhile_cons_of_neg (by unfold isBl at hb;rw[hb];simp),h3];rfl
   ·rw[List.reverse_append];rfl
  rw[e]
  exact trimL_neg hb
theorem bytes_cons{x:ByteArray}(h:0<x.size):x.data.toList=x[0]::(x.extract 1 x.size).data.toList:=by
 have hx:=Lib.extract_to_end x 1
 rw[hx]
 cases hl:x.data.toList with
 |nil=>rw[Lib.size_eq,hl]at h;cases h
 |cons b l=>
  have e:x[0]=b:=by
   show x.data[0]=b
   have e2:x.data.toList[0]'(by rw[hl];simp)=b:=by simp[hl]
   rw[←e2];simp
  rw[e];rfl
theorem bytes_snoc{x:ByteArray}(h:0<x.size):x.data.toList=(x.extract 0 (x.size-1)).data.toList++[x[x.size-1]]:=by
 have hs:=Lib.size_eq x
 have e0:=Lib.extract_data x 0 (x.size-1)
 rw[e0,List.drop_zero,Nat.sub_zero]
 have hlt:x.size-1<x.data.toList.length:=by omega
 have e1:x.data.toList.take (x.size-1+1)=x.data.toList:=List.take_of_length_le (by omega)
 rw[List.take_succ_eq_append_getElem hlt]at e1
 rw[←e1]
 simp
 rfl
end Go.Proofs.YtmlmkmhkmifnkaaGreatDoor.Tb