import Derived.Test.YtmlmkmhkmifnkaaGreatDoorM10
import Derived.Lib.Bytealg
import Derived.Lib.MapU
set_option maxHeartbeats 16000000
set_option maxRecDepth 1000000
namespace Go.Proofs.YtmlmkmhkmifnkaaGreatDoor.Ma
open Go.RowKit
open Ci (Bel Lay)
theorem front_one(s:ByteArray)(c:UInt8)(h:1≤s.size):((s.extract 0 1).toList==[c])=(s.data.toList.head?==some c):=by
 rw[ByteArray.toList_eq,ext_front]
 have hs:=Lib.size_eq s
 cases hl:s.data.toList with
 |nil=>rw[hl]at hs;simp only[List.length_nil]at hs;omega
 |cons b l=>
  simp only[List.take_succ_cons,List.take_zero,List.head?_cons]
  by_cases h:b=c
  ·subst h;simp
  ·have h1:(b==c)=false:=by simpa using h
   rw[Bool.eq_iff_iff]
   simp[h]
theorem hasPre_in(s:ByteArray)(c:UInt8)(w:World)(hs:s.size<9223372036854775807):Calls Tryz.prog 217 #[.string s,.string ⟨#[c]⟩] w fun e w'=>e=.returned (.bool (s.data.toList.head?==some c))∧Bel w w':=by
 by_cases h1:1≤s.size
 ·have HF:=hid (front_one s c h1)
  have b1:decide ((1:Int)≤(s.size:Int))=true:=decide_eq_true (by omega)
  go_enter Tryz.func217,Tryz.ntmps217
  go_wp2_with fail
  go_ret
  exact⟨by rw[←HF.out];rfl,Bel.refl w⟩
 ·have b1:decide ((1:Int)≤(s.size:Int))=false:=decide_eq_false (by omega)
  have HX:=hid (show(s.data.toList.head?==some c)=false by
   have hs:=Lib.size_eq s
   have:s.data.toList=[]:=List.eq_nil_of_length_eq_zero (by omega)
   rw[this];rfl)
  go_enter Tryz.func217,Tryz.ntmps217
  go_wp2_with fail
  go_ret
  exact⟨by rw[HX.out];rfl,Bel.refl w⟩
theorem hasPre_run(s:ByteArray)(c:UInt8)(w:World)(hs:s.size<9223372036854775807):Calls Tryz.prog 218 #[.string s,.string ⟨#[c]⟩] w fun e w'=>e=.returned (.bool (s.data.toList.head?==some c))∧Bel w w':=by
 have HI:=hid (hasPre_in s c w hs)
 generalize (s.data.toList.head?==some c)=b at HI⊢
 go_enter Tryz.func218,Tryz.ntmps218
 go_wp2_with (first|(go_at_call 217;refine HI.out.mono ?_;rintro e w1 ⟨rfl,hb1⟩))
 go_ret
 exact⟨rfl,hb1⟩
def dmL:List UInt8:=[97,98,99,100,101,102,103,104,105,106,107,108,109,110,111,112,113,114,115,116,117,118,119,120,121,122,65,66,67,68,69,70,71,72,73,74,75,76,77,78,79,80,81,82,83,84,85,86,87,88,89,90,48,49,50,51,52,53,54,55,56,57,45,46]
theorem dm_has:∀b:UInt8,dmL.contains b=(ldhB b||b==46):=u8_forall (by decide)
theorem whN_dm(l:List UInt8):whN dmL l=(l.takeWhile fun b=>ldhB b||b==46).length:=by
 unfold whN
 congr 2
 funext b
 exact dm_has b
theorem front_str(s:ByteArray)(n:Nat):s.extract 0 n=⟨(s.data.toList.take n).toArray⟩:=Ci.ext_bytes (by rw[ext_front])
theorem domText_run(s:ByteArray)(w:World)(hs:s.size≤4194304):Calls Tryz.prog 220 #[.string s] w fun e w'=>e=.returned (.string ⟨(domTextP s.data.toList).toArray⟩)∧Bel w w':=by
 have HH:=(show Hid (∀W,Calls Tryz.prog 218 #[.string s,.string ⟨#[91]⟩] W fun e w'=>e=.returned (.bool (s.data.toList.head?==some 91))∧Bel W w')from fun W=>hasPre_run s 91 W (by omega))
 have hsz:=Lib.size_eq s
 cases hb:(s.data.toList.head?==some 91)with
 |true=>
  rw[hb]at HH
  have HI:=(show Hid (∀W,Calls Tryz.prog 168 #[.string s,.int .u8 93] W fun e w'=>e=.returned (.int .i64 (Lib.indexByte s.data.toList 93))∧w'=W)from fun W=>ib_run s 93 W)
  have HD:=hid (show domTextP s.data.toList=s.data.toList.take (if 0≤Lib.indexByte s.data.toList 93 then(Lib.indexByte s.data.toList 93).toNat+1 else 0) by unfold domTextP;rw[hb,if_pos rfl])
  by_cases h0:0≤Lib.indexByte s.data.toList 93
  ·have hl:=index_lt 93 s.data.toList h0
   rw[if_pos h0]at HD
   obtain⟨i,hi⟩:∃i:Nat,Lib.indexByte s.data.toList 93=(i:Int):=⟨_,(Int.toNat_of_nonneg h0).symm⟩
   rw[hi]at HI HD hl
   rw[Int.toNat_natCast]at HD hl
   have hi2:i+1≤s.size:=by omega
   have HF:=hid (front_str s (i+1))
   clear hb h0 hi hl hsz
   go_enter Tryz.func220,Tryz.ntmps220
   go_wp2_with (first|(go_at_call 218;refine(HH.out _).mono ?_;rintro e w1 ⟨rfl,hb1⟩)|(go_at_call 168;refine(HI.out _).mono ?_;rintro e w2 ⟨rfl,rfl⟩))
   go_ret
   exact⟨by rw[HD.out,←HF.out];rfl,hb1⟩
  ·have hm:Lib.indexByte s.data.toList 93= -1:=by have:=Lib.indexByte_ge s.data.toList 93;omega
   rw[if_neg h0]at HD
   rw[hm]at HI
   clear hb h0 hm hsz
   go_enter Tryz.func220,Tryz.ntmps220
   go_wp2_with (first|(go_at_call 218;refine(HH.out _).mono ?_;rintro e w1 ⟨rfl,hb1⟩)|(go_at_call 168;refine(HI.out _).mono ?_;rintro e w2 ⟨rfl,rfl⟩))
   go_ret
   exact⟨by rw[HD.out,List.take_zero];rfl,hb1⟩
 |false=>
  rw[hb]at HH
  have HWh:=(show Hid (∀W,Calls Tryz.prog 201 #[.string s,.string ⟨dmL.toArray⟩] W fun e w'=>e=.returned (.int .i64 (whN dmL s.data.toList:Nat))∧w'=W)from fun W=>while_run s ⟨dmL.toArray⟩ W (by omega))
  have HD:=hid (show domTextP s.data.toList=s.data.toList.take (whN dmL s.data.toList) by unfold domTextP;rw[hb,if_neg Bool.false_ne_true,whN_dm])
  have hle:=whN_le dmL s.data.toList
  generalize whN dmL s.data.toList=n at HWh HD hle
  have hn:n≤s.size:=by omega
  have HF:=hid (front_str s n)
  clear hb hle hsz
  go_enter Tryz.func220,Tryz.ntmps220
  go_wp2_with (first|(go_at_call 218;refine(HH.out _).mono ?_;rintro e w1 ⟨rfl,hb1⟩)|(go_at_call 201;refine(HWh.out _).mono ?_;rintro e w2 ⟨rfl,rfl⟩))
  go_ret
  exact⟨by rw[HD.out,←HF.out];rfl,hb1⟩
end Go.Proofs.YtmlmkmhkmifnkaaGreatDoor.Ma
namespace Go.Proofs.YtmlmkmhkmifnkaaGreatDoor.Ma
open Go.RowKit
open Ci (Bel Lay)
def atdL:List UInt8:=[97,98,99,100,101,102,103,104,105,106,107,108,109,110,111,112,113,114,115,116,117,118,119,120,121,122,65,66,67,68,69,70,71,72,73,74,75,76,77,78,79,80,81,82,83,84,85,86,87,88,89,90,48,49,50,51,52,53,54,55,56,57,33,35,36,37,38,39,42,43,45,47,61,63,94,95,96,123,124,125,126,46]
def zeroP:Pt:=⟨false,[],[],false⟩
def lpP(s:List UInt8):List UInt8×Nat:=
 if s.head?==some 34 then quotedP s else if dottedQ (s.take (whN atdL s))then(s.take (whN atdL s),whN atdL s)else([],0)
def tailP(s loc:List UInt8)(n:Nat):Pt×Nat×Int:=
 if n=0 then(zeroP,0,90)
 else if(s.drop n).head?==some 64 then
  ((⟨false,loc,(domainQ (domTextP (s.drop (n+1)))).1,(domainQ (domTextP (s.drop (n+1)))).2.1⟩:Pt),n+1+(domTextP (s.drop (n+1))).length,
    if(domainQ (domTextP (s.drop (n+1)))).2.2=0 then rightP ⟨false,loc,(domainQ (domTextP (s.drop (n+1)))).1,(domainQ (domTextP (s.drop (n+1)))).2.1⟩else(domainQ (domTextP (s.drop (n+1)))).2.2)
 else if lowL (s.take n)==pmL then(⟨false,pmL,[],false⟩,n,0)else(zeroP,0,90)
def mailP(s:List UInt8):Pt×Nat×Int:=tailP s (lpP s).1 (lpP s).2
theorem locL_len:∀(l b:List UInt8) (n:Nat),locL l=some (b,n)→b.length+1≤n∧n≤l.length
 |[],_,_,h=>by cases h
 |c::t,b,n,h=>by
  unfold locL at h
  split at h
  ·obtain⟨rfl,rfl⟩:=Prod.mk.inj (Option.some.inj h)
   simp
  ·split at h
   ·match t,h with
    |[],h=>cases h
    |d::t',h=>
     simp only at h
     split at h
     ·cases h
     ·obtain⟨⟨b',n'⟩,h1,h2⟩:=Option.map_eq_some_iff.1 h
      obtain⟨rfl,rfl⟩:=Prod.mk.inj h2
      have:=locL_len t' b' n' h1
      simp only[List.length_cons]
      omega
   ·split at h
    ·cases h
    ·obtain⟨⟨b',n'⟩,h1,h2⟩:=Option.map_eq_some_iff.1 h
     obtain⟨rfl,rfl⟩:=Prod.mk.inj h2
     have:=locL_len t b' n' h1
     simp only[List.length_cons]
     omega
theorem quotedP_len(s:List UInt8):(quotedP s).1.length≤s.length∧(quotedP s).2≤s.length:=by
 unfold quotedP
 cases h:locL (s.drop 1)with
 |none=>simp
 |some x=>
  obtain⟨b,n⟩:=x
  have:=locL_len _ _ _ h
  rw[List.length_drop]at this
  simp only
  split
  ·simp
  ·simp only;omega
theorem domText_len(s:List UInt8):(domTextP s).length≤s.length:=by
 unfold domTextP
 split
 ·exact List.length_take_le' _ _
 ·exact List.length_take_le' _ _
def MbI(w W:World):Prop:=Bel w W∧W.heap[w.heap.size]?=some (.cells (ptC zeroP).toArray 26 (0,0))
theorem MbI.next{w W W':World}(h:MbI w W)(hb:Bel W W'):MbI w W':=⟨h.1.trans hb,hb.heap h.2⟩
theorem mbI_new(w:World):MbI w (w.alloc (.cells (ptC zeroP).toArray 26)):=⟨(Bel.refl w).alloc _,heap_alloc_new w _⟩
theorem load_pt{w:World}{b:Nat}{cs:List Value}{T:TypeId}(hc:w.heap[b]?=some (.cells cs.toArray T (0,0)))(hl:cs.length=4):(loadVar 26 ⟨b,0,none⟩).run Tryz.prog w=.ok (.agg cs.toArray) w:=
 run_loadVar_mid w b 0 26 cs _ (Ci.range_of hc fun j v hv=>by rw[Nat.zero_add];simpa using hv) Tryz.underlying26 rfl (by rw[hl];exact pt_size)
end Go.Proofs.YtmlmkmhkmifnkaaGreatDoor.Ma
namespace Go.Proofs.YtmlmkmhkmifnkaaGreatDoor.Ma
open Go.RowKit
open Ci (Bel Lay)
theorem mail_q(s:ByteArray)(w:World)(hw:Lay w)(hs:s.size≤4000000)(hq:(s.data.toList.head?==some 34)=true):Calls Tryz.prog 143 #[.string s] w fun e w'=>e=.returned (.tuple #[.agg (ptC (mailP s.data.toList).1).toArray,.int .i64 (mailP s.data.toList).2.1,.int .i64 (mailP s.data.toList).2.2])∧Bel w w':=by
 have HW:=hid hw
 have H0:=hid (mbI_new w)
 have HP:=(show Hid (∀W,Calls Tryz.prog 218 #[.string s,.string ⟨#[34]⟩] W fun e w'=>e=.returned (.bool true)∧Bel W w')from fun W=>by rw[←hq];exact hasPre_run s 34 W (by omega))
 have HQ:=(show Hid (∀W,Calls Tryz.prog 219 #[.string s] W fun e w'=>e=.returned (.tuple #[.string ⟨(quotedP s.data.toList).1.toArray⟩,.int .i64 (quotedP s.data.toList).2])∧Bel W w')from fun W=>quoted_run s W (by omega))
 have HM:Hid (mailP s.data.toList=tailP s.data.toList (quotedP s.data.toList).1 (quotedP s.data.toList).2):=hid (by unfold mailP lpP;rw[hq,if_pos rfl])
 have hl:=quotedP_len s.data.toList
 rw[←Lib.size_eq]at hl
 obtain⟨lb,hlb⟩:∃lb:ByteArray,lb=⟨(quotedP s.data.toList).1.toArray⟩:=⟨_,rfl⟩
 have hlz:lb.size≤s.size:=by rw[hlb,Lib.size_eq];exact hl.1
 rw[←hlb]at HQ
 have HLB:=hid (show(quotedP s.data.toList).1=lb.data.toList by rw[hlb])
 rw[HLB.out]at HM
 have hn:=hl.2
 generalize (quotedP s.data.toList).2=n at HQ HM hn
 clear hlb hl HLB hq
 by_cases h0:n=0
 ·subst h0
  have HX:=hid (show mailP s.data.toList=(zeroP,0,90)from HM.out)
  go_enter Tryz.func143,Tryz.ntmps143
  go_wp2_with (first|(go_at_call 218;refine(HP.out _).mono ?_;rintro e w1 ⟨rfl,hb_w1⟩;have HB1:=hid (H0.out.next hb_w1))|(go_at_call 219;refine(HQ.out _).mono ?_;rintro e w2 ⟨rfl,hb_w2⟩;have HB2:=hid (HB1.out.next hb_w2))|(refine wpList_store_blk rfl 26 (.tmp 2) (.tmp 31) rfl w.heap.size ([.bool false,.string ⟨#[]⟩,.string ⟨#[]⟩,.bool false]) rfl rfl pt_size (by simp[Value.oneCell']) (ptC zeroP) _ HB2.out.2 rfl ?_;intro w9 hc9 ho9 hs9 hb9;have HB9:=hid (hb9 w HB2.out.1 (Nat.le_refl _));have HC9:=hid hc9;clear ho9 hs9 hb9 hc9))
  have hl2:=load_pt (cs:=[.bool false,.string ⟨#[]⟩,.string ⟨#[]⟩,.bool false]) HC9.out rfl
  refine bodyPost_ret (v:=.tuple #[.agg ([.bool false,.string ⟨#[]⟩,.string ⟨#[]⟩,.bool false]).toArray,.int .i64 0,.int .i64 90]) (by simp[results,Tryz.results143,asAddr,hl2]) rfl ⟨?_,HB9.out⟩
  rw[HX.out];rfl
 ·have b0:((n:Int)==0)=false:=by rw[beq_eq_false_iff_ne];omega
  have HAt:=(show Hid (∀W,Calls Tryz.prog 218 #[.string (s.extract n s.size),.string ⟨#[64]⟩] W fun e w'=>e=.returned (.bool ((s.data.toList.drop n).head?==some 64))∧Bel W w')from fun W=>by rw[←ext_back];exact hasPre_run _ 64 W (by rw[ByteArray.size_extract];omega))
  cases hat:((s.data.toList.drop n).head?==some 64)with
  |false=>
   rw[hat]at HAt
   have HLo:=(show Hid (∀W,Calls Tryz.prog 63 #[.string (s.extract 0 n)] W fun e w'=>e=.returned (.string ⟨(lowL (s.data.toList.take n)).toArray⟩)∧Bel W w')from fun W=>by rw[←ext_front];exact lower_run _ W (by rw[ByteArray.size_extract];omega))
   have HE:=hid (show(lowL (s.data.toList.take n)==pmL)=((⟨(lowL (s.data.toList.take n)).toArray⟩:ByteArray).toList==[112,111,115,116,109,97,115,116,101,114]) by rw[ByteArray.toList_eq];rfl)
   have HT:=hid (show mailP s.data.toList=if(lowL (s.data.toList.take n)==pmL)then(⟨false,pmL,[],false⟩,n,0)else(zeroP,0,90) by rw[HM.out];unfold tailP;rw[if_neg h0,hat,if_neg Bool.false_ne_true])
   rw[HE.out]at HT
   clear HE
   generalize (⟨(lowL (s.data.toList.take n)).toArray⟩:ByteArray)=lo at HLo HT
   cases hpm:(lo.toList==[112,111,115,116,109,97,115,116,101,114])with
   |false=>
    have HX:=hid (show mailP s.data.toList=(zeroP,0,90) by rw[HT.out,hpm,if_neg Bool.false_ne_true])
    go_enter Tryz.func143,Tryz.ntmps143
    go_wp2_with (first|(go_at_call 218;refine(HP.out _).mono ?_;rintro e w1 ⟨rfl,hb_w1⟩;have HB1:=hid (H0.out.next hb_w1))|(go_at_call 219;refine(HQ.out _).mono ?_;rintro e w2 ⟨rfl,hb_w2⟩;have HB2:=hid (HB1.out.next hb_w2))|(go_at_call 218;refine(HAt.out _).mono ?_;rintro e w5 ⟨rfl,hb_w5⟩;have HB5:=hid (HB2.out.next hb_w5))|(go_at_call 63;refine(HLo.out _).mono ?_;rintro e w6 ⟨rfl,hb_w6⟩;have HB6:=hid (HB5.out.next hb_w6))|(refine wpList_store_blk rfl 26 (.tmp 2) (.tmp 43) rfl w.heap.size ([.bool false,.string ⟨#[]⟩,.string ⟨#[]⟩,.bool false]) rfl rfl pt_size (by simp[Value.oneCell']) (ptC zeroP) _ HB6.out.2 rfl ?_;intro w9 hc9 ho9 hs9 hb9;have HB9:=hid (hb9 w HB6.out.1 (Nat.le_refl _));have HC9:=hid hc9;clear ho9 hs9 hb9 hc9))
    have hl2:=load_pt (cs:=[.bool false,.string ⟨#[]⟩,.string ⟨#[]⟩,.bool false]) HC9.out rfl
    refine bodyPost_ret (v:=.tuple #[.agg ([.bool false,.string ⟨#[]⟩,.string ⟨#[]⟩,.bool false]).toArray,.int .i64 0,.int .i64 90]) (by simp[results,Tryz.results143,asAddr,hl2]) rfl ⟨?_,HB9.out⟩
    rw[HX.out];rfl
   |true=>
    have HX:=hid (show mailP s.data.toList=(⟨false,pmL,[],false⟩,n,0) by rw[HT.out,hpm,if_pos rfl])
    go_enter Tryz.func143,Tryz.ntmps143
    go_wp2_with (first|(go_at_call 218;refine(HP.out _).mono ?_;rintro e w1 ⟨rfl,hb_w1⟩;have HB1:=hid (H0.out.next hb_w1))|(go_at_call 219;refine(HQ.out _).mono ?_;rintro e w2 ⟨rfl,hb_w2⟩;have HB2:=hid (HB1.out.next hb_w2))|(go_at_call 218;refine(HAt.out _).mono ?_;rintro e w5 ⟨rfl,hb_w5⟩;have HB5:=hid (HB2.out.next hb_w5))|(go_at_call 63;refine(HLo.out _).mono ?_;rintro e w6 ⟨rfl,hb_w6⟩;have HB6:=hid (HB5.out.next hb_w6))|(refine wpList_store_blk rfl 26 (.tmp 2) (.tmp 44) rfl w.heap.size ([.bool false,.string ⟨#[112,111,115,116,109,97,115,116,101,114]⟩,.string ⟨#[]⟩,.bool false]) rfl rfl pt_size (by simp[Value.oneCell']) (ptC zeroP) _ HB6.out.2 rfl ?_;intro w9 hc9 ho9 hs9 hb9;have HB9:=hid (hb9 w HB6.out.1 (Nat.le_refl _));have HC9:=hid hc9;clear ho9 hs9 hb9 hc9))
    have hl2:=load_pt (cs:=[.bool false,.string ⟨#[112,111,115,116,109,97,115,116,101,114]⟩,.string ⟨#[]⟩,.bool false]) HC9.out rfl
    refine bodyPost_ret (v:=.tuple #[.agg ([.bool false,.string ⟨#[112,111,115,116,109,97,115,116,101,114]⟩,.string ⟨#[]⟩,.bool false]).toArray,.int .i64 n,.int .i64 0]) (by simp[results,Tryz.results143,asAddr,hl2]) rfl ⟨?_,HB9.out⟩
    rw[HX.out];rfl
  |true=>
   rw[hat]at HAt
   have hn1:n+1≤s.size:=by
    refine Nat.lt_of_not_le fun hge=> ?_
    rw[List.drop_eq_nil_of_le (by rw[←Lib.size_eq];omega)]at hat
    cases hat
   have HDm:=(show Hid (∀W,Calls Tryz.prog 220 #[.string (s.extract (n+1) s.size)] W fun e w'=>e=.returned (.string ⟨(domTextP (s.data.toList.drop (n+1))).toArray⟩)∧Bel W w')from fun W=>by rw[←ext_back];exact domText_run _ W (by rw[ByteArray.size_extract];omega))
   have hdl:=domText_len (s.data.toList.drop (n+1))
   rw[List.length_drop,←Lib.size_eq]at hdl
   have HT:Hid (mailP s.data.toList=_):=hid (show mailP s.data.toList=((⟨false,lb.data.toList,(domainQ (domTextP (s.data.toList.drop (n+1)))).1,(domainQ (domTextP (s.data.toList.drop (n+1)))).2.1⟩:Pt),n+1+(domTextP (s.data.toList.drop (n+1))).length,if(domainQ (domTextP (s.data.toList.drop (n+1)))).2.2=0 then rightP ⟨false,lb.data.toList,(domainQ (domTextP (s.data.toList.drop (n+1)))).1,(domainQ (domTextP (s.data.toList.drop (n+1)))).2.1⟩else(domainQ (domTextP (s.data.toList.drop (n+1)))).2.2) by rw[HM.out];unfold tailP;rw[if_neg h0,hat,if_pos rfl])
   generalize domTextP (s.data.toList.drop (n+1))=d at HDm hdl HT
   have hdz:(⟨d.toArray⟩:ByteArray).size=d.length:=by rw[Lib.size_eq]
   have HPd:=(show Hid (∀W,Lay W→Calls Tryz.prog 26 #[.string ⟨d.toArray⟩] W fun e w'=>e=.returned (.tuple #[.string ⟨(domainQ d).1.toArray⟩,.bool (domainQ d).2.1,.int .i64 (domainQ d).2.2])∧Bel W w')from fun W hW=>pdomain_run ⟨d.toArray⟩ W hW (by omega))
   have hds:=dom_size d
   generalize domainQ d=D at HPd HT hds
   obtain⟨dm,li,de⟩:=D
   simp only at HPd HT hds
   have hz:(⟨dm.toArray⟩:ByteArray).size≤4194304:=by rw[Lib.size_eq];show dm.length≤_;omega
   have hw1:wrap64 (wrap64 ((n:Int)+1)+((⟨d.toArray⟩:ByteArray).size:Int))=((n+1+d.length:Nat):Int):=by rw[hdz];unfold wrap64;omega
   have HR:=(show Hid (∀W,Lay W→Calls Tryz.prog 36 #[.agg #[.bool false,.string lb,.string ⟨dm.toArray⟩,.bool li]] W fun e w'=>e=.returned (.int .i64 (rightP (pOf false lb ⟨dm.toArray⟩ li)))∧Bel W w')from fun W hW=>right_run false lb ⟨dm.toArray⟩ li W hW (by omega) hz)
   have HT2:=hid (show mailP s.data.toList=(pOf false lb ⟨dm.toArray⟩ li,n+1+d.length,if de=0 then rightP (pOf false lb ⟨dm.toArray⟩ li)else de) by rw[HT.out];rfl)
   clear HT hat
   generalize rightP (pOf false lb ⟨dm.toArray⟩ li)=r at HR HT2
   obtain rfl|rfl|rfl:=hds.2
   ·have HX:=hid (show mailP s.data.toList=(pOf false lb ⟨dm.toArray⟩ li,n+1+d.length,r)from HT2.out)
    go_enter Tryz.func143,Tryz.ntmps143
    go_wp2_with (first|(go_at_call 218;refine(HP.out _).mono ?_;rintro e w1 ⟨rfl,hb_w1⟩;have HB1:=hid (H0.out.next hb_w1))|(go_at_call 219;refine(HQ.out _).mono ?_;rintro e w2 ⟨rfl,hb_w2⟩;have HB2:=hid (HB1.out.next hb_w2))|(go_at_call 218;refine(HAt.out _).mono ?_;rintro e w5 ⟨rfl,hb_w5⟩;have HB5:=hid (HB2.out.next hb_w5))|(go_at_call 220;refine(HDm.out _).mono ?_;rintro e w6 ⟨rfl,hb_w6⟩;have HB6:=hid (HB5.out.next hb_w6))|(go_at_call 26;refine(HPd.out _ (HW.out.next HB6.out.1)).mono ?_;rintro e w7 ⟨rfl,hb_w7⟩;have HB7:=hid (HB6.out.next hb_w7))|(refine wpList_store_blk rfl 26 (.tmp 11) (.tmp 60) rfl w7.heap.size ([.bool false,.string lb,.string ⟨dm.toArray⟩,.bool li]) rfl rfl pt_size (by simp[Value.oneCell']) (ptC zeroP) _ (heap_alloc_new w7 _) rfl ?_;intro w8 hc8 ho8 hs8 hb8;have HB8:=hid (HB7.out.next (hb8 w7 ((Bel.refl w7).alloc _) (Nat.le_refl _)));have HC8:=hid hc8;clear ho8 hs8 hb8 hc8)|(refine wpList_load_mid rfl 26 (.tmp 11) rfl w7.heap.size 0 rfl [.bool false,.string lb,.string ⟨dm.toArray⟩,.bool li] _ (range_pt HC8.out) Tryz.underlying26 rfl pt_size ?_)|(go_at_call 36;refine(HR.out _ (HW.out.next HB8.out.1)).mono ?_;rintro e wa ⟨rfl,hb_a⟩;have HBa:=hid (HB8.out.next hb_a);have HCa:=hid (hb_a.heap HC8.out))|(refine wpList_load_mid rfl 26 (.tmp 11) rfl w7.heap.size 0 rfl [.bool false,.string lb,.string ⟨dm.toArray⟩,.bool li] _ (range_pt HCa.out) Tryz.underlying26 rfl pt_size ?_)|(refine wpList_store_blk rfl 26 (.tmp 2) (.tmp 65) rfl w.heap.size ([.bool false,.string lb,.string ⟨dm.toArray⟩,.bool li]) rfl rfl pt_size (by simp[Value.oneCell']) (ptC zeroP) _ HBa.out.2 rfl ?_;intro w9 hc9 ho9 hs9 hb9;have HB9:=hid (hb9 w HBa.out.1 (Nat.le_refl _));have HC9:=hid hc9;clear ho9 hs9 hb9 hc9))
    have hl2:=load_pt (cs:=[.bool false,.string lb,.string ⟨dm.toArray⟩,.bool li]) HC9.out rfl
    refine bodyPost_ret (v:=.tuple #[.agg ([.bool false,.string lb,.string ⟨dm.toArray⟩,.bool li]).toArray,.int .i64 ((n+1+d.length:Nat):Int),.int .i64 r]) (by simp[results,Tryz.results143,asAddr,hl2]) rfl ⟨?_,HB9.out⟩
    rw[HX.out];rfl
   ·have HX:=hid (show mailP s.data.toList=(pOf false lb ⟨dm.toArray⟩ li,n+1+d.length,90)from HT2.out)
    go_enter Tryz.func143,Tryz.ntmps143
    go_wp2_with (first|(go_at_call 218;refine(HP.out _).mono ?_;rintro e w1 ⟨rfl,hb_w1⟩;have HB1:=hid (H0.out.next hb_w1))|(go_at_call 219;refine(HQ.out _).mono ?_;rintro e w2 ⟨rfl,hb_w2⟩;have HB2:=hid (HB1.out.next hb_w2))|(go_at_call 218;refine(HAt.out _).mono ?_;rintro e w5 ⟨rfl,hb_w5⟩;have HB5:=hid (HB2.out.next hb_w5))|(go_at_call 220;refine(HDm.out _).mono ?_;rintro e w6 ⟨rfl,hb_w6⟩;have HB6:=hid (HB5.out.next hb_w6))|(go_at_call 26;refine(HPd.out _ (HW.out.next HB6.out.1)).mono ?_;rintro e w7 ⟨rfl,hb_w7⟩;have HB7:=hid (HB6.out.next hb_w7))|(refine wpList_store_blk rfl 26 (.tmp 11) (.tmp 60) rfl w7.heap.size ([.bool false,.string lb,.string ⟨dm.toArray⟩,.bool li]) rfl rfl pt_size (by simp[Value.oneCell']) (ptC zeroP) _ (heap_alloc_new w7 _) rfl ?_;intro w8 hc8 ho8 hs8 hb8;have HB8:=hid (HB7.out.next (hb8 w7 ((Bel.refl w7).alloc _) (Nat.le_refl _)));have HC8:=hid hc8;clear ho8 hs8 hb8 hc8)|(refine wpList_load_mid rfl 26 (.tmp 11) rfl w7.heap.size 0 rfl [.bool false,.string lb,.string ⟨dm.toArray⟩,.bool li] _ (range_pt HC8.out) Tryz.underlying26 rfl pt_size ?_)|(refine wpList_store_blk rfl 26 (.tmp 2) (.tmp 65) rfl w.heap.size ([.bool false,.string lb,.string ⟨dm.toArray⟩,.bool li]) rfl rfl pt_size (by simp[Value.oneCell']) (ptC zeroP) _ HB8.out.2 rfl ?_;intro w9 hc9 ho9 hs9 hb9;have HB9:=hid (hb9 w HB8.out.1 (Nat.le_refl _));have HC9:=hid hc9;clear ho9 hs9 hb9 hc9))
    have hl2:=load_pt (cs:=[.bool false,.string lb,.string ⟨dm.toArray⟩,.bool li]) HC9.out rfl
    refine bodyPost_ret (v:=.tuple #[.agg ([.bool false,.string lb,.string ⟨dm.toArray⟩,.bool li]).toArray,.int .i64 ((n+1+d.length:Nat):Int),.int .i64 90]) (by simp[results,Tryz.results143,asAddr,hl2]) rfl ⟨?_,HB9.out⟩
    rw[HX.out];rfl
   ·have HX:=hid (show mailP s.data.toList=(pOf false lb ⟨dm.toArray⟩ li,n+1+d.length,91)from HT2.out)
    go_enter Tryz.func143,Tryz.ntmps143
    go_wp2_with (first|(go_at_call 218;refine(HP.out _).mono ?_;rintro e w1 ⟨rfl,hb_w1⟩;have HB1:=hid (H0.out.next hb_w1))|(go_at_call 219;refine(HQ.out _).mono ?_;rintro e w2 ⟨rfl,hb_w2⟩;have HB2:=hid (HB1.out.next hb_w2))|(go_at_call 218;refine(HAt.out _).mono ?_;rintro e w5 ⟨rfl,hb_w5⟩;have HB5:=hid (HB2.out.next hb_w5))|(go_at_call 220;refine(HDm.out _).mono ?_;rintro e w6 ⟨rfl,hb_w6⟩;have HB6:=hid (HB5.out.next hb_w6))|(go_at_call 26;refine(HPd.out _ (HW.out.next HB6.out.1)).mono ?_;rintro e w7 ⟨rfl,hb_w7⟩;have HB7:=hid (HB6.out.next hb_w7))|(refine wpList_store_blk rfl 26 (.tmp 11) (.tmp 60) rfl w7.heap.size ([.bool false,.string lb,.string ⟨dm.toArray⟩,.bool li]) rfl rfl pt_size (by simp[Value.oneCell']) (ptC zeroP) _ (heap_alloc_new w7 _) rfl ?_;intro w8 hc8 ho8 hs8 hb8;have HB8:=hid (HB7.out.next (hb8 w7 ((Bel.refl w7).alloc _) (Nat.le_refl _)));have HC8:=hid hc8;clear ho8 hs8 hb8 hc8)|(refine wpList_load_mid rfl 26 (.tmp 11) rfl w7.heap.size 0 rfl [.bool false,.string lb,.string ⟨dm.toArray⟩,.bool li] _ (range_pt HC8.out) Tryz.underlying26 rfl pt_size ?_)|(refine wpList_store_blk rfl 26 (.tmp 2) (.tmp 65) rfl w.heap.size ([.bool false,.string lb,.string ⟨dm.toArray⟩,.bool li]) rfl rfl pt_size (by simp[Value.oneCell']) (ptC zeroP) _ HB8.out.2 rfl ?_;intro w9 hc9 ho9 hs9 hb9;have HB9:=hid (hb9 w HB8.out.1 (Nat.le_refl _));have HC9:=hid hc9;clear ho9 hs9 hb9 hc9))
    have hl2:=load_pt (cs:=[.bool false,.string lb,.string ⟨dm.toArray⟩,.bool li]) HC9.out rfl
    refine bodyPost_ret (v:=.tuple #[.agg ([.bool false,.string lb,.string ⟨dm.toArray⟩,.bool li]).toArray,.int .i64 ((n+1+d.length:Nat):Int),.int .i64 91]) (by simp[results,Tryz.results143,asAddr,hl2]) rfl ⟨?_,HB9.out⟩
    rw[HX.out];rfl
end Go.Proofs.YtmlmkmhkmifnkaaGreatDoor.Ma
namespace Go.Proofs.YtmlmkmhkmifnkaaGreatDoor.Ma
open Go.RowKit
open Ci (Bel Lay)
theorem mail_d(s:ByteArray)(w:World)(hw:Lay w)(hs:s.size≤4000000)(hq:(s.data.toList.head?==some 34)=false)(hd:dottedQ (s.data.toList.take (whN atdL s.data.toList))=true):Calls Tryz.prog 143 #[.string s] w fun e w'=>e=.returned (.tuple #[.agg (ptC (mailP s.data.toList).1).toArray,.int .i64 (mailP s.data.toList).2.1,.int .i64 (mailP s.data.toList).2.2])∧Bel w w':=by
 have HW:=hid hw
 have H0:=hid (mbI_new w)
 have HP:=(show Hid (∀W,Calls Tryz.prog 218 #[.string s,.string ⟨#[34]⟩] W fun e w'=>e=.returned (.bool false)∧Bel W w')from fun W=>by rw[←hq];exact hasPre_run s 34 W (by omega))
 have hn:=whN_le atdL s.data.toList
 rw[←Lib.size_eq]at hn
 have HWh:=(show Hid (∀W,Calls Tryz.prog 201 #[.string s,.string ⟨atdL.toArray⟩] W fun e w'=>e=.returned (.int .i64 (whN atdL s.data.toList:Nat))∧w'=W)from fun W=>while_run s ⟨atdL.toArray⟩ W (by omega))
 have HM:Hid (mailP s.data.toList=tailP s.data.toList (s.data.toList.take (whN atdL s.data.toList)) (whN atdL s.data.toList)):=hid (by unfold mailP lpP;rw[hq,if_neg Bool.false_ne_true,hd,if_pos rfl])
 generalize whN atdL s.data.toList=n at HWh HM hn hd
 have HDt:=(show Hid (∀W,Lay W→Calls Tryz.prog 157 #[.string (s.extract 0 n)] W fun e w'=>e=.returned (.bool true)∧Bel W w')from fun W hW=>by rw[←hd,←ext_front];exact dotted_run _ W hW (by rw[ByteArray.size_extract];omega))
 have hlz:(s.extract 0 n).size≤s.size:=by rw[ByteArray.size_extract];omega
 have HLB:=hid (show s.data.toList.take n=(s.extract 0 n).data.toList by rw[ext_front])
 rw[HLB.out]at HM
 have h0:¬n=0:=by
  rintro rfl
  exact absurd hd (by rw[List.take_zero];decide)
 clear hd hq
 ·have b0:((n:Int)==0)=false:=by rw[beq_eq_false_iff_ne];omega
  have HAt:=(show Hid (∀W,Calls Tryz.prog 218 #[.string (s.extract n s.size),.string ⟨#[64]⟩] W fun e w'=>e=.returned (.bool ((s.data.toList.drop n).head?==some 64))∧Bel W w')from fun W=>by rw[←ext_back];exact hasPre_run _ 64 W (by rw[ByteArray.size_extract];omega))
  cases hat:((s.data.toList.drop n).head?==some 64)with
  |false=>
   rw[hat]at HAt
   have HLo:=(show Hid (∀W,Calls Tryz.prog 63 #[.string (s.extract 0 n)] W fun e w'=>e=.returned (.string ⟨(lowL (s.data.toList.take n)).toArray⟩)∧Bel W w')from fun W=>by rw[←ext_front];exact lower_run _ W (by rw[ByteArray.size_extract];omega))
   have HE:=hid (show(lowL (s.data.toList.take n)==pmL)=((⟨(lowL (s.data.toList.take n)).toArray⟩:ByteArray).toList==[112,111,115,116,109,97,115,116,101,114]) by rw[ByteArray.toList_eq];rfl)
   have HT:=hid (show mailP s.data.toList=if(lowL (s.data.toList.take n)==pmL)then(⟨false,pmL,[],false⟩,n,0)else(zeroP,0,90) by rw[HM.out];unfold tailP;rw[if_neg h0,hat,if_neg Bool.false_ne_true])
   rw[HE.out]at HT
   clear HE
   generalize (⟨(lowL (s.data.toList.take n)).toArray⟩:ByteArray)=lo at HLo HT
   cases hpm:(lo.toList==[112,111,115,116,109,97,115,116,101,114])with
   |false=>
    have HX:=hid (show mailP s.data.toList=(zeroP,0,90) by rw[HT.out,hpm,if_neg Bool.false_ne_true])
    go_enter Tryz.func143,Tryz.ntmps143
    go_wp2_with (first|(go_at_call 218;refine(HP.out _).mono ?_;rintro e w1 ⟨rfl,hb_w1⟩;have HB1:=hid (H0.out.next hb_w1))|(go_at_call 201;refine(HWh.out _).mono ?_;rintro e w2 ⟨rfl,rfl⟩)|(go_at_call 157;refine(HDt.out _ (HW.out.next HB1.out.1)).mono ?_;rintro e w3 ⟨rfl,hb_w3⟩;have HB3:=hid (HB1.out.next hb_w3))|(go_at_call 218;refine(HAt.out _).mono ?_;rintro e w5 ⟨rfl,hb_w5⟩;have HB5:=hid (HB3.out.next hb_w5))|(go_at_call 63;refine(HLo.out _).mono ?_;rintro e w6 ⟨rfl,hb_w6⟩;have HB6:=hid (HB5.out.next hb_w6))|(refine wpList_store_blk rfl 26 (.tmp 2) (.tmp 43) rfl w.heap.size ([.bool false,.string ⟨#[]⟩,.string ⟨#[]⟩,.bool false]) rfl rfl pt_size (by simp[Value.oneCell']) (ptC zeroP) _ HB6.out.2 rfl ?_;intro w9 hc9 ho9 hs9 hb9;have HB9:=hid (hb9 w HB6.out.1 (Nat.le_refl _));have HC9:=hid hc9;clear ho9 hs9 hb9 hc9))
    have hl2:=load_pt (cs:=[.bool false,.string ⟨#[]⟩,.string ⟨#[]⟩,.bool false]) HC9.out rfl
    refine bodyPost_ret (v:=.tuple #[.agg ([.bool false,.string ⟨#[]⟩,.string ⟨#[]⟩,.bool false]).toArray,.int .i64 0,.int .i64 90]) (by simp[results,Tryz.results143,asAddr,hl2]) rfl ⟨?_,HB9.out⟩
    rw[HX.out];rfl
   |true=>
    have HX:=hid (show mailP s.data.toList=(⟨false,pmL,[],false⟩,n,0) by rw[HT.out,hpm,if_pos rfl])
    go_enter Tryz.func143,Tryz.ntmps143
    go_wp2_with (first|(go_at_call 218;refine(HP.out _).mono ?_;rintro e w1 ⟨rfl,hb_w1⟩;have HB1:=hid (H0.out.next hb_w1))|(go_at_call 201;refine(HWh.out _).mono ?_;rintro e w2 ⟨rfl,rfl⟩)|(go_at_call 157;refine(HDt.out _ (HW.out.next HB1.out.1)).mono ?_;rintro e w3 ⟨rfl,hb_w3⟩;have HB3:=hid (HB1.out.next hb_w3))|(go_at_call 218;refine(HAt.out _).mono ?_;rintro e w5 ⟨rfl,hb_w5⟩;have HB5:=hid (HB3.out.next hb_w5))|(go_at_call 63;refine(HLo.out _).mono ?_;rintro e w6 ⟨rfl,hb_w6⟩;have HB6:=hid (HB5.out.next hb_w6))|(refine wpList_store_blk rfl 26 (.tmp 2) (.tmp 44) rfl w.heap.size ([.bool false,.string ⟨#[112,111,115,116,109,97,115,116,101,114]⟩,.string ⟨#[]⟩,.bool false]) rfl rfl pt_size (by simp[Value.oneCell']) (ptC zeroP) _ HB6.out.2 rfl ?_;intro w9 hc9 ho9 hs9 hb9;have HB9:=hid (hb9 w HB6.out.1 (Nat.le_refl _));have HC9:=hid hc9;clear ho9 hs9 hb9 hc9))
    have hl2:=load_pt (cs:=[.bool false,.string ⟨#[112,111,115,116,109,97,115,116,101,114]⟩,.string ⟨#[]⟩,.bool false]) HC9.out rfl
    refine bodyPost_ret (v:=.tuple #[.agg ([.bool false,.string ⟨#[112,111,115,116,109,97,115,116,101,114]⟩,.string ⟨#[]⟩,.bool false]).toArray,.int .i64 n,.int .i64 0]) (by simp[results,Tryz.results143,asAddr,hl2]) rfl ⟨?_,HB9.out⟩
    rw[HX.out];rfl
  |true=>
   rw[hat]at HAt
   have hn1:n+1≤s.size:=by
    refine Nat.lt_of_not_le fun hge=> ?_
    rw[List.drop_eq_nil_of_le (by rw[←Lib.size_eq];omega)]at hat
    cases hat
   have HDm:=(show Hid (∀W,Calls Tryz.prog 220 #[.string (s.extract (n+1) s.size)] W fun e w'=>e=.returned (.string ⟨(domTextP (s.data.toList.drop (n+1))).toArray⟩)∧Bel W w')from fun W=>by rw[←ext_back];exact domText_run _ W (by rw[ByteArray.size_extract];omega))
   have hdl:=domText_len (s.data.toList.drop (n+1))
   rw[List.length_drop,←Lib.size_eq]at hdl
   have HT:Hid (mailP s.data.toList=_):=hid (show mailP s.data.toList=((⟨false,(s.extract 0 n).data.toList,(domainQ (domTextP (s.data.toList.drop (n+1)))).1,(domainQ (domTextP (s.data.toList.drop (n+1)))).2.1⟩:Pt),n+1+(domTextP (s.data.toList.drop (n+1))).length,if(domainQ (domTextP (s.data.toList.drop (n+1)))).2.2=0 then rightP ⟨false,(s.extract 0 n).data.toList,(domainQ (domTextP (s.data.toList.drop (n+1)))).1,(domainQ (domTextP (s.data.toList.drop (n+1)))).2.1⟩else(domainQ (domTextP (s.data.toList.drop (n+1)))).2.2) by rw[HM.out];unfold tailP;rw[if_neg h0,hat,if_pos rfl])
   generalize domTextP (s.data.toList.drop (n+1))=d at HDm hdl HT
   have hdz:(⟨d.toArray⟩:ByteArray).size=d.length:=by rw[Lib.size_eq]
   have HPd:=(show Hid (∀W,Lay W→Calls Tryz.prog 26 #[.string ⟨d.toArray⟩] W fun e w'=>e=.returned (.tuple #[.string ⟨(domainQ d).1.toArray⟩,.bool (domainQ d).2.1,.int .i64 (domainQ d).2.2])∧Bel W w')from fun W hW=>pdomain_run ⟨d.toArray⟩ W hW (by omega))
   have hds:=dom_size d
   generalize domainQ d=D at HPd HT hds
   obtain⟨dm,li,de⟩:=D
   simp only at HPd HT hds
   have hz:(⟨dm.toArray⟩:ByteArray).size≤4194304:=by rw[Lib.size_eq];show dm.length≤_;omega
   have hw1:wrap64 (wrap64 ((n:Int)+1)+((⟨d.toArray⟩:ByteArray).size:Int))=((n+1+d.length:Nat):Int):=by rw[hdz];unfold wrap64;omega
   have HR:=(show Hid (∀W,Lay W→Calls Tryz.prog 36 #[.agg #[.bool false,.string (s.extract 0 n),.string ⟨dm.toArray⟩,.bool li]] W fun e w'=>e=.returned (.int .i64 (rightP (pOf false (s.extract 0 n) ⟨dm.toArray⟩ li)))∧Bel W w')from fun W hW=>right_run false (s.extract 0 n) ⟨dm.toArray⟩ li W hW (by omega) hz)
   have HT2:=hid (show mailP s.data.toList=(pOf false (s.extract 0 n) ⟨dm.toArray⟩ li,n+1+d.length,if de=0 then rightP (pOf false (s.extract 0 n) ⟨dm.toArray⟩ li)else de) by rw[HT.out];rfl)
   clear HT hat
   generalize rightP (pOf false (s.extract 0 n) ⟨dm.toArray⟩ li)=r at HR HT2
   obtain rfl|rfl|rfl:=hds.2
   ·have HX:=hid (show mailP s.data.toList=(pOf false (s.extract 0 n) ⟨dm.toArray⟩ li,n+1+d.length,r)from HT2.out)
    go_enter Tryz.func143,Tryz.ntmps143
    go_wp2_with (first|(go_at_call 218;refine(HP.out _).mono ?_;rintro e w1 ⟨rfl,hb_w1⟩;have HB1:=hid (H0.out.next hb_w1))|(go_at_call 201;refine(HWh.out _).mono ?_;rintro e w2 ⟨rfl,rfl⟩)|(go_at_call 157;refine(HDt.out _ (HW.out.next HB1.out.1)).mono ?_;rintro e w3 ⟨rfl,hb_w3⟩;have HB3:=hid (HB1.out.next hb_w3))|(go_at_call 218;refine(HAt.out _).mono ?_;rintro e w5 ⟨rfl,hb_w5⟩;have HB5:=hid (HB3.out.next hb_w5))|(go_at_call 220;refine(HDm.out _).mono ?_;rintro e w6 ⟨rfl,hb_w6⟩;have HB6:=hid (HB5.out.next hb_w6))|(go_at_call 26;refine(HPd.out _ (HW.out.next HB6.out.1)).mono ?_;rintro e w7 ⟨rfl,hb_w7⟩;have HB7:=hid (HB6.out.next hb_w7))|(refine wpList_store_blk rfl 26 (.tmp 11) (.tmp 60) rfl w7.heap.size ([.bool false,.string (s.extract 0 n),.string ⟨dm.toArray⟩,.bool li]) rfl rfl pt_size (by simp[Value.oneCell']) (ptC zeroP) _ (heap_alloc_new w7 _) rfl ?_;intro w8 hc8 ho8 hs8 hb8;have HB8:=hid (HB7.out.next (hb8 w7 ((Bel.refl w7).alloc _) (Nat.le_refl _)));have HC8:=hid hc8;clear ho8 hs8 hb8 hc8)|(refine wpList_load_mid rfl 26 (.tmp 11) rfl w7.heap.size 0 rfl [.bool false,.string (s.extract 0 n),.string ⟨dm.toArray⟩,.bool li] _ (range_pt HC8.out) Tryz.underlying26 rfl pt_size ?_)|(go_at_call 36;refine(HR.out _ (HW.out.next HB8.out.1)).mono ?_;rintro e wa ⟨rfl,hb_a⟩;have HBa:=hid (HB8.out.next hb_a);have HCa:=hid (hb_a.heap HC8.out))|(refine wpList_load_mid rfl 26 (.tmp 11) rfl w7.heap.size 0 rfl [.bool false,.string (s.extract 0 n),.string ⟨dm.toArray⟩,.bool li] _ (range_pt HCa.out) Tryz.underlying26 rfl pt_size ?_)|(refine wpList_store_blk rfl 26 (.tmp 2) (.tmp 65) rfl w.heap.size ([.bool false,.string (s.extract 0 n),.string ⟨dm.toArray⟩,.bool li]) rfl rfl pt_size (by simp[Value.oneCell']) (ptC zeroP) _ HBa.out.2 rfl ?_;intro w9 hc9 ho9 hs9 hb9;have HB9:=hid (hb9 w HBa.out.1 (Nat.le_refl _));have HC9:=hid hc9;clear ho9 hs9 hb9 hc9))
    have hl2:=load_pt (cs:=[.bool false,.string (s.extract 0 n),.string ⟨dm.toArray⟩,.bool li]) HC9.out rfl
    refine bodyPost_ret (v:=.tuple #[.agg ([.bool false,.string (s.extract 0 n),.string ⟨dm.toArray⟩,.bool li]).toArray,.int .i64 ((n+1+d.length:Nat):Int),.int .i64 r]) (by simp[results,Tryz.results143,asAddr,hl2]) rfl ⟨?_,HB9.out⟩
    rw[HX.out];rfl
   ·have HX:=hid (show mailP s.data.toList=(pOf false (s.extract 0 n) ⟨dm.toArray⟩ li,n+1+d.length,90)from HT2.out)
    go_enter Tryz.func143,Tryz.ntmps143
    go_wp2_with (first|(go_at_call 218;refine(HP.out _).mono ?_;rintro e w1 ⟨rfl,hb_w1⟩;have HB1:=hid (H0.out.next hb_w1))|(go_at_call 201;refine(HWh.out _).mono ?_;rintro e w2 ⟨rfl,rfl⟩)|(go_at_call 157;refine(HDt.out _ (HW.out.next HB1.out.1)).mono ?_;rintro e w3 ⟨rfl,hb_w3⟩;have HB3:=hid (HB1.out.next hb_w3))|(go_at_call 218;refine(HAt.out _).mono ?_;rintro e w5 ⟨rfl,hb_w5⟩;have HB5:=hid (HB3.out.next hb_w5))|(go_at_call 220;refine(HDm.out _).mono ?_;rintro e w6 ⟨rfl,hb_w6⟩;have HB6:=hid (HB5.out.next hb_w6))|(go_at_call 26;refine(HPd.out _ (HW.out.next HB6.out.1)).mono ?_;rintro e w7 ⟨rfl,hb_w7⟩;have HB7:=hid (HB6.out.next hb_w7))|(refine wpList_store_blk rfl 26 (.tmp 11) (.tmp 60) rfl w7.heap.size ([.bool false,.string (s.extract 0 n),.string ⟨dm.toArray⟩,.bool li]) rfl rfl pt_size (by simp[Value.oneCell']) (ptC zeroP) _ (heap_alloc_new w7 _) rfl ?_;intro w8 hc8 ho8 hs8 hb8;have HB8:=hid (HB7.out.next (hb8 w7 ((Bel.refl w7).alloc _) (Nat.le_refl _)));have HC8:=hid hc8;clear ho8 hs8 hb8 hc8)|(refine wpList_load_mid rfl 26 (.tmp 11) rfl w7.heap.size 0 rfl [.bool false,.string (s.extract 0 n),.string ⟨dm.toArray⟩,.bool li] _ (range_pt HC8.out) Tryz.underlying26 rfl pt_size ?_)|(refine wpList_store_blk rfl 26 (.tmp 2) (.tmp 65) rfl w.heap.size ([.bool false,.string (s.extract 0 n),.string ⟨dm.toArray⟩,.bool li]) rfl rfl pt_size (by simp[Value.oneCell']) (ptC zeroP) _ HB8.out.2 rfl ?_;intro w9 hc9 ho9 hs9 hb9;have HB9:=hid (hb9 w HB8.out.1 (Nat.le_refl _));have HC9:=hid hc9;clear ho9 hs9 hb9 hc9))
    have hl2:=load_pt (cs:=[.bool false,.string (s.extract 0 n),.string ⟨dm.toArray⟩,.bool li]) HC9.out rfl
    refine bodyPost_ret (v:=.tuple #[.agg ([.bool false,.string (s.extract 0 n),.string ⟨dm.toArray⟩,.bool li]).toArray,.int .i64 ((n+1+d.length:Nat):Int),.int .i64 90]) (by simp[results,Tryz.results143,asAddr,hl2]) rfl ⟨?_,HB9.out⟩
    rw[HX.out];rfl
   ·have HX:=hid (show mailP s.data.toList=(pOf false (s.extract 0 n) ⟨dm.toArray⟩ li,n+1+d.length,91)from HT2.out)
    go_enter Tryz.func143,Tryz.ntmps143
    go_wp2_with (first|(go_at_call 218;refine(HP.out _).mono ?_;rintro e w1 ⟨rfl,hb_w1⟩;have HB1:=hid (H0.out.next hb_w1))|(go_at_call 201;refine(HWh.out _).mono ?_;rintro e w2 ⟨rfl,rfl⟩)|(go_at_call 157;refine(HDt.out _ (HW.out.next HB1.out.1)).mono ?_;rintro e w3 ⟨rfl,hb_w3⟩;have HB3:=hid (HB1.out.next hb_w3))|(go_at_call 218;refine(HAt.out _).mono ?_;rintro e w5 ⟨rfl,hb_w5⟩;have HB5:=hid (HB3.out.next hb_w5))|(go_at_call 220;refine(HDm.out _).mono ?_;rintro e w6 ⟨rfl,hb_w6⟩;have HB6:=hid (HB5.out.next hb_w6))|(go_at_call 26;refine(HPd.out _ (HW.out.next HB6.out.1)).mono ?_;rintro e w7 ⟨rfl,hb_w7⟩;have HB7:=hid (HB6.out.next hb_w7))|(refine wpList_store_blk rfl 26 (.tmp 11) (.tmp 60) rfl w7.heap.size ([.bool false,.string (s.extract 0 n),.string ⟨dm.toArray⟩,.bool li]) rfl rfl pt_size (by simp[Value.oneCell']) (ptC zeroP) _ (heap_alloc_new w7 _) rfl ?_;intro w8 hc8 ho8 hs8 hb8;have HB8:=hid (HB7.out.next (hb8 w7 ((Bel.refl w7).alloc _) (Nat.le_refl _)));have HC8:=hid hc8;clear ho8 hs8 hb8 hc8)|(refine wpList_load_mid rfl 26 (.tmp 11) rfl w7.heap.size 0 rfl [.bool false,.string (s.extract 0 n),.string ⟨dm.toArray⟩,.bool li] _ (range_pt HC8.out) Tryz.underlying26 rfl pt_size ?_)|(refine wpList_store_blk rfl 26 (.tmp 2) (.tmp 65) rfl w.heap.size ([.bool false,.string (s.extract 0 n),.string ⟨dm.toArray⟩,.bool li]) rfl rfl pt_size (by simp[Value.oneCell']) (ptC zeroP) _ HB8.out.2 rfl ?_;intro w9 hc9 ho9 hs9 hb9;have HB9:=hid (hb9 w HB8.out.1 (Nat.le_refl _));have HC9:=hid hc9;clear ho9 hs9 hb9 hc9))
    have hl2:=load_pt (cs:=[.bool false,.string (s.extract 0 n),.string ⟨dm.toArray⟩,.bool li]) HC9.out rfl
    refine bodyPost_ret (v:=.tuple #[.agg ([.bool false,.string (s.extract 0 n),.string ⟨dm.toArray⟩,.bool li]).toArray,.int .i64 ((n+1+d.length:Nat):Int),.int .i64 91]) (by simp[results,Tryz.results143,asAddr,hl2]) rfl ⟨?_,HB9.out⟩
    rw[HX.out];rfl
end Go.Proofs.YtmlmkmhkmifnkaaGreatDoor.Ma
namespace Go.Proofs.YtmlmkmhkmifnkaaGreatDoor.Ma
open Go.RowKit
open Ci (Bel Lay)
theorem mail_n(s:ByteArray)(w:World)(hw:Lay w)(hs:s.size≤4000000)(hq:(s.data.toList.head?==some 34)=false)(hd:dottedQ (s.data.toList.take (whN atdL s.data.toList))=false):Calls Tryz.prog 143 #[.string s] w fun e w'=>e=.returned (.tuple #[.agg (ptC (mailP s.data.toList).1).toArray,.int .i64 (mailP s.data.toList).2.1,.int .i64 (mailP s.data.toList).2.2])∧Bel w w':=by
 have HW:=hid hw
 have H0:=hid (mbI_new w)
 have HP:=(show Hid (∀W,Calls Tryz.prog 218 #[.string s,.string ⟨#[34]⟩] W fun e w'=>e=.returned (.bool false)∧Bel W w')from fun W=>by rw[←hq];exact hasPre_run s 34 W (by omega))
 have hn:=whN_le atdL s.data.toList
 rw[←Lib.size_eq]at hn
 have HWh:=(show Hid (∀W,Calls Tryz.prog 201 #[.string s,.string ⟨atdL.toArray⟩] W fun e w'=>e=.returned (.int .i64 (whN atdL s.data.toList:Nat))∧w'=W)from fun W=>while_run s ⟨atdL.toArray⟩ W (by omega))
 have HX:=hid (show mailP s.data.toList=(zeroP,0,90) by unfold mailP lpP;rw[hq,if_neg Bool.false_ne_true,hd,if_neg Bool.false_ne_true];rfl)
 generalize whN atdL s.data.toList=n at HWh hn hd
 have HDt:=(show Hid (∀W,Lay W→Calls Tryz.prog 157 #[.string (s.extract 0 n)] W fun e w'=>e=.returned (.bool false)∧Bel W w')from fun W hW=>by rw[←hd,←ext_front];exact dotted_run _ W hW (by rw[ByteArray.size_extract];omega))
 clear hd hq
 go_enter Tryz.func143,Tryz.ntmps143
 go_wp2_with (first|(go_at_call 218;refine(HP.out _).mono ?_;rintro e w1 ⟨rfl,hb_w1⟩;have HB1:=hid (H0.out.next hb_w1))|(go_at_call 201;refine(HWh.out _).mono ?_;rintro e w2 ⟨rfl,rfl⟩)|(go_at_call 157;refine(HDt.out _ (HW.out.next HB1.out.1)).mono ?_;rintro e w3 ⟨rfl,hb_w3⟩;have HB3:=hid (HB1.out.next hb_w3))|(refine wpList_store_blk rfl 26 (.tmp 2) (.tmp 31) rfl w.heap.size ([.bool false,.string ⟨#[]⟩,.string ⟨#[]⟩,.bool false]) rfl rfl pt_size (by simp[Value.oneCell']) (ptC zeroP) _ HB3.out.2 rfl ?_;intro w9 hc9 ho9 hs9 hb9;have HB9:=hid (hb9 w HB3.out.1 (Nat.le_refl _));have HC9:=hid hc9;clear ho9 hs9 hb9 hc9))
 have hl2:=load_pt (cs:=[.bool false,.string ⟨#[]⟩,.string ⟨#[]⟩,.bool false]) HC9.out rfl
 refine bodyPost_ret (v:=.tuple #[.agg ([.bool false,.string ⟨#[]⟩,.string ⟨#[]⟩,.bool false]).toArray,.int .i64 0,.int .i64 90]) (by simp[results,Tryz.results143,asAddr,hl2]) rfl ⟨?_,HB9.out⟩
 rw[HX.out];rfl
theorem pmailbox_run(s:ByteArray)(w:World)(hw:Lay w)(hs:s.size≤4000000):Calls Tryz.prog 143 #[.string s] w fun e w'=>e=.returned (.tuple #[.agg (ptC (mailP s.data.toList).1).toArray,.int .i64 (mailP s.data.toList).2.1,.int .i64 (mailP s.data.toList).2.2])∧Bel w w':=by
 cases hq:(s.data.toList.head?==some 34)with
 |true=>exact mail_q s w hw hs hq
 |false=>cases hd:dottedQ (s.data.toList.take (whN atdL s.data.toList))with
  |true=>exact mail_d s w hw hs hq hd
  |false=>exact mail_n s w hw hs hq hd
end Go.Proofs.YtmlmkmhkmifnkaaGreatDoor.Ma
namespace Go.Proofs.YtmlmkmhkmifnkaaGreatDoor.Ma
open Go.RowKit
open Ci (Bel Lay)
def mbQ(s:List UInt8):Pt×Int:=
 if s=[]then(⟨true,[],[],false⟩,0)
 else if(mailP s).2.2=90∨(mailP s).2.1<s.length then(zeroP,90)
 else if(mailP s).2.2≠0 then(zeroP,(mailP s).2.2)
 else((mailP s).1,0)
theorem Mailbox_run(s:ByteArray)(w:World)(hw:Lay w)(hs:s.size≤4000000):Calls Tryz.prog 72 #[.string s] w fun e w'=>e=.returned (.tuple #[.agg (ptC (mbQ s.data.toList).1).toArray,.int .i64 (mbQ s.data.toList).2])∧Bel w w':=by
 have HW:=hid hw
 have H0:=hid (mbI_new w)
 have hsz:=Lib.size_eq s
 by_cases h0:s.data.toList=[]
 ·have hb:s.toList.isEmpty=true:=by rw[ByteArray.toList_eq,h0];rfl
  have hb2:(s.toList==[])=true:=by rw[ByteArray.toList_eq,h0];rfl
  have HX:=hid (show mbQ s.data.toList=(⟨true,[],[],false⟩,0) by rw[h0];rfl)
  clear h0 hsz
  go_enter Tryz.func72,Tryz.ntmps72
  go_wp2_with (first|(refine wpList_store_blk rfl 26 (.tmp 2) (.tmp 9) rfl w.heap.size ([.bool true,.string ⟨#[]⟩,.string ⟨#[]⟩,.bool false]) rfl rfl pt_size (by simp[Value.oneCell']) (ptC zeroP) _ H0.out.2 rfl ?_;intro w9 hc9 ho9 hs9 hb9;have HB9:=hid (hb9 w H0.out.1 (Nat.le_refl _));have HC9:=hid hc9;clear ho9 hs9 hb9 hc9))
  have hl2:=load_pt (cs:=[.bool true,.string ⟨#[]⟩,.string ⟨#[]⟩,.bool false]) HC9.out rfl
  refine bodyPost_ret (v:=.tuple #[.agg ([.bool true,.string ⟨#[]⟩,.string ⟨#[]⟩,.bool false]).toArray,.int .i64 0]) (by simp[results,Tryz.results72,asAddr,hl2]) rfl ⟨?_,HB9.out⟩
  rw[HX.out];rfl
 ·have hb:s.toList.isEmpty=false:=by
   rw[ByteArray.toList_eq]
   cases h:s.data.toList with
   |nil=>exact absurd h h0
   |cons=>rfl
  have hb2:(s.toList==[])=false:=by
   rw[ByteArray.toList_eq]
   cases h:s.data.toList with
   |nil=>exact absurd h h0
   |cons=>rfl
  have HM:=(show Hid (∀W,Lay W→Calls Tryz.prog 143 #[.string s] W fun e w'=>e=.returned (.tuple #[.agg (ptC (mailP s.data.toList).1).toArray,.int .i64 (mailP s.data.toList).2.1,.int .i64 (mailP s.data.toList).2.2])∧Bel W w')from fun W hW=>pmailbox_run s W hW hs)
  have HX:Hid (mbQ s.data.toList=if(mailP s.data.toList).2.2=90∨(mailP s.data.toList).2.1<s.size then(zeroP,90)else if(mailP s.data.toList).2.2≠0 then(zeroP,(mailP s.data.toList).2.2)else((mailP s.data.toList).1,0)):=hid (by unfold mbQ;rw[if_neg h0,←hsz])
  generalize mailP s.data.toList=M at HM HX
  obtain⟨p,n,e⟩:=M
  simp only at HM HX
  clear h0 hsz
  by_cases h1:e=90
  ·subst h1
   have HY:=hid (show mbQ s.data.toList=(zeroP,90) by rw[HX.out,if_pos (.inl rfl)])
   go_enter Tryz.func72,Tryz.ntmps72
   go_wp2_with (first|(go_at_call 143;refine(HM.out _ (HW.out.next H0.out.1)).mono ?_;rintro e w1 ⟨rfl,hb_w1⟩;have HB1:=hid (H0.out.next hb_w1);clear hb_w1)|(refine wpList_store_blk rfl 26 (.tmp 4) (.tmp 13) rfl w1.heap.size (ptC p) rfl rfl pt_size (ptC_one p) (ptC zeroP) _ (heap_alloc_new w1 _) rfl ?_;intro w2 hc2 ho2 hs2 hb2;have HB2:=hid (HB1.out.next (hb2 w1 ((Bel.refl w1).alloc _) (Nat.le_refl _)));have HC2:=hid hc2;clear ho2 hs2 hb2 hc2)|(refine wpList_store_blk rfl 26 (.tmp 2) (.tmp 25) rfl w.heap.size ([.bool false,.string ⟨#[]⟩,.string ⟨#[]⟩,.bool false]) rfl rfl pt_size (by simp[Value.oneCell']) (ptC zeroP) _ HB2.out.2 rfl ?_;intro w9 hc9 ho9 hs9 hb9;have HB9:=hid (hb9 w HB2.out.1 (Nat.le_refl _));have HC9:=hid hc9;clear ho9 hs9 hb9 hc9))
   have hl2:=load_pt (cs:=[.bool false,.string ⟨#[]⟩,.string ⟨#[]⟩,.bool false]) HC9.out rfl
   refine bodyPost_ret (v:=.tuple #[.agg ([.bool false,.string ⟨#[]⟩,.string ⟨#[]⟩,.bool false]).toArray,.int .i64 90]) (by simp[results,Tryz.results72,asAddr,hl2]) rfl ⟨?_,HB9.out⟩
   rw[HY.out];rfl
  ·have b1:(e==90)=false:=by simpa using h1
   by_cases h2:n<s.size
   ·have b2:decide ((n:Int)<(s.size:Int))=true:=decide_eq_true (by omega)
    have HY:=hid (show mbQ s.data.toList=(zeroP,90) by rw[HX.out,if_pos (.inr h2)])
    go_enter Tryz.func72,Tryz.ntmps72
    go_wp2_with (first|(go_at_call 143;refine(HM.out _ (HW.out.next H0.out.1)).mono ?_;rintro e w1 ⟨rfl,hb_w1⟩;have HB1:=hid (H0.out.next hb_w1);clear hb_w1)|(refine wpList_store_blk rfl 26 (.tmp 4) (.tmp 13) rfl w1.heap.size (ptC p) rfl rfl pt_size (ptC_one p) (ptC zeroP) _ (heap_alloc_new w1 _) rfl ?_;intro w2 hc2 ho2 hs2 hb2;have HB2:=hid (HB1.out.next (hb2 w1 ((Bel.refl w1).alloc _) (Nat.le_refl _)));have HC2:=hid hc2;clear ho2 hs2 hb2 hc2)|(refine wpList_store_blk rfl 26 (.tmp 2) (.tmp 25) rfl w.heap.size ([.bool false,.string ⟨#[]⟩,.string ⟨#[]⟩,.bool false]) rfl rfl pt_size (by simp[Value.oneCell']) (ptC zeroP) _ HB2.out.2 rfl ?_;intro w9 hc9 ho9 hs9 hb9;have HB9:=hid (hb9 w HB2.out.1 (Nat.le_refl _));have HC9:=hid hc9;clear ho9 hs9 hb9 hc9))
    have hl2:=load_pt (cs:=[.bool false,.string ⟨#[]⟩,.string ⟨#[]⟩,.bool false]) HC9.out rfl
    refine bodyPost_ret (v:=.tuple #[.agg ([.bool false,.string ⟨#[]⟩,.string ⟨#[]⟩,.bool false]).toArray,.int .i64 90]) (by simp[results,Tryz.results72,asAddr,hl2]) rfl ⟨?_,HB9.out⟩
    rw[HY.out];rfl
   ·have b2:decide ((n:Int)<(s.size:Int))=false:=decide_eq_false (by omega)
    have HX2:=hid (show mbQ s.data.toList=if e≠0 then(zeroP,e)else(p,0) by rw[HX.out,if_neg (by rintro(h|h);exact h1 h;exact h2 h)])
    by_cases h3:e=0
    ·subst h3
     have HY:=hid (show mbQ s.data.toList=(p,0)from HX2.out)
     go_enter Tryz.func72,Tryz.ntmps72
     go_wp2_with (first|(go_at_call 143;refine(HM.out _ (HW.out.next H0.out.1)).mono ?_;rintro e w1 ⟨rfl,hb_w1⟩;have HB1:=hid (H0.out.next hb_w1);clear hb_w1)|(refine wpList_store_blk rfl 26 (.tmp 4) (.tmp 13) rfl w1.heap.size (ptC p) rfl rfl pt_size (ptC_one p) (ptC zeroP) _ (heap_alloc_new w1 _) rfl ?_;intro w2 hc2 ho2 hs2 hb2;have HB2:=hid (HB1.out.next (hb2 w1 ((Bel.refl w1).alloc _) (Nat.le_refl _)));have HC2:=hid hc2;clear ho2 hs2 hb2 hc2)|(refine wpList_load_mid rfl 26 (.tmp 4) rfl w1.heap.size 0 rfl (ptC p) _ (ptC_range HC2.out) Tryz.underlying26 rfl pt_size ?_)|(refine wpList_store_blk rfl 26 (.tmp 2) (.tmp 31) rfl w.heap.size (ptC p) rfl rfl pt_size (ptC_one _) (ptC zeroP) _ HB2.out.2 rfl ?_;intro w9 hc9 ho9 hs9 hb9;have HB9:=hid (hb9 w HB2.out.1 (Nat.le_refl _));have HC9:=hid hc9;clear ho9 hs9 hb9 hc9))
     have hl2:=load_pt (cs:=ptC p) HC9.out rfl
     refine bodyPost_ret (v:=.tuple #[.agg (ptC p).toArray,.int .i64 0]) (by simp[results,Tryz.results72,asAddr,hl2]) rfl ⟨?_,HB9.out⟩
     rw[HY.out]
    ·have b3:(e==0)=false:=by simpa using h3
     have HY:=hid (show mbQ s.data.toList=(zeroP,e) by rw[HX2.out,if_pos h3])
     go_enter Tryz.func72,Tryz.ntmps72
     go_wp2_with (first|(go_at_call 143;refine(HM.out _ (HW.out.next H0.out.1)).mono ?_;rintro e w1 ⟨rfl,hb_w1⟩;have HB1:=hid (H0.out.next hb_w1);clear hb_w1)|(refine wpList_store_blk rfl 26 (.tmp 4) (.tmp 13) rfl w1.heap.size (ptC p) rfl rfl pt_size (ptC_one p) (ptC zeroP) _ (heap_alloc_new w1 _) rfl ?_;intro w2 hc2 ho2 hs2 hb2;have HB2:=hid (HB1.out.next (hb2 w1 ((Bel.refl w1).alloc _) (Nat.le_refl _)));have HC2:=hid hc2;clear ho2 hs2 hb2 hc2)|(refine wpList_store_blk rfl 26 (.tmp 2) (.tmp 29) rfl w.heap.size ([.bool false,.string ⟨#[]⟩,.string ⟨#[]⟩,.bool false]) rfl rfl pt_size (by simp[Value.oneCell']) (ptC zeroP) _ HB2.out.2 rfl ?_;intro w9 hc9 ho9 hs9 hb9;have HB9:=hid (hb9 w HB2.out.1 (Nat.le_refl _));have HC9:=hid hc9;clear ho9 hs9 hb9 hc9))
     have hl2:=load_pt (cs:=[.bool false,.string ⟨#[]⟩,.string ⟨#[]⟩,.bool false]) HC9.out rfl
     refine bodyPost_ret (v:=.tuple #[.agg ([.bool false,.string ⟨#[]⟩,.string ⟨#[]⟩,.bool false]).toArray,.int .i64 e]) (by simp[results,Tryz.results72,asAddr,hl2]) rfl ⟨?_,HB9.out⟩
     rw[HY.out];rfl
end Go.Proofs.YtmlmkmhkmifnkaaGreatDoor.Ma
namespace Go.Proofs.YtmlmkmhkmifnkaaGreatDoor.Tb
open Go.RowKit
open Ci (splitL)
open Ma (Pt)
def bl2:List UInt8:=[32,9]
def isBl(b:UInt8):Bool:=bl2.contains b
def trm(s:List UInt8):List UInt8:=Lib.trimS s bl2
def lowI(r:Int):Int:=if 65≤r∧r≤90 then r+32 else r
def lowR(s:List UInt8):List UInt8:=Lib.mapD lowI s
structure Ln where
 at_:Nat
 key:List UInt8
 pcs:List (List UInt8)
def addPc(pcs:List (List UInt8))(s:List UInt8):List (List UInt8):=if trm s=[]then pcs else pcs++[trm s]
def keyN(s:List UInt8):Nat:=(s.takeWhile fun b=> !isBl b).length
structure Cs where
 at_:Nat
 out:List Ln
 bad:Int
def innerL(s:List UInt8):List UInt8:=Lib.trimLeftS s bl2
def lnOut(at_:Nat)(out:List Ln)(s:List UInt8):List Ln:=
 if trm (innerL s)=[]∨(innerL s).head?=some 35 then out
 else if(innerL s).length=s.length then out++[⟨at_,lowR (s.take (keyN s)),addPc [] (s.drop (keyN s))⟩]
 else match out.getLast? with
  |none=>out
  |some l=>out.dropLast++[⟨l.at_,l.key,addPc l.pcs s⟩]
def lnBad(at_:Nat)(out:List Ln)(bad:Int)(s:List UInt8):Int:=
 if trm (innerL s)=[]∨(innerL s).head?=some 35 then bad
 else if(innerL s).length=s.length then bad
 else if out=[]∧(bad<0∨(at_:Int)<bad)then at_ else bad
def lnStep(c:Cs)(s:List UInt8):Cs:=⟨c.at_+s.length+1,lnOut c.at_ c.out s,lnBad c.at_ c.out c.bad s⟩
def badB(b:UInt8):Bool:=b !=9&&b !=10&&(decide (b.toNat<32)||decide (126<b.toNat))
def badAt(s:List UInt8):Int:=match s.findIdx? badB with
 |some k=>k
 |none=> -1
def cutT(s:List UInt8):Cs:=(splitL 10 s).foldl lnStep ⟨0,[],badAt s⟩
structure En where
 key:List UInt8
 val:List UInt8
def ltK(a b:List UInt8):Bool:=decide (Lib.compareBytes a b<0)
def rank(es:List En)(k:List UInt8):Nat:=es.countP fun e=>ltK e.key k
def foundB(es:List En)(k:List UInt8):Bool:=match es[rank es k]? with
 |some e=>decide (Lib.compareBytes e.key k=0)
 |none=>false
def putE(es:List En)(e:En):List En:=es.take (rank es e.key)++e::es.drop (rank es e.key)
def parseF(bad:Int):List Ln→List En→Option (List En)
 |[],es=>if bad<0 then some es else none
 |x::r,es=>
  if 0≤bad∧bad≤x.at_ then none
  else if 320<x.key.length∨Lib.join x.pcs [32]=[]∨1000<(Lib.join x.pcs [32]).length then none
  else if foundB es x.key then none
  else if es.length=2000 then none
  else parseF bad r (putE es ⟨x.key,Lib.join x.pcs [32]⟩)
def tparse(s:List UInt8):Option (List En):=if 262144<s.length then none else parseF (cutT s).bad (cutT s).out []
def exactQ(es:List En)(k:List UInt8):Option (List UInt8):=if foundB es (lowR k)then(es[rank es (lowR k)]?).map (·.val)else none
def addrQ(es:List En)(l d:List UInt8):Option (List UInt8):=match exactQ es (l++[64]++d)with
 |some v=>some v
 |none=>exactQ es ([64]++d)
def askQ(ts:List (List En))(l d:List UInt8):Option (List UInt8):=ts.findSome? fun es=>addrQ es l d
end Go.Proofs.YtmlmkmhkmifnkaaGreatDoor.Tb