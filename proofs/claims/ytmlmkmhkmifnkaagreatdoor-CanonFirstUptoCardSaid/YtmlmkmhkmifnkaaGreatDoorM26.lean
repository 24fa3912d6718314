import Derived.Test.YtmlmkmhkmifnkaaGreatDoorM25
import Derived.Test.YtmlmkmhkmifnkaaGreatDoorM11
set_option maxHeartbeats 16000000
set_option maxRecDepth 1000000
namespace Go.Proofs.YtmlmkmhkmifnkaaGreatDoor.Ma
open Go.RowKit
open Ci (Bel Lay)
theorem atd_has:∀b:UInt8,atdL.contains b=((b==46)||patB b):=u8_forall (by decide)
theorem odd_int(b:UInt8):oddB b=(decide ((b.toNat:Int)<32)||decide ((126:Int)<(b.toNat:Int))):=odd_two b
theorem lp_quo{s:ByteArray}(h0:0<s.size)(h:s[0]=34):lpP s.data.toList=quotedP s.data.toList:=by
 unfold lpP
 have hs:=Lib.size_eq s
 have e:s.data.toList.head?=some 34:=by
  rw[List.head?_eq_getElem?,List.getElem?_eq_getElem (by omega)]
  exact congrArg some h
 rw[e];rfl
theorem lp_atom{s:ByteArray}(h:∀h0:0<s.size,s[0]≠34):lpP s.data.toList=if dottedQ (s.data.toList.take (whN atdL s.data.toList))then(s.data.toList.take (whN atdL s.data.toList),whN atdL s.data.toList)else([],0):=by
 unfold lpP
 rw[if_neg]
 intro e
 rw[beq_iff_eq]at e
 have hs:=Lib.size_eq s
 have h0:0<s.size:=by
  rcases Nat.eq_zero_or_pos s.size with f|f
  ·have:s.data.toList=[]:=List.eq_nil_of_length_eq_zero (by omega)
   rw[this]at e;cases e
  ·exact f
 rw[List.head?_eq_getElem?,List.getElem?_eq_getElem (by omega)]at e
 exact h h0 (Option.some.inj e)
theorem rloc_run(s:ByteArray)(w:World)(hs:s.size≤4194304):Calls Tryz.prog 226 #[.string s] w fun e w'=>e=.returned (.tuple #[.string ⟨(lpP s.data.toList).1.toArray⟩,.int .i64 ((lpP s.data.toList).2:Nat)])∧Bel w w':=by
 have hl:s.data.toList.length=s.size:=by rw[Lib.size_eq]
 have HL:=hid hl
 clear hl
 obtain⟨r,hr⟩:∃r,r=lpP s.data.toList:=⟨_,rfl⟩
 have HR:=hid hr
 rw[←hr]
 clear hr
 have HB0:=hid (Bel.refl w)
 by_cases hq:∃h0:0<s.size,s[0]=34
 ·obtain⟨h0,hq⟩:=hq
  have b0:decide ((0:Int)<(s.size:Int))=true:=decide_eq_true (by omega)
  have c0:(((s[0]'h0).toNat:Int)==34)=true:=byte_eq (n:=34) (by decide) hq
  have HQ:=hid (show r=quotedP s.data.toList from HR.out.trans (lp_quo h0 hq))
  have HI0:=hid (show QoI s.data.toList 1 []from⟨Nat.le_refl _,by simp,by cases locL (s.data.toList.drop 1)<;>rfl⟩)
  have HZ:=hid (show Byts w w (.slice none 0 0) []from World.ownsRow_nil _ _ _ _)
  clear hq
  go_enter Tryz.func226,Tryz.ntmps226
  go_wp2_with fail
  go_loopg [4,5] (s.size+1) (fun gg v4 v5 wr=>∃(bs:List UInt8) (x4:Option Addr) (p4 k:Nat),v4=.slice x4 bs.length p4∧v5=.int .i64 k∧k+gg=s.size+2∧1≤k∧k≤s.size+1∧Hid (Bel w wr∧Byts w wr (.slice x4 bs.length p4) bs∧QoI s.data.toList k bs))
  case atStart=>exact⟨[],none,0,1,rfl,rfl,by omega,by omega,by omega,hid ⟨Bel.refl w,HZ.out,HI0.out⟩⟩
  case round=>
   clear HI0 HZ
   obtain⟨bs,x4,p4,k,rfl,rfl,hk,hk1,hk2,H⟩:=hrel
   have HK:=hid hk
   clear hk
   by_cases hlt:k<s.size
   ·have hlt':k<s.data.toList.length:=by rw[HL.out];exact hlt
    have HC:=hid (show s.data.toList[k]'hlt'=s[k]from rfl)
    have HO:=hid (odd_int s[k])
    by_cases h1:s[k]=34
    ·have n1:(((s[k]'hlt).toNat:Int)==34)=true:=byte_eq (n:=34) (by decide) h1
     have HD:=hid (quo_some (H.out.2.2.done hlt' (HC.out.trans h1)))
     by_cases hb:bs=[]
     ·subst hb
      have HX:=hid (show r=([],0) by rw[HQ.out,HD.out,if_pos rfl])
      clear h1
      go_wp2_with fail
      go_ret2
      exact⟨by rw[HX.out];rfl,H.out.1⟩
     ·have hpos:¬bs.length=0:=fun e=>hb (List.eq_nil_of_length_eq_zero e)
      have m1:((bs.length:Int)==0)=false:=by rw[beq_eq_false_iff_ne];omega
      have HX:=hid (show r=(bs,k+1) by rw[HQ.out,HD.out,if_neg hb])
      have hcv:=conv_byts H.out.2.1
      clear h1 hb hpos
      go_wp2_with fail
      go_ret2
      exact⟨by rw[HX.out];first|rfl|(congr 2;go_num),H.out.1⟩
    ·have n1:(((s[k]'hlt).toNat:Int)==34)=false:=byte_ne (n:=34) (by decide) h1
     by_cases h92:s[k]=92
     ·have o1:decide (((s[k]'hlt).toNat:Int)<32)=false:=by rw[h92];rfl
      have o2:decide ((126:Int)<((s[k]'hlt).toNat:Int))=false:=by rw[h92];rfl
      have n2:(((s[k]'hlt).toNat:Int)==92)=true:=byte_eq (n:=92) (by decide) h92
      by_cases h5:k+1=s.size
      ·have e1:((k:Int)+1==(s.size:Int))=true:=by rw[beq_iff_eq];omega
       have HX:=hid (show r=([],0) by rw[HQ.out];exact quo_none (H.out.2.2.cut hlt' (HC.out.trans h92) (by rw[HL.out];omega)))
       clear h1 h92
       go_wp2_with fail
       go_ret2
       exact⟨by rw[HX.out];rfl,H.out.1⟩
      ·have e1:((k:Int)+1==(s.size:Int))=false:=by rw[beq_eq_false_iff_ne];omega
       have hlt2:k+1<s.size:=by omega
       have hlt2':k+1<s.data.toList.length:=by rw[HL.out];exact hlt2
       have HC2:=hid (show s.data.toList[k+1]'hlt2'=s[k+1]from rfl)
       have HO2:=hid (odd_int s[k+1])
       cases p1:decide (((s[k+1]'hlt2).toNat:Int)<32)with
       |true=>
        have HX:=hid (show r=([],0) by rw[HQ.out];exact quo_none (H.out.2.2.eodd hlt2' (HC.out.trans h92) (by rw[HC2.out,HO2.out,p1];rfl)))
        clear h1 h92
        go_wp2_with fail
        go_ret2
        exact⟨by rw[HX.out];rfl,H.out.1⟩
       |false=>
        cases p2:decide ((126:Int)<((s[k+1]'hlt2).toNat:Int))with
        |true=>
         have HX:=hid (show r=([],0) by rw[HQ.out];exact quo_none (H.out.2.2.eodd hlt2' (HC.out.trans h92) (by rw[HC2.out,HO2.out,p1,p2];rfl)))
         clear h1 h92
         go_wp2_with fail
         go_ret2
         exact⟨by rw[HX.out];rfl,H.out.1⟩
        |false=>
         have HN:=hid (show QoI s.data.toList (k+2) (bs++[s[k+1]])from by
          have:=H.out.2.2.esc hlt2' (HC.out.trans h92) (by rw[HC2.out,HO2.out,p1,p2];rfl)
          rw[HC2.out]at this;exact this)
         have hnum:=H.out.2.2.num
         have HB:=hid H.out.2.1
         have HW:=hid H.out.1
         clear h1 h92 H
         go_wp2_with (at_builtin;refine Ci.wpList_push (a0:=w) (W:=wr) rfl (.tmp 68) (.tmp 72) 48 rfl 5 (.int .u8 0) 1 1 Tryz.underlying48 uint8_infos rfl (by decide) (.slice x4 bs.length p4) bs.length _ (by rfl) HB.out HW.out #[.int .u8 (s[k+1]).toNat] (by rfl) (by rfl) (by intro u hu;simp at hu;subst hu;rfl) (by unfold maxLen;omega) (by omega) ?_;intro x2 p2' w2 hown hb;have HO3:=hid hown;have HB2:=hid hb;clear hown hb)
         go_roundg (gk-2)
         case measure=>have:=HK.out;omega
         case rel=>exact⟨bs++[s[k+1]],x2,p2',k+2,by rw[List.length_append];rfl,by go_num,by have:=HK.out;omega,by omega,by omega,hid ⟨HB2.out,byts_len (byts_snoc HO3.out rfl),HN.out⟩⟩
     ·have n2:(((s[k]'hlt).toNat:Int)==92)=false:=byte_ne (n:=92) (by decide) h92
      cases p1:decide (((s[k]'hlt).toNat:Int)<32)with
      |true=>
       have HX:=hid (show r=([],0) by rw[HQ.out];exact quo_none (H.out.2.2.odd hlt' (by rw[HC.out];exact h1) (by rw[HC.out];exact h92) (by rw[HC.out,HO.out,p1];rfl)))
       clear h1 h92
       go_wp2_with fail
       go_ret2
       exact⟨by rw[HX.out];rfl,H.out.1⟩
      |false=>
       cases p2:decide ((126:Int)<((s[k]'hlt).toNat:Int))with
       |true=>
        have HX:=hid (show r=([],0) by rw[HQ.out];exact quo_none (H.out.2.2.odd hlt' (by rw[HC.out];exact h1) (by rw[HC.out];exact h92) (by rw[HC.out,HO.out,p1,p2];rfl)))
        clear h1 h92
        go_wp2_with fail
        go_ret2
        exact⟨by rw[HX.out];rfl,H.out.1⟩
       |false=>
        have HN:=hid (show QoI s.data.toList (k+1) (bs++[s[k]])from by
         have:=H.out.2.2.plain hlt' (by rw[HC.out];exact h1) (by rw[HC.out];exact h92) (by rw[HC.out,HO.out,p1,p2];rfl)
         rw[HC.out]at this;exact this)
        have hnum:=H.out.2.2.num
        have HB:=hid H.out.2.1
        have HW:=hid H.out.1
        clear h1 h92 H
        go_wp2_with (at_builtin;refine Ci.wpList_push (a0:=w) (W:=wr) rfl (.tmp 26) (.tmp 28) 48 rfl 5 (.int .u8 0) 1 1 Tryz.underlying48 uint8_infos rfl (by decide) (.slice x4 bs.length p4) bs.length _ (by rfl) HB.out HW.out #[.int .u8 (s[k]).toNat] (by rfl) (by rfl) (by intro u hu;simp at hu;subst hu;rfl) (by unfold maxLen;omega) (by omega) ?_;intro x2 p2' w2 hown hb;have HO3:=hid hown;have HB2:=hid hb;clear hown hb)
        go_roundg (gk-1)
        case measure=>have:=HK.out;omega
        case rel=>exact⟨bs++[s[k]],x2,p2',k+1,by rw[List.length_append];rfl,by go_num,by have:=HK.out;omega,by omega,by omega,hid ⟨HB2.out,byts_len (byts_snoc HO3.out rfl),HN.out⟩⟩
   ·have HX:=hid (show r=([],0) by rw[HQ.out];exact quo_none (H.out.2.2.end_ (by rw[HL.out];omega)))
    have b1:decide ((k:Int)<(s.size:Int))=false:=decide_eq_false (by omega)
    go_wp2_with fail
    go_ret2
    exact⟨by rw[HX.out];rfl,H.out.1⟩
 ·have HNq:=hid (fun(h0:0<s.size) (e:s[0]=34)=>hq ⟨h0,e⟩)
  clear hq
  have HA:=hid (show r=_ from HR.out.trans (lp_atom fun h0 e=>HNq.out h0 e))
  have HAt:=(show Hid (∀(b:UInt8) W,Calls Tryz.prog 167 #[.int .u8 (b.toNat:Int)] W fun e w'=>e=.returned (.bool (patB b))∧w'=W)from fun b W=>isAtom_run b W)
  have HDt:=(show Hid (∀n:Nat,n≤s.size→∀W,Calls Tryz.prog 100 #[.string (s.extract 0 n)] W fun e w'=>e=.returned (.bool (dottedQ (s.data.toList.take n)))∧w'=W)from fun n hn W=>by rw[←ext_front];exact rdotted_run _ W (by rw[ByteArray.size_extract];omega))
  by_cases h0:0<s.size
  ·have b0:decide ((0:Int)<(s.size:Int))=true:=decide_eq_true (by omega)
   have c0:(((s[0]'h0).toNat:Int)==34)=false:=byte_ne (n:=34) (by decide) (HNq.out h0)
   go_enter Tryz.func226,Tryz.ntmps226
   go_wp2_with fail
   go_loopg [7] s.size (fun gg v7 wr=>∃k:Nat,v7=.int .i64 k∧k+gg=s.size∧Hid (wr=w∧whN atdL s.data.toList=k+whN atdL (s.data.toList.drop k)))
   case atStart=>exact⟨0,rfl,by omega,hid ⟨rfl,by simp⟩⟩
   case round=>
    obtain⟨k,rfl,hk,H⟩:=hrel
    have HK:=hid hk
    have hkn:k≤s.size:=by omega
    clear hk
    by_cases hlt:k<s.size
    ·have hlt':k<s.data.toList.length:=by rw[HL.out];exact hlt
     have HC:=hid (show s.data.toList[k]'hlt'=s[k]from rfl)
     have HH:=hid (atd_has s[k])
     have HA1:=(show Hid (∀W,Calls Tryz.prog 167 #[.int .u8 ((s[k]'hlt).toNat:Int)] W fun e w'=>e=.returned (.bool (patB s[k]))∧w'=W)from fun W=>HAt.out _ W)
     by_cases hd:s[k]=46
     ·have c1:(((s[k]'hlt).toNat:Int)==46)=true:=byte_eq (n:=46) (by decide) hd
      have HN:=hid (whN_step hlt' H.out.2 (by rw[HC.out,HH.out,hd];rfl))
      clear hd
      go_wp2_with fail
      go_roundg (gk-1)
      case measure=>have:=HK.out;omega
      case rel=>exact⟨k+1,by go_num,by have:=HK.out;omega,hid ⟨H.out.1,HN.out⟩⟩
     ·have c1:(((s[k]'hlt).toNat:Int)==46)=false:=byte_ne (n:=46) (by decide) hd
      have HHd:=hid (show(s[k]==46)=false from by simpa using hd)
      cases hp:patB s[k]with
      |true=>
       rw[hp]at HA1 HH
       have HN:=hid (whN_step hlt' H.out.2 (by rw[HC.out,HH.out];simp))
       clear hd hp
       go_wp2_with (first|(go_at_call 167;refine(HA1.out _).mono ?_;rintro e w1 ⟨rfl,h1⟩;have h1:=h1.symm;subst h1))
       go_roundg (gk-1)
       case measure=>have:=HK.out;omega
       case rel=>exact⟨k+1,by go_num,by have:=HK.out;omega,hid ⟨H.out.1,HN.out⟩⟩
      |false=>
       rw[hp]at HA1 HH
       have HN:=hid (whN_stop hlt' H.out.2 (by rw[HC.out,HH.out,HHd.out];rfl))
       have HD1:=(show Hid (∀W,Calls Tryz.prog 100 #[.string (s.extract 0 k)] W fun e w'=>e=.returned (.bool (dottedQ (s.data.toList.take k)))∧w'=W)from HDt.out k hkn)
       have HF:=hid (show r=if dottedQ (s.data.toList.take k)then(s.data.toList.take k,k)else([],0) by rw[HA.out,HN.out])
       clear hd hp
       cases ht:dottedQ (s.data.toList.take k)with
       |true=>
        rw[ht]at HD1 HF
        have HX:=hid (show r=(s.data.toList.take k,k)from HF.out)
        have HE:=hid (ext_front s k)
        clear ht
        go_wp2_with (first|(go_at_call 167;refine(HA1.out _).mono ?_;rintro e w1 ⟨rfl,h1⟩;have h1:=h1.symm;subst h1)|(go_at_call 100;refine(HD1.out _).mono ?_;rintro e w2 ⟨rfl,h2⟩;have h2:=h2.symm;subst h2))
        go_ret2
        exact⟨by rw[HX.out,←HE.out];rfl,by rw[H.out.1];exact Bel.refl w⟩
       |false=>
        rw[ht]at HD1 HF
        have HX:=hid (show r=([],0)from HF.out)
        clear ht
        go_wp2_with (first|(go_at_call 167;refine(HA1.out _).mono ?_;rintro e w1 ⟨rfl,h1⟩;have h1:=h1.symm;subst h1)|(go_at_call 100;refine(HD1.out _).mono ?_;rintro e w2 ⟨rfl,h2⟩;have h2:=h2.symm;subst h2))
        go_ret2
        exact⟨by rw[HX.out];rfl,by rw[H.out.1];exact Bel.refl w⟩
    ·obtain rfl:k=s.size:=by omega
     have HN:=hid (whN_end (by rw[HL.out];exact Nat.le_refl _) H.out.2)
     have HTk:=hid (show s.data.toList.take s.size=s.data.toList from List.take_of_length_le (by rw[HL.out];exact Nat.le_refl _))
     have HD1:=(show Hid (∀W,Calls Tryz.prog 100 #[.string s] W fun e w'=>e=.returned (.bool (dottedQ s.data.toList))∧w'=W)from fun W=>rdotted_run s W (by omega))
     have HF:=hid (show r=if dottedQ s.data.toList then(s.data.toList,s.size)else([],0) by rw[HA.out,HN.out,HTk.out])
     cases ht:dottedQ s.data.toList with
     |true=>
      rw[ht]at HD1 HF
      have HX:=hid (show r=(s.data.toList,s.size)from HF.out)
      clear ht
      go_wp2_with (first|(go_at_call 100;refine(HD1.out _).mono ?_;rintro e w2 ⟨rfl,h2⟩;have h2:=h2.symm;subst h2))
      go_ret2
      exact⟨by rw[HX.out];rfl,by rw[H.out.1];exact Bel.refl w⟩
     |false=>
      rw[ht]at HD1 HF
      have HX:=hid (show r=([],0)from HF.out)
      clear ht
      go_wp2_with (first|(go_at_call 100;refine(HD1.out _).mono ?_;rintro e w2 ⟨rfl,h2⟩;have h2:=h2.symm;subst h2))
      go_ret2
      exact⟨by rw[HX.out];rfl,by rw[H.out.1];exact Bel.refl w⟩
  ·have b0:decide ((0:Int)<(s.size:Int))=false:=decide_eq_false (by omega)
   go_enter Tryz.func226,Tryz.ntmps226
   go_wp2_with fail
   go_loopg [7] s.size (fun gg v7 wr=>∃k:Nat,v7=.int .i64 k∧k+gg=s.size∧Hid (wr=w∧whN atdL s.data.toList=k+whN atdL (s.data.toList.drop k)))
   case atStart=>exact⟨0,rfl,by omega,hid ⟨rfl,by simp⟩⟩
   case round=>
    obtain⟨k,rfl,hk,H⟩:=hrel
    have HK:=hid hk
    have hkn:k≤s.size:=by omega
    clear hk
    by_cases hlt:k<s.size
    ·have hlt':k<s.data.toList.length:=by rw[HL.out];exact hlt
     have HC:=hid (show s.data.toList[k]'hlt'=s[k]from rfl)
     have HH:=hid (atd_has s[k])
     have HA1:=(show Hid (∀W,Calls Tryz.prog 167 #[.int .u8 ((s[k]'hlt).toNat:Int)] W fun e w'=>e=.returned (.bool (patB s[k]))∧w'=W)from fun W=>HAt.out _ W)
     by_cases hd:s[k]=46
     ·have c1:(((s[k]'hlt).toNat:Int)==46)=true:=byte_eq (n:=46) (by decide) hd
      have HN:=hid (whN_step hlt' H.out.2 (by rw[HC.out,HH.out,hd];rfl))
      clear hd
      go_wp2_with fail
      go_roundg (gk-1)
      case measure=>have:=HK.out;omega
      case rel=>exact⟨k+1,by go_num,by have:=HK.out;omega,hid ⟨H.out.1,HN.out⟩⟩
     ·have c1:(((s[k]'hlt).toNat:Int)==46)=false:=byte_ne (n:=46) (by decide) hd
      have HHd:=hid (show(s[k]==46)=false from by simpa using hd)
      cases hp:patB s[k]with
      |true=>
       rw[hp]at HA1 HH
       have HN:=hid (whN_step hlt' H.out.2 (by rw[HC.out,HH.out];simp))
       clear hd hp
       go_wp2_with (first|(go_at_call 167;refine(HA1.out _).mono ?_;rintro e w1 ⟨rfl,h1⟩;have h1:=h1.symm;subst h1))
       go_roundg (gk-1)
       case measure=>have:=HK.out;omega
       case rel=>exact⟨k+1,by go_num,by have:=HK.out;omega,hid ⟨H.out.1,HN.out⟩⟩
      |false=>
       rw[hp]at HA1 HH
       have HN:=hid (whN_stop hlt' H.out.2 (by rw[HC.out,HH.out,HHd.out];rfl))
       have HD1:=(show Hid (∀W,Calls Tryz.prog 100 #[.string (s.extract 0 k)] W fun e w'=>e=.returned (.bool (dottedQ (s.data.toList.take k)))∧w'=W)from HDt.out k hkn)
       have HF:=hid (show r=if dottedQ (s.data.toList.take k)then(s.data.toList.take k,k)else([],0) by rw[HA.out,HN.out])
       clear hd hp
       cases ht:dottedQ (s.data.toList.take k)with
       |true=>
        rw[ht]at HD1 HF
        have HX:=hid (show r=(s.data.toList.take k,k)from HF.out)
        have HE:=hid (ext_front s k)
        clear ht
        go_wp2_with (first|(go_at_call 167;refine(HA1.out _).mono ?_;rintro e w1 ⟨rfl,h1⟩;have h1:=h1.symm;subst h1)|(go_at_call 100;refine(HD1.out _).mono ?_;rintro e w2 ⟨rfl,h2⟩;have h2:=h2.symm;subst h2))
        go_ret2
        exact⟨by rw[HX.out,←HE.out];rfl,by rw[H.out.1];exact Bel.refl w⟩
       |false=>
        rw[ht]at HD1 HF
        have HX:=hid (show r=([],0)from HF.out)
        clear ht
        go_wp2_with (first|(go_at_call 167;refine(HA1.out _).mono ?_;rintro e w1 ⟨rfl,h1⟩;have h1:=h1.symm;subst h1)|(go_at_call 100;refine(HD1.out _).mono ?_;rintro e w2 ⟨rfl,h2⟩;have h2:=h2.symm;subst h2))
        go_ret2
        exact⟨by rw[HX.out];rfl,by rw[H.out.1];exact Bel.refl w⟩
    ·obtain rfl:k=s.size:=by omega
     have HN:=hid (whN_end (by rw[HL.out];exact Nat.le_refl _) H.out.2)
     have HTk:=hid (show s.data.toList.take s.size=s.data.toList from List.take_of_length_le (by rw[HL.out];exact Nat.le_refl _))
     have HD1:=(show Hid (∀W,Calls Tryz.prog 100 #[.string s] W fun e w'=>e=.returned (.bool (dottedQ s.data.toList))∧w'=W)from fun W=>rdotted_run s W (by omega))
     have HF:=hid (show r=if dottedQ s.data.toList then(s.data.toList,s.size)else([],0) by rw[HA.out,HN.out,HTk.out])
     cases ht:dottedQ s.data.toList with
     |true=>
      rw[ht]at HD1 HF
      have HX:=hid (show r=(s.data.toList,s.size)from HF.out)
      clear ht
      go_wp2_with (first|(go_at_call 100;refine(HD1.out _).mono ?_;rintro e w2 ⟨rfl,h2⟩;have h2:=h2.symm;subst h2))
      go_ret2
      exact⟨by rw[HX.out];rfl,by rw[H.out.1];exact Bel.refl w⟩
     |false=>
      rw[ht]at HD1 HF
      have HX:=hid (show r=([],0)from HF.out)
      clear ht
      go_wp2_with (first|(go_at_call 100;refine(HD1.out _).mono ?_;rintro e w2 ⟨rfl,h2⟩;have h2:=h2.symm;subst h2))
      go_ret2
      exact⟨by rw[HX.out];rfl,by rw[H.out.1];exact Bel.refl w⟩
def twP(p:UInt8→Bool)(l:List UInt8):Nat:=(l.takeWhile p).length
theorem tw_step{p:UInt8→Bool}{l:List UInt8}{k:Nat}(hk:k<l.length)(h:twP p l=k+twP p (l.drop k))(hc:p l[k]=true):twP p l=(k+1)+twP p (l.drop (k+1)):=by
 rw[h,drop_at hk]
 unfold twP
 rw[List.takeWhile_cons,if_pos hc,List.length_cons]
 omega
theorem tw_stop{p:UInt8→Bool}{l:List UInt8}{k:Nat}(hk:k<l.length)(h:twP p l=k+twP p (l.drop k))(hc:p l[k]=false):twP p l=k:=by
 rw[h,drop_at hk]
 unfold twP
 rw[List.takeWhile_cons,hc]
 simp
theorem tw_end{p:UInt8→Bool}{l:List UInt8}{k:Nat}(hk:l.length≤k)(h:twP p l=k+twP p (l.drop k)):twP p l=k:=by
 rw[h,List.drop_eq_nil_of_le hk]
 rfl
theorem index_none{c:UInt8}:∀{l:List UInt8},c∉l→Lib.indexByte l c= -1
 |[],_=>rfl
 |b::l,h=>by
  have e:Lib.indexByte (b::l) c=if b==c then 0 else if Lib.indexByte l c== -1 then -1 else Lib.indexByte l c+1:=rfl
  rw[e,if_neg (by simpa using fun f:b=c=>h (by simp[f])),index_none (fun f=>h (List.mem_cons_of_mem _ f))]
  rfl
theorem index_first{c:UInt8}:∀{l:List UInt8} {k:Nat} (hk:k<l.length),c∉l.take k→l[k]=c→Lib.indexByte l c=(k:Int)
 |[],k,hk,_,_=>by cases hk
 |b::l,0,_,_,h=>by
  have e:Lib.indexByte (b::l) c=if b==c then 0 else if Lib.indexByte l c== -1 then -1 else Lib.indexByte l c+1:=rfl
  have h:b=c:=h
  rw[e,if_pos (by simpa using h)];rfl
 |b::l,k+1,hk,hn,h=>by
  have e:Lib.indexByte (b::l) c=if b==c then 0 else if Lib.indexByte l c== -1 then -1 else Lib.indexByte l c+1:=rfl
  have hk':k<l.length:=by simpa using hk
  have ih:=index_first (c:=c) hk' (fun f=>hn (by rw[List.take_succ_cons];exact List.mem_cons_of_mem _ f)) (by simpa using h)
  rw[e,if_neg (by simpa using fun f:b=c=>hn (by rw[List.take_succ_cons,f];exact List.mem_cons_self ..)),ih,if_neg (by first|(simp;done)|(simp;omega))]
  omega
def domB(b:UInt8):Bool:=ldhB b||b==46
theorem dom_brk{s:ByteArray}(h0:0<s.size)(h:s[0]=91):domTextP s.data.toList=s.data.toList.take (if 0≤Lib.indexByte s.data.toList 93 then(Lib.indexByte s.data.toList 93).toNat+1 else 0):=by
 unfold domTextP
 have hs:=Lib.size_eq s
 have e:s.data.toList.head?=some 91:=by
  rw[List.head?_eq_getElem?,List.getElem?_eq_getElem (by omega)]
  exact congrArg some h
 rw[e];rfl
theorem dom_plain{s:ByteArray}(h:∀h0:0<s.size,s[0]≠91):domTextP s.data.toList=s.data.toList.take (twP domB s.data.toList):=by
 unfold domTextP
 rw[if_neg]
 ·rfl
 ·intro e
  rw[beq_iff_eq]at e
  have hs:=Lib.size_eq s
  have h0:0<s.size:=by
   rcases Nat.eq_zero_or_pos s.size with f|f
   ·have:s.data.toList=[]:=List.eq_nil_of_length_eq_zero (by omega)
    rw[this]at e;cases e
   ·exact f
  rw[List.head?_eq_getElem?,List.getElem?_eq_getElem (by omega)]at e
  exact h h0 (Option.some.inj e)
theorem not_step{l:List UInt8}{k:Nat}{c:UInt8}(hk:k<l.length)(h:c∉l.take k)(hn:l[k]≠c):c∉l.take (k+1):=by
 rw[List.take_succ_eq_append_getElem hk]
 intro f
 rcases List.mem_append.1 f with f|f
 ·exact h f
 ·exact hn (List.mem_singleton.1 f).symm
theorem rdomt_run(s:ByteArray)(w:World)(hs:s.size≤4194304):Calls Tryz.prog 227 #[.string s] w fun e w'=>e=.returned (.tuple #[.string ⟨(domTextP s.data.toList).toArray⟩,.int .i64 ((domTextP s.data.toList).length:Nat)])∧w'=w:=by
 have hl:s.data.toList.length=s.size:=by rw[Lib.size_eq]
 have HL:=hid hl
 clear hl
 obtain⟨r,hr⟩:∃r,r=domTextP s.data.toList:=⟨_,rfl⟩
 have HR:=hid hr
 rw[←hr]
 clear hr
 by_cases hq:∃h0:0<s.size,s[0]=91
 ·obtain⟨h0,hq⟩:=hq
  have b0:decide ((0:Int)<(s.size:Int))=true:=decide_eq_true (by omega)
  have c0:(((s[0]'h0).toNat:Int)==91)=true:=byte_eq (n:=91) (by decide) hq
  have HQ:=hid (HR.out.trans (dom_brk h0 hq))
  clear hq
  go_enter Tryz.func227,Tryz.ntmps227
  go_wp2_with fail
  go_loopg [4] s.size (fun gg v4 wr=>∃k:Nat,v4=.int .i64 k∧k+gg=s.size∧Hid (wr=w∧(93:UInt8)∉s.data.toList.take k))
  case atStart=>exact⟨0,rfl,by omega,hid ⟨rfl,by simp⟩⟩
  case round=>
   obtain⟨k,rfl,hk,H⟩:=hrel
   have HK:=hid hk
   have hkn:k≤s.size:=by omega
   clear hk
   by_cases hlt:k<s.size
   ·have hlt':k<s.data.toList.length:=by rw[HL.out];exact hlt
    have HC:=hid (show s.data.toList[k]'hlt'=s[k]from rfl)
    by_cases hc:s[k]=93
    ·have c1:(((s[k]'hlt).toNat:Int)==93)=true:=byte_eq (n:=93) (by decide) hc
     have HX:=hid (show r=s.data.toList.take (k+1) by
      rw[HQ.out,index_first hlt' H.out.2 (HC.out.trans hc),if_pos (by omega),Int.toNat_natCast])
     have HXL:=hid (show r.length=k+1 by rw[HX.out,List.length_take,HL.out];omega)
     have HE:=hid (ext_front s (k+1))
     clear hc
     go_wp2_with fail
     go_ret2
     exact⟨by rw[HXL.out,HX.out,←HE.out];first|rfl|(congr 2;go_num),H.out.1⟩
    ·have c1:(((s[k]'hlt).toNat:Int)==93)=false:=byte_ne (n:=93) (by decide) hc
     have HN:=hid (not_step hlt' H.out.2 fun e=>hc (HC.out.symm.trans e))
     clear hc
     go_wp2_with fail
     go_roundg (gk-1)
     case measure=>have:=HK.out;omega
     case rel=>exact⟨k+1,by go_num,by have:=HK.out;omega,hid ⟨H.out.1,HN.out⟩⟩
   ·obtain rfl:k=s.size:=by omega
    have HX:=hid (show r=[] by
     have h93:=H.out.2
     rw[List.take_of_length_le (by rw[HL.out];exact Nat.le_refl _)]at h93
     rw[HQ.out,index_none h93];rfl)
    go_wp2_with fail
    go_ret2
    exact⟨by rw[HX.out];rfl,H.out.1⟩
 ·have HNq:=hid (fun(h0:0<s.size) (e:s[0]=91)=>hq ⟨h0,e⟩)
  clear hq
  have HA:=hid (HR.out.trans (dom_plain fun h0 e=>HNq.out h0 e))
  have HLe:=(show Hid (∀(b:UInt8) W,Calls Tryz.prog 165 #[.int .u8 (b.toNat:Int)] W fun e w'=>e=.returned (.bool (letB b))∧w'=W)from fun b W=>letter_run b W)
  have HDi:=(show Hid (∀(b:UInt8) W,Calls Tryz.prog 166 #[.int .u8 (b.toNat:Int)] W fun e w'=>e=.returned (.bool (digB b))∧w'=W)from fun b W=>digit_run b W)
  by_cases h0:0<s.size
  ·have b0:decide ((0:Int)<(s.size:Int))=true:=decide_eq_true (by omega)
   have c0:(((s[0]'h0).toNat:Int)==91)=false:=byte_ne (n:=91) (by decide) (HNq.out h0)
   go_enter Tryz.func227,Tryz.ntmps227
   go_wp2_with fail
   go_loopg [5] s.size (fun gg v5 wr=>∃k:Nat,v5=.int .i64 k∧k+gg=s.size∧Hid (wr=w∧twP domB s.data.toList=k+twP domB (s.data.toList.drop k)))
   case atStart=>exact⟨0,rfl,by omega,hid ⟨rfl,by simp⟩⟩
   case round=>
    obtain⟨k,rfl,hk,H⟩:=hrel
    have HK:=hid hk
    have hkn:k≤s.size:=by omega
    clear hk
    by_cases hlt:k<s.size
    ·have hlt':k<s.data.toList.length:=by rw[HL.out];exact hlt
     have HC:=hid (show s.data.toList[k]'hlt'=s[k]from rfl)
     have HLd:=hid (show domB (s.data.toList[k]'hlt')=(((letB s[k]||digB s[k])||s[k]==45)||s[k]==46) by rw[lg_two];rfl)
     have HL1:=(show Hid (∀W,Calls Tryz.prog 165 #[.int .u8 ((s[k]'hlt).toNat:Int)] W fun e w'=>e=.returned (.bool (letB s[k]))∧w'=W)from fun W=>HLe.out _ W)
     have HD1:=(show Hid (∀W,Calls Tryz.prog 166 #[.int .u8 ((s[k]'hlt).toNat:Int)] W fun e w'=>e=.returned (.bool (digB s[k]))∧w'=W)from fun W=>HDi.out _ W)
     cases g1:letB s[k]with
     |true=>
      rw[g1]at HL1 HLd
      have HN:=hid (tw_step hlt' H.out.2 (by rw[HLd.out];rfl))
      clear g1
      go_wp2_with (first|(go_at_call 165;refine(HL1.out _).mono ?_;rintro e w1 ⟨rfl,h1⟩;have h1:=h1.symm;subst h1))
      go_roundg (gk-1)
      case measure=>have:=HK.out;omega
      case rel=>exact⟨k+1,by go_num,by have:=HK.out;omega,hid ⟨H.out.1,HN.out⟩⟩
     |false=>
      rw[g1]at HL1 HLd
      clear g1
      cases g2:digB s[k]with
      |true=>
       rw[g2]at HD1 HLd
       have HN:=hid (tw_step hlt' H.out.2 (by rw[HLd.out];rfl))
       clear g2
       go_wp2_with (first|(go_at_call 165;refine(HL1.out _).mono ?_;rintro e w1 ⟨rfl,h1⟩;have h1:=h1.symm;subst h1)|(go_at_call 166;refine(HD1.out _).mono ?_;rintro e w2 ⟨rfl,h2⟩;have h2:=h2.symm;subst h2))
       go_roundg (gk-1)
       case measure=>have:=HK.out;omega
       case rel=>exact⟨k+1,by go_num,by have:=HK.out;omega,hid ⟨H.out.1,HN.out⟩⟩
      |false=>
       rw[g2]at HD1 HLd
       clear g2
       by_cases g3:s[k]=45
       ·have c3:(((s[k]'hlt).toNat:Int)==45)=true:=byte_eq (n:=45) (by decide) g3
        have HN:=hid (tw_step hlt' H.out.2 (by rw[HLd.out,g3];rfl))
        clear g3
        go_wp2_with (first|(go_at_call 165;refine(HL1.out _).mono ?_;rintro e w1 ⟨rfl,h1⟩;have h1:=h1.symm;subst h1)|(go_at_call 166;refine(HD1.out _).mono ?_;rintro e w2 ⟨rfl,h2⟩;have h2:=h2.symm;subst h2))
        go_roundg (gk-1)
        case measure=>have:=HK.out;omega
        case rel=>exact⟨k+1,by go_num,by have:=HK.out;omega,hid ⟨H.out.1,HN.out⟩⟩
       ·have c3:(((s[k]'hlt).toNat:Int)==45)=false:=byte_ne (n:=45) (by decide) g3
        by_cases g4:s[k]=46
        ·have c4:(((s[k]'hlt).toNat:Int)==46)=true:=byte_eq (n:=46) (by decide) g4
         have HN:=hid (tw_step hlt' H.out.2 (by rw[HLd.out,g4];rfl))
         clear g3 g4
         go_wp2_with (first|(go_at_call 165;refine(HL1.out _).mono ?_;rintro e w1 ⟨rfl,h1⟩;have h1:=h1.symm;subst h1)|(go_at_call 166;refine(HD1.out _).mono ?_;rintro e w2 ⟨rfl,h2⟩;have h2:=h2.symm;subst h2))
         go_roundg (gk-1)
         case measure=>have:=HK.out;omega
         case rel=>exact⟨k+1,by go_num,by have:=HK.out;omega,hid ⟨H.out.1,HN.out⟩⟩
        ·have c4:(((s[k]'hlt).toNat:Int)==46)=false:=byte_ne (n:=46) (by decide) g4
         have HN:=hid (tw_stop hlt' H.out.2 (by rw[HLd.out,beq_eq_false_iff_ne.2 g3,beq_eq_false_iff_ne.2 g4];rfl))
         have HX:=hid (show r=s.data.toList.take k by rw[HA.out,HN.out])
         have HXL:=hid (show r.length=k by rw[HX.out,List.length_take,HL.out];omega)
         have HE:=hid (ext_front s k)
         clear g3 g4
         go_wp2_with (first|(go_at_call 165;refine(HL1.out _).mono ?_;rintro e w1 ⟨rfl,h1⟩;have h1:=h1.symm;subst h1)|(go_at_call 166;refine(HD1.out _).mono ?_;rintro e w2 ⟨rfl,h2⟩;have h2:=h2.symm;subst h2))
         go_ret2
         exact⟨by rw[HXL.out,HX.out,←HE.out];rfl,H.out.1⟩
    ·obtain rfl:k=s.size:=by omega
     have HN:=hid (tw_end (by rw[HL.out];exact Nat.le_refl _) H.out.2)
     have HX:=hid (show r=s.data.toList by rw[HA.out,HN.out];exact List.take_of_length_le (by rw[HL.out];exact Nat.le_refl _))
     have HXL:=hid (show r.length=s.size by rw[HX.out,HL.out])
     go_wp2_with fail
     go_ret2
     exact⟨by rw[HXL.out,HX.out];rfl,H.out.1⟩
  ·have b0:decide ((0:Int)<(s.size:Int))=false:=decide_eq_false (by omega)
   go_enter Tryz.func227,Tryz.ntmps227
   go_wp2_with fail
   go_loopg [5] s.size (fun gg v5 wr=>∃k:Nat,v5=.int .i64 k∧k+gg=s.size∧Hid (wr=w∧twP domB s.data.toList=k+twP domB (s.data.toList.drop k)))
   case atStart=>exact⟨0,rfl,by omega,hid ⟨rfl,by simp⟩⟩
   case round=>
    obtain⟨k,rfl,hk,H⟩:=hrel
    have HK:=hid hk
    have hkn:k≤s.size:=by omega
    clear hk
    by_cases hlt:k<s.size
    ·have hlt':k<s.data.toList.length:=by rw[HL.out];exact hlt
     have HC:=hid (show s.data.toList[k]'hlt'=s[k]from rfl)
     have HLd:=hid (show domB (s.data.toList[k]'hlt')=(((letB s[k]||digB s[k])||s[k]==45)||s[k]==46) by rw[lg_two];rfl)
     have HL1:=(show Hid (∀W,Calls Tryz.prog 165 #[.int .u8 ((s[k]'hlt).toNat:Int)] W fun e w'=>e=.returned (.bool (letB s[k]))∧w'=W)from fun W=>HLe.out _ W)
     have HD1:=(show Hid (∀W,Calls Tryz.prog 166 #[.int .u8 ((s[k]'hlt).toNat:Int)] W fun e w'=>e=.returned (.bool (digB s[k]))∧w'=W)from fun W=>HDi.out _ W)
     cases g1:letB s[k]with
     |true=>
      rw[g1]at HL1 HLd
      have HN:=hid (tw_step hlt' H.out.2 (by rw[HLd.out];rfl))
      clear g1
      go_wp2_with (first|(go_at_call 165;refine(HL1.out _).mono ?_;rintro e w1 ⟨rfl,h1⟩;have h1:=h1.symm;subst h1))
      go_roundg (gk-1)
      case measure=>have:=HK.out;omega
      case rel=>exact⟨k+1,by go_num,by have:=HK.out;omega,hid ⟨H.out.1,HN.out⟩⟩
     |false=>
      rw[g1]at HL1 HLd
      clear g1
      cases g2:digB s[k]with
      |true=>
       rw[g2]at HD1 HLd
       have HN:=hid (tw_step hlt' H.out.2 (by rw[HLd.out];rfl))
       clear g2
       go_wp2_with (first|(go_at_call 165;refine(HL1.out _).mono ?_;rintro e w1 ⟨rfl,h1⟩;have h1:=h1.symm;subst h1)|(go_at_call 166;refine(HD1.out _).mono ?_;rintro e w2 ⟨rfl,h2⟩;have h2:=h2.symm;subst h2))
       go_roundg (gk-1)
       case measure=>have:=HK.out;omega
       case rel=>exact⟨k+1,by go_num,by have:=HK.out;omega,hid ⟨H.out.1,HN.out⟩⟩
      |false=>
       rw[g2]at HD1 HLd
       clear g2
       by_cases g3:s[k]=45
       ·have c3:(((s[k]'hlt).toNat:Int)==45)=true:=byte_eq (n:=45) (by decide) g3
        have HN:=hid (tw_step hlt' H.out.2 (by rw[HLd.out,g3];rfl))
        clear g3
        go_wp2_with (first|(go_at_call 165;refine(HL1.out _).mono ?_;rintro e w1 ⟨rfl,h1⟩;have h1:=h1.symm;subst h1)|(go_at_call 166;refine(HD1.out _).mono ?_;rintro e w2 ⟨rfl,h2⟩;have h2:=h2.symm;subst h2))
        go_roundg (gk-1)
        case measure=>have:=HK.out;omega
        case rel=>exact⟨k+1,by go_num,by have:=HK.out;omega,hid ⟨H.out.1,HN.out⟩⟩
       ·have c3:(((s[k]'hlt).toNat:Int)==45)=false:=byte_ne (n:=45) (by decide) g3
        by_cases g4:s[k]=46
        ·have c4:(((s[k]'hlt).toNat:Int)==46)=true:=byte_eq (n:=46) (by decide) g4
         have HN:=hid (tw_step hlt' H.out.2 (by rw[HLd.out,g4];rfl))
         clear g3 g4
         go_wp2_with (first|(go_at_call 165;refine(HL1.out _).mono ?_;rintro e w1 ⟨rfl,h1⟩;have h1:=h1.symm;subst h1)|(go_at_call 166;refine(HD1.out _).mono ?_;rintro e w2 ⟨rfl,h2⟩;have h2:=h2.symm;subst h2))
         go_roundg (gk-1)
         case measure=>have:=HK.out;omega
         case rel=>exact⟨k+1,by go_num,by have:=HK.out;omega,hid ⟨H.out.1,HN.out⟩⟩
        ·have c4:(((s[k]'hlt).toNat:Int)==46)=false:=byte_ne (n:=46) (by decide) g4
         have HN:=hid (tw_stop hlt' H.out.2 (by rw[HLd.out,beq_eq_false_iff_ne.2 g3,beq_eq_false_iff_ne.2 g4];rfl))
         have HX:=hid (show r=s.data.toList.take k by rw[HA.out,HN.out])
         have HXL:=hid (show r.length=k by rw[HX.out,List.length_take,HL.out];omega)
         have HE:=hid (ext_front s k)
         clear g3 g4
         go_wp2_with (first|(go_at_call 165;refine(HL1.out _).mono ?_;rintro e w1 ⟨rfl,h1⟩;have h1:=h1.symm;subst h1)|(go_at_call 166;refine(HD1.out _).mono ?_;rintro e w2 ⟨rfl,h2⟩;have h2:=h2.symm;subst h2))
         go_ret2
         exact⟨by rw[HXL.out,HX.out,←HE.out];rfl,H.out.1⟩
    ·obtain rfl:k=s.size:=by omega
     have HN:=hid (tw_end (by rw[HL.out];exact Nat.le_refl _) H.out.2)
     have HX:=hid (show r=s.data.toList by rw[HA.out,HN.out];exact List.take_of_length_le (by rw[HL.out];exact Nat.le_refl _))
     have HXL:=hid (show r.length=s.size by rw[HX.out,HL.out])
     go_wp2_with fail
     go_ret2
     exact⟨by rw[HXL.out,HX.out];rfl,H.out.1⟩
end Go.Proofs.YtmlmkmhkmifnkaaGreatDoor.Ma