import Derived.Test.YtmlmkmhkmifnkaaGreatDoorK14
import Derived.Lib.Builder
import Derived.Lib.AppendStr
set_option maxHeartbeats 16000000
set_option maxRecDepth 1000000
namespace Go.Proofs.YtmlmkmhkmifnkaaGreatDoor.Ma
open Go.RowKit
open Ci (Bel Lay ext_bytes Nt netC netV zeroN zeroN_fits addrQ errQ netC_one net_len range_net formQ rightQ)
theorem ext_list(s:ByteArray)(a b:Nat):(s.extract a b).data.toList=(s.data.toList.take b).drop a:=by
 rw[ByteArray.data_extract,Array.toList_extract,List.extract_eq_take_drop,List.drop_take]
theorem ext_front(s:ByteArray)(b:Nat):(s.extract 0 b).data.toList=s.data.toList.take b:=by
 rw[ext_list,List.drop_zero]
theorem ext_back(s:ByteArray)(a:Nat):(s.extract a s.size).data.toList=s.data.toList.drop a:=by
 rw[ext_list,Lib.size_eq,List.take_length]
theorem head_at{s:ByteArray}(h:0<s.size):s.data.toList.head?=some s[0]:=by
 rw[List.head?_eq_getElem?,List.getElem?_eq_getElem (by rw[←Lib.size_eq];exact h)]
 rfl
theorem last_at{s:ByteArray}{m:Nat}(h:m<s.size)(h1:m+1=s.size):s.data.toList.getLast?=some s[m]:=by
 have:=Lib.size_eq s
 rw[List.getLast?_eq_getElem?,show s.data.toList.length-1=m by omega,List.getElem?_eq_getElem (by omega)]
 rfl
def litQ(J:List UInt8)(six:Bool):List UInt8×Bool×Int:=match addrQ J with
 |some n=>if n.six=six then(formQ n,true,0)else([],false,90)
 |none=>([],false,90)
def namQ(s:List UInt8):List UInt8×Bool×Int:=if !namedQ s then([],false,90)else if 255<s.length then([],false,91)else(lowL s,false,0)
theorem dom_lit{s:List UInt8}(h:isLit s=true):domainQ s=litQ (stripQ (innerQ s)) (sixQ' (innerQ s)):=by
 unfold domainQ litQ;rw[if_pos h];rfl
theorem dom_nam{s:List UInt8}(h:isLit s=false):domainQ s=namQ s:=by
 unfold domainQ namQ;rw[if_neg (by rw[h];exact Bool.false_ne_true)]
theorem pdomain_run(s:ByteArray)(w:World)(hw:Lay w)(hs:s.size≤4194304):
 Calls Tryz.prog 26 #[.string s] w fun e w'=>e=.returned (.tuple #[.string ⟨(domainQ s.data.toList).1.toArray⟩,.bool (domainQ s.data.toList).2.1,.int .i64 (domainQ s.data.toList).2.2])∧Bel w w':=by
 have HW:=hid hw
 have hsz:=Lib.size_eq s
 have HSS:=hid (And.intro hs hsz)
 by_cases h1:1<s.size
 ·have b1:decide ((1:Int)<(s.size:Int))=true:=decide_eq_true (by omega)
  have h0:0<s.size:=by omega
  obtain⟨m,hm⟩:∃m,m+1=s.size:=⟨s.size-1,by omega⟩
  have hml:m<s.size:=by omega
  have hm1:1≤m:=by omega
  have hla:wrap64 ((s.size:Int)-1)=(m:Int):=by rw[show(s.size:Int)-1=(m:Int) by omega];unfold wrap64;omega
  have HLT:=hid (show isLit s.data.toList=(s[0]==91&&s[m]==93) by
   unfold isLit
   rw[head_at h0,last_at hml hm,decide_eq_true (by omega),Bool.true_and]
   rfl)
  by_cases h2:s[0]=91
  ·have c2:(((s[0]'h0).toNat:Int)==91)=true:=byte_eq (n:=91) (by decide) h2
   by_cases h3:s[m]=93
   ·have c3:(((s[m]'hml).toNat:Int)==93)=true:=byte_eq (n:=93) (by decide) h3
    have hlit:isLit s.data.toList=true:=by rw[HLT.out,h2,h3];rfl
    have HIn:=hid (show innerQ s.data.toList=(s.extract 1 m).data.toList by
     unfold innerQ
     rw[ext_list,show s.data.toList.length-1=m by omega])
    have hIs:(s.extract 1 m).size=m-1:=by rw[ByteArray.size_extract];omega
    have HX:=hid (dom_lit hlit)
    rw[HIn.out]at HX
    have hIl:(s.extract 1 m).data.toList.length=m-1:=by rw[←Lib.size_eq];exact hIs
    generalize hI:s.extract 1 m=I at HX hIs hIl
    clear HIn
    have hIb:I.size≤4194304:=by omega
    clear hIs hIl
    clear HLT h2 h3 hm
    by_cases h4:4<I.size
    ·have b4:decide ((4:Int)<(I.size:Int))=true:=decide_eq_true (by omega)
     have HLo:=(show Hid (∀W,Calls Tryz.prog 63 #[.string (I.extract 0 5)] W fun e w'=>e=.returned (.string ⟨(lowL (I.data.toList.take 5)).toArray⟩)∧Bel W w')from fun W=>by
      have:=lower_run (I.extract 0 5) W (by rw[ByteArray.size_extract];omega)
      rw[ext_front]at this
      exact this)
     have H6:=hid (show sixQ' I.data.toList=((⟨(lowL (I.data.toList.take 5)).toArray⟩:ByteArray).toList==[105,112,118,54,58]) by
      unfold sixQ'
      rw[decide_eq_true (by rw[←Lib.size_eq];exact h4),Bool.true_and,ByteArray.toList_eq]
      rfl)
     generalize (⟨(lowL (I.data.toList.take 5)).toArray⟩:ByteArray)=lo at HLo H6
     cases h6':(lo.toList==[105,112,118,54,58])with
     |true=>
      have HX2:=hid (show domainQ s.data.toList=litQ (I.extract 5 I.size).data.toList true by
       rw[HX.out,H6.out,h6',ext_back]
       unfold stripQ
       rw[H6.out,h6',if_pos rfl])
      clear HX
      have HX:=hid HX2.out
      unfold litQ at HX
      clear HX2
      have HA:=(show Hid (∀W,Lay W→Calls Tryz.prog 64 #[.string (I.extract 5 I.size)] W fun e w'=>e=.returned (.tuple #[.agg (netC ((addrQ ((I.extract 5 I.size)).data.toList).getD zeroN)).toArray,.int .i64 (errQ (addrQ ((I.extract 5 I.size)).data.toList))])∧Bel W w')from fun W hW=>Ci.addr_run _ W hW (by first|omega|(rw[ByteArray.size_extract];omega)))
      have HN:=hid (addr_fits ((I.extract 5 I.size)).data.toList)
      have HG:=hid (fun n (h:addrQ ((I.extract 5 I.size)).data.toList=some n)=>addr_right h)
      generalize domainQ s.data.toList=r at HX⊢
      generalize addrQ ((I.extract 5 I.size)).data.toList=oa at HA HN HX HG
      have HZ:=hid (net_len _ HN.out.len)
      have HL:=hid (show(netC (oa.getD zeroN)).length=(netC zeroN).length by rw[Ci.netC_len _ HN.out.len,Ci.netC_len zeroN zeroN_fits.len])
      cases oa with
      |none=>
       have HY:=hid (show r=([],false,90)from HX.out)
       rw[HY.out]
       have HA:=(show Hid (∀W,Lay W→Calls Tryz.prog 64 #[.string (I.extract 5 I.size)] W fun e w'=>e=.returned (.tuple #[.agg (netC zeroN).toArray,.int .i64 70])∧Bel W w')from HA.out)
       have HZ:=hid (net_len zeroN zeroN_fits.len)
       obtain⟨a,ha⟩:∃a,a=zeroN:=⟨_,rfl⟩
       rw[←ha]at HA HZ
       have HL:=hid (show(netC a).length=(netC zeroN).length by rw[ha])
       clear ha hlit hw hs hsz
       go_enter Tryz.func26,Tryz.ntmps26
       go_wp2_with (first|(go_at_call 63;refine(HLo.out _).mono ?_;rintro e w1 ⟨rfl,hb1⟩;have HB1:=hid hb1)|(go_at_call 64;refine(HA.out _ (HW.out.next HB1.out)).mono ?_;rintro e w2 ⟨rfl,hb2⟩)|(refine wpList_store_blk rfl 86 (.tmp 7) (.tmp 47) rfl w2.heap.size (netC a) rfl rfl HZ.out (netC_one a) (netC zeroN) _ (heap_alloc_new w2 _) HL.out ?_;intro w3 hc3 ho3 hs3 hb3;have HB3:=hid (hb3 w2 ((Bel.refl w2).alloc _) (Nat.le_refl _));have c3:w3.cell? ⟨w2.heap.size,0,none⟩=some (.bool a.six):=(by simp[World.cell?,hc3,netC]);clear ho3 hs3 hb3))
       go_ret3
       exact⟨rfl,HB1.out.trans (hb2.trans HB3.out)⟩
      |some a=>
       have HA:=(show Hid (∀W,Lay W→Calls Tryz.prog 64 #[.string (I.extract 5 I.size)] W fun e w'=>e=.returned (.tuple #[.agg (netC a).toArray,.int .i64 0])∧Bel W w')from HA.out)
       have HZ:=(show Hid ((Tryz.prog.info? 86).map (·.size)=some (netC a).length)from HZ.out)
       have HL:=(show Hid ((netC a).length=(netC zeroN).length)from HL.out)
       by_cases h6:a.six=true
       ·have HY:=hid (show r=(formQ a,true,0)from HX.out.trans (if_pos h6))
        rw[HY.out]
        have HV:=(show Hid (∀W,Lay W→Calls Tryz.prog 65 #[.agg (netC a).toArray] W fun e w'=>e=.returned (.tuple #[.string ⟨(formQ a).toArray⟩,.int .i64 (Ci.errS a)])∧Bel W w')from fun W hW=>by
         have:=Ci.show_run a HN.out W hW
         have e:Ci.showQ a=some (formQ a):=by unfold Ci.showQ;rw[if_pos (HG.out a rfl)]
         rw[e]at this
         exact this)
        generalize Ci.errS a=es at HV
        clear hlit hw hs hsz
        go_enter Tryz.func26,Tryz.ntmps26
        go_wp2_with (first|(go_at_call 63;refine(HLo.out _).mono ?_;rintro e w1 ⟨rfl,hb1⟩;have HB1:=hid hb1)|(go_at_call 64;refine(HA.out _ (HW.out.next HB1.out)).mono ?_;rintro e w2 ⟨rfl,hb2⟩)|(refine wpList_store_blk rfl 86 (.tmp 7) (.tmp 47) rfl w2.heap.size (netC a) rfl rfl HZ.out (netC_one a) (netC zeroN) _ (heap_alloc_new w2 _) HL.out ?_;intro w3 hc3 ho3 hs3 hb3;have HB3:=hid (hb3 w2 ((Bel.refl w2).alloc _) (Nat.le_refl _));have c3:w3.cell? ⟨w2.heap.size,0,none⟩=some (.bool a.six):=(by simp[World.cell?,hc3,netC]);clear ho3 hs3 hb3)|(refine wpList_load_mid rfl 86 (.tmp 7) rfl w2.heap.size 0 rfl (netC a) _ (range_net hc3) Tryz.underlying86 rfl HZ.out ?_)|(go_at_call 65;refine(HV.out _ (HW.out.next (HB1.out.trans (hb2.trans HB3.out)))).mono ?_;rintro e w4 ⟨rfl,hb4⟩))
        go_ret3
        exact⟨rfl,HB1.out.trans (hb2.trans (HB3.out.trans hb4))⟩
       ·have HY:=hid (show r=([],false,90)from HX.out.trans (if_neg h6))
        rw[HY.out]
        have h6:a.six=false:=by simpa using h6
        clear hlit hw hs hsz
        go_enter Tryz.func26,Tryz.ntmps26
        go_wp2_with (first|(go_at_call 63;refine(HLo.out _).mono ?_;rintro e w1 ⟨rfl,hb1⟩;have HB1:=hid hb1)|(go_at_call 64;refine(HA.out _ (HW.out.next HB1.out)).mono ?_;rintro e w2 ⟨rfl,hb2⟩)|(refine wpList_store_blk rfl 86 (.tmp 7) (.tmp 47) rfl w2.heap.size (netC a) rfl rfl HZ.out (netC_one a) (netC zeroN) _ (heap_alloc_new w2 _) HL.out ?_;intro w3 hc3 ho3 hs3 hb3;have HB3:=hid (hb3 w2 ((Bel.refl w2).alloc _) (Nat.le_refl _));have c3:w3.cell? ⟨w2.heap.size,0,none⟩=some (.bool a.six):=(by simp[World.cell?,hc3,netC]);clear ho3 hs3 hb3))
        go_ret3
        exact⟨rfl,HB1.out.trans (hb2.trans HB3.out)⟩
     |false=>
      have HX2:=hid (show domainQ s.data.toList=litQ I.data.toList false by
       rw[HX.out,H6.out,h6']
       unfold stripQ
       rw[H6.out,h6',if_neg Bool.false_ne_true])
      clear HX
      have HX:=hid HX2.out
      unfold litQ at HX
      clear HX2
      have HA:=(show Hid (∀W,Lay W→Calls Tryz.prog 64 #[.string I] W fun e w'=>e=.returned (.tuple #[.agg (netC ((addrQ (I).data.toList).getD zeroN)).toArray,.int .i64 (errQ (addrQ (I).data.toList))])∧Bel W w')from fun W hW=>Ci.addr_run _ W hW (by first|omega|(rw[ByteArray.size_extract];omega)))
      have HN:=hid (addr_fits (I).data.toList)
      have HG:=hid (fun n (h:addrQ (I).data.toList=some n)=>addr_right h)
      generalize domainQ s.data.toList=r at HX⊢
      generalize addrQ (I).data.toList=oa at HA HN HX HG
      have HZ:=hid (net_len _ HN.out.len)
      have HL:=hid (show(netC (oa.getD zeroN)).length=(netC zeroN).length by rw[Ci.netC_len _ HN.out.len,Ci.netC_len zeroN zeroN_fits.len])
      cases oa with
      |none=>
       have HY:=hid (show r=([],false,90)from HX.out)
       rw[HY.out]
       have HA:=(show Hid (∀W,Lay W→Calls Tryz.prog 64 #[.string I] W fun e w'=>e=.returned (.tuple #[.agg (netC zeroN).toArray,.int .i64 70])∧Bel W w')from HA.out)
       have HZ:=hid (net_len zeroN zeroN_fits.len)
       obtain⟨a,ha⟩:∃a,a=zeroN:=⟨_,rfl⟩
       rw[←ha]at HA HZ
       have HL:=hid (show(netC a).length=(netC zeroN).length by rw[ha])
       clear ha hlit hw hs hsz
       go_enter Tryz.func26,Tryz.ntmps26
       go_wp2_with (first|(go_at_call 63;refine(HLo.out _).mono ?_;rintro e w1 ⟨rfl,hb1⟩;have HB1:=hid hb1)|(go_at_call 64;refine(HA.out _ (HW.out.next HB1.out)).mono ?_;rintro e w2 ⟨rfl,hb2⟩)|(refine wpList_store_blk rfl 86 (.tmp 7) (.tmp 47) rfl w2.heap.size (netC a) rfl rfl HZ.out (netC_one a) (netC zeroN) _ (heap_alloc_new w2 _) HL.out ?_;intro w3 hc3 ho3 hs3 hb3;have HB3:=hid (hb3 w2 ((Bel.refl w2).alloc _) (Nat.le_refl _));have c3:w3.cell? ⟨w2.heap.size,0,none⟩=some (.bool a.six):=(by simp[World.cell?,hc3,netC]);clear ho3 hs3 hb3))
       go_ret3
       exact⟨rfl,HB1.out.trans (hb2.trans HB3.out)⟩
      |some a=>
       have HA:=(show Hid (∀W,Lay W→Calls Tryz.prog 64 #[.string I] W fun e w'=>e=.returned (.tuple #[.agg (netC a).toArray,.int .i64 0])∧Bel W w')from HA.out)
       have HZ:=(show Hid ((Tryz.prog.info? 86).map (·.size)=some (netC a).length)from HZ.out)
       have HL:=(show Hid ((netC a).length=(netC zeroN).length)from HL.out)
       by_cases h6:a.six=false
       ·have HY:=hid (show r=(formQ a,true,0)from HX.out.trans (if_pos h6))
        rw[HY.out]
        have HV:=(show Hid (∀W,Lay W→Calls Tryz.prog 65 #[.agg (netC a).toArray] W fun e w'=>e=.returned (.tuple #[.string ⟨(formQ a).toArray⟩,.int .i64 (Ci.errS a)])∧Bel W w')from fun W hW=>by
         have:=Ci.show_run a HN.out W hW
         have e:Ci.showQ a=some (formQ a):=by unfold Ci.showQ;rw[if_pos (HG.out a rfl)]
         rw[e]at this
         exact this)
        generalize Ci.errS a=es at HV
        clear hlit hw hs hsz
        go_enter Tryz.func26,Tryz.ntmps26
        go_wp2_with (first|(go_at_call 63;refine(HLo.out _).mono ?_;rintro e w1 ⟨rfl,hb1⟩;have HB1:=hid hb1)|(go_at_call 64;refine(HA.out _ (HW.out.next HB1.out)).mono ?_;rintro e w2 ⟨rfl,hb2⟩)|(refine wpList_store_blk rfl 86 (.tmp 7) (.tmp 47) rfl w2.heap.size (netC a) rfl rfl HZ.out (netC_one a) (netC zeroN) _ (heap_alloc_new w2 _) HL.out ?_;intro w3 hc3 ho3 hs3 hb3;have HB3:=hid (hb3 w2 ((Bel.refl w2).alloc _) (Nat.le_refl _));have c3:w3.cell? ⟨w2.heap.size,0,none⟩=some (.bool a.six):=(by simp[World.cell?,hc3,netC]);clear ho3 hs3 hb3)|(refine wpList_load_mid rfl 86 (.tmp 7) rfl w2.heap.size 0 rfl (netC a) _ (range_net hc3) Tryz.underlying86 rfl HZ.out ?_)|(go_at_call 65;refine(HV.out _ (HW.out.next (HB1.out.trans (hb2.trans HB3.out)))).mono ?_;rintro e w4 ⟨rfl,hb4⟩))
        go_ret3
        exact⟨rfl,HB1.out.trans (hb2.trans (HB3.out.trans hb4))⟩
       ·have HY:=hid (show r=([],false,90)from HX.out.trans (if_neg h6))
        rw[HY.out]
        have h6:a.six=true:=by simpa using h6
        clear hlit hw hs hsz
        go_enter Tryz.func26,Tryz.ntmps26
        go_wp2_with (first|(go_at_call 63;refine(HLo.out _).mono ?_;rintro e w1 ⟨rfl,hb1⟩;have HB1:=hid hb1)|(go_at_call 64;refine(HA.out _ (HW.out.next HB1.out)).mono ?_;rintro e w2 ⟨rfl,hb2⟩)|(refine wpList_store_blk rfl 86 (.tmp 7) (.tmp 47) rfl w2.heap.size (netC a) rfl rfl HZ.out (netC_one a) (netC zeroN) _ (heap_alloc_new w2 _) HL.out ?_;intro w3 hc3 ho3 hs3 hb3;have HB3:=hid (hb3 w2 ((Bel.refl w2).alloc _) (Nat.le_refl _));have c3:w3.cell? ⟨w2.heap.size,0,none⟩=some (.bool a.six):=(by simp[World.cell?,hc3,netC]);clear ho3 hs3 hb3))
        go_ret3
        exact⟨rfl,HB1.out.trans (hb2.trans HB3.out)⟩
    ·have b4:decide ((4:Int)<(I.size:Int))=false:=decide_eq_false (by omega)
     have hf:sixQ' I.data.toList=false:=by
      unfold sixQ'
      rw[decide_eq_false (by rw[←Lib.size_eq];exact h4),Bool.false_and]
     have HX2:=hid (show domainQ s.data.toList=litQ I.data.toList false by
      rw[HX.out,hf]
      unfold stripQ
      rw[hf,if_neg Bool.false_ne_true])
     clear HX
     have HX:=hid HX2.out
     unfold litQ at HX
     clear HX2 hf
     have HA:=(show Hid (∀W,Lay W→Calls Tryz.prog 64 #[.string I] W fun e w'=>e=.returned (.tuple #[.agg (netC ((addrQ (I).data.toList).getD zeroN)).toArray,.int .i64 (errQ (addrQ (I).data.toList))])∧Bel W w')from fun W hW=>Ci.addr_run _ W hW (by first|omega|(rw[ByteArray.size_extract];omega)))
     have HN:=hid (addr_fits (I).data.toList)
     have HG:=hid (fun n (h:addrQ (I).data.toList=some n)=>addr_right h)
     generalize domainQ s.data.toList=r at HX⊢
     generalize addrQ (I).data.toList=oa at HA HN HX HG
     have HZ:=hid (net_len _ HN.out.len)
     have HL:=hid (show(netC (oa.getD zeroN)).length=(netC zeroN).length by rw[Ci.netC_len _ HN.out.len,Ci.netC_len zeroN zeroN_fits.len])
     cases oa with
     |none=>
      have HY:=hid (show r=([],false,90)from HX.out)
      rw[HY.out]
      have HA:=(show Hid (∀W,Lay W→Calls Tryz.prog 64 #[.string I] W fun e w'=>e=.returned (.tuple #[.agg (netC zeroN).toArray,.int .i64 70])∧Bel W w')from HA.out)
      have HZ:=hid (net_len zeroN zeroN_fits.len)
      obtain⟨a,ha⟩:∃a,a=zeroN:=⟨_,rfl⟩
      rw[←ha]at HA HZ
      have HL:=hid (show(netC a).length=(netC zeroN).length by rw[ha])
      clear ha hlit hw hs hsz
      go_enter Tryz.func26,Tryz.ntmps26
      go_wp2_with (first|(go_at_call 64;refine(HA.out _ (HW.out.next (Bel.refl w))).mono ?_;rintro e w2 ⟨rfl,hb2⟩)|(refine wpList_store_blk rfl 86 (.tmp 7) (.tmp 47) rfl w2.heap.size (netC a) rfl rfl HZ.out (netC_one a) (netC zeroN) _ (heap_alloc_new w2 _) HL.out ?_;intro w3 hc3 ho3 hs3 hb3;have HB3:=hid (hb3 w2 ((Bel.refl w2).alloc _) (Nat.le_refl _));have c3:w3.cell? ⟨w2.heap.size,0,none⟩=some (.bool a.six):=(by simp[World.cell?,hc3,netC]);clear ho3 hs3 hb3))
      go_ret3
      exact⟨rfl,(Bel.refl w).trans (hb2.trans HB3.out)⟩
     |some a=>
      have HA:=(show Hid (∀W,Lay W→Calls Tryz.prog 64 #[.string I] W fun e w'=>e=.returned (.tuple #[.agg (netC a).toArray,.int .i64 0])∧Bel W w')from HA.out)
      have HZ:=(show Hid ((Tryz.prog.info? 86).map (·.size)=some (netC a).length)from HZ.out)
      have HL:=(show Hid ((netC a).length=(netC zeroN).length)from HL.out)
      by_cases h6:a.six=false
      ·have HY:=hid (show r=(formQ a,true,0)from HX.out.trans (if_pos h6))
       rw[HY.out]
       have HV:=(show Hid (∀W,Lay W→Calls Tryz.prog 65 #[.agg (netC a).toArray] W fun e w'=>e=.returned (.tuple #[.string ⟨(formQ a).toArray⟩,.int .i64 (Ci.errS a)])∧Bel W w')from fun W hW=>by
        have:=Ci.show_run a HN.out W hW
        have e:Ci.showQ a=some (formQ a):=by unfold Ci.showQ;rw[if_pos (HG.out a rfl)]
        rw[e]at this
        exact this)
       generalize Ci.errS a=es at HV
       clear hlit hw hs hsz
       go_enter Tryz.func26,Tryz.ntmps26
       go_wp2_with (first|(go_at_call 64;refine(HA.out _ (HW.out.next (Bel.refl w))).mono ?_;rintro e w2 ⟨rfl,hb2⟩)|(refine wpList_store_blk rfl 86 (.tmp 7) (.tmp 47) rfl w2.heap.size (netC a) rfl rfl HZ.out (netC_one a) (netC zeroN) _ (heap_alloc_new w2 _) HL.out ?_;intro w3 hc3 ho3 hs3 hb3;have HB3:=hid (hb3 w2 ((Bel.refl w2).alloc _) (Nat.le_refl _));have c3:w3.cell? ⟨w2.heap.size,0,none⟩=some (.bool a.six):=(by simp[World.cell?,hc3,netC]);clear ho3 hs3 hb3)|(refine wpList_load_mid rfl 86 (.tmp 7) rfl w2.heap.size 0 rfl (netC a) _ (range_net hc3) Tryz.underlying86 rfl HZ.out ?_)|(go_at_call 65;refine(HV.out _ (HW.out.next ((Bel.refl w).trans (hb2.trans HB3.out)))).mono ?_;rintro e w4 ⟨rfl,hb4⟩))
       go_ret3
       exact⟨rfl,(Bel.refl w).trans (hb2.trans (HB3.out.trans hb4))⟩
      ·have HY:=hid (show r=([],false,90)from HX.out.trans (if_neg h6))
       rw[HY.out]
       have h6:a.six=true:=by simpa using h6
       clear hlit hw hs hsz
       go_enter Tryz.func26,Tryz.ntmps26
       go_wp2_with (first|(go_at_call 64;refine(HA.out _ (HW.out.next (Bel.refl w))).mono ?_;rintro e w2 ⟨rfl,hb2⟩)|(refine wpList_store_blk rfl 86 (.tmp 7) (.tmp 47) rfl w2.heap.size (netC a) rfl rfl HZ.out (netC_one a) (netC zeroN) _ (heap_alloc_new w2 _) HL.out ?_;intro w3 hc3 ho3 hs3 hb3;have HB3:=hid (hb3 w2 ((Bel.refl w2).alloc _) (Nat.le_refl _));have c3:w3.cell? ⟨w2.heap.size,0,none⟩=some (.bool a.six):=(by simp[World.cell?,hc3,netC]);clear ho3 hs3 hb3))
       go_ret3
       exact⟨rfl,(Bel.refl w).trans (hb2.trans HB3.out)⟩
   ·have c3:(((s[m]'hml).toNat:Int)==93)=false:=byte_ne (n:=93) (by decide) h3
    have hlit:isLit s.data.toList=false:=by
     rw[HLT.out]
     have:(s[m]==93)=false:=by simpa using h3
     rw[this,Bool.and_false]
    clear HLT h2 h3 hm
    have HX:=hid (dom_nam hlit)
    have HNm:=(show Hid (∀W,Lay W→Calls Tryz.prog 66 #[.string s] W fun e w'=>e=.returned (.bool (namedQ s.data.toList))∧Bel W w')from fun W hW=>named_run s W hW (by omega))
    have HLo:=(show Hid (∀W,Calls Tryz.prog 63 #[.string s] W fun e w'=>e=.returned (.string ⟨(lowL s.data.toList).toArray⟩)∧Bel W w')from fun W=>lower_run s W (by omega))
    generalize domainQ s.data.toList=r at HX⊢
    cases hn:namedQ s.data.toList with
    |false=>
     have HY:=hid (show r=([],false,90) by rw[HX.out];unfold namQ;rw[hn];rfl)
     rw[HY.out]
     rw[hn]at HNm
     clear hn hlit hw hs hsz
     go_enter Tryz.func26,Tryz.ntmps26
     go_wp2_with (first|(go_at_call 66;refine(HNm.out _ HW.out).mono ?_;rintro e w1 ⟨rfl,hb1⟩))
     go_ret3
     exact⟨rfl,hb1⟩
    |true=>
     by_cases h255:255<s.size
     ·have b9:decide ((255:Int)<(s.size:Int))=true:=decide_eq_true (by omega)
      have HY:=hid (show r=([],false,91) by rw[HX.out];unfold namQ;rw[hn,if_neg (by decide),if_pos (by omega)])
      rw[HY.out]
      rw[hn]at HNm
      clear hn hlit hw hs hsz h255
      go_enter Tryz.func26,Tryz.ntmps26
      go_wp2_with (first|(go_at_call 66;refine(HNm.out _ HW.out).mono ?_;rintro e w1 ⟨rfl,hb1⟩))
      go_ret3
      exact⟨rfl,hb1⟩
     ·have b9:decide ((255:Int)<(s.size:Int))=false:=decide_eq_false (by omega)
      have HY:=hid (show r=(lowL s.data.toList,false,0) by rw[HX.out];unfold namQ;rw[hn,if_neg (by decide),if_neg (by omega)])
      rw[HY.out]
      rw[hn]at HNm
      clear hn hlit hw hs hsz h255
      go_enter Tryz.func26,Tryz.ntmps26
      go_wp2_with (first|(go_at_call 66;refine(HNm.out _ HW.out).mono ?_;rintro e w1 ⟨rfl,hb1⟩)|(go_at_call 63;refine(HLo.out _).mono ?_;rintro e w2 ⟨rfl,hb2⟩))
      go_ret3
      exact⟨rfl,hb1.trans hb2⟩
  ·have c2:(((s[0]'h0).toNat:Int)==91)=false:=byte_ne (n:=91) (by decide) h2
   have hlit:isLit s.data.toList=false:=by
    rw[HLT.out]
    have:(s[0]==91)=false:=by simpa using h2
    rw[this,Bool.false_and]
   clear HLT h2 hm
   have HX:=hid (dom_nam hlit)
   have HNm:=(show Hid (∀W,Lay W→Calls Tryz.prog 66 #[.string s] W fun e w'=>e=.returned (.bool (namedQ s.data.toList))∧Bel W w')from fun W hW=>named_run s W hW (by omega))
   have HLo:=(show Hid (∀W,Calls Tryz.prog 63 #[.string s] W fun e w'=>e=.returned (.string ⟨(lowL s.data.toList).toArray⟩)∧Bel W w')from fun W=>lower_run s W (by omega))
   generalize domainQ s.data.toList=r at HX⊢
   cases hn:namedQ s.data.toList with
   |false=>
    have HY:=hid (show r=([],false,90) by rw[HX.out];unfold namQ;rw[hn];rfl)
    rw[HY.out]
    rw[hn]at HNm
    clear hn hlit hw hs hsz
    go_enter Tryz.func26,Tryz.ntmps26
    go_wp2_with (first|(go_at_call 66;refine(HNm.out _ HW.out).mono ?_;rintro e w1 ⟨rfl,hb1⟩))
    go_ret3
    exact⟨rfl,hb1⟩
   |true=>
    by_cases h255:255<s.size
    ·have b9:decide ((255:Int)<(s.size:Int))=true:=decide_eq_true (by omega)
     have HY:=hid (show r=([],false,91) by rw[HX.out];unfold namQ;rw[hn,if_neg (by decide),if_pos (by omega)])
     rw[HY.out]
     rw[hn]at HNm
     clear hn hlit hw hs hsz h255
     go_enter Tryz.func26,Tryz.ntmps26
     go_wp2_with (first|(go_at_call 66;refine(HNm.out _ HW.out).mono ?_;rintro e w1 ⟨rfl,hb1⟩))
     go_ret3
     exact⟨rfl,hb1⟩
    ·have b9:decide ((255:Int)<(s.size:Int))=false:=decide_eq_false (by omega)
     have HY:=hid (show r=(lowL s.data.toList,false,0) by rw[HX.out];unfold namQ;rw[hn,if_neg (by decide),if_neg (by omega)])
     rw[HY.out]
     rw[hn]at HNm
     clear hn hlit hw hs hsz h255
     go_enter Tryz.func26,Tryz.ntmps26
     go_wp2_with (first|(go_at_call 66;refine(HNm.out _ HW.out).mono ?_;rintro e w1 ⟨rfl,hb1⟩)|(go_at_call 63;refine(HLo.out _).mono ?_;rintro e w2 ⟨rfl,hb2⟩))
     go_ret3
     exact⟨rfl,hb1.trans hb2⟩
 ·have b1:decide ((1:Int)<(s.size:Int))=false:=decide_eq_false (by omega)
  have hlit:isLit s.data.toList=false:=by
   unfold isLit
   rw[decide_eq_false (by omega),Bool.false_and,Bool.false_and]
  have HX:=hid (dom_nam hlit)
  have HNm:=(show Hid (∀W,Lay W→Calls Tryz.prog 66 #[.string s] W fun e w'=>e=.returned (.bool (namedQ s.data.toList))∧Bel W w')from fun W hW=>named_run s W hW (by omega))
  have HLo:=(show Hid (∀W,Calls Tryz.prog 63 #[.string s] W fun e w'=>e=.returned (.string ⟨(lowL s.data.toList).toArray⟩)∧Bel W w')from fun W=>lower_run s W (by omega))
  generalize domainQ s.data.toList=r at HX⊢
  cases hn:namedQ s.data.toList with
  |false=>
   have HY:=hid (show r=([],false,90) by rw[HX.out];unfold namQ;rw[hn];rfl)
   rw[HY.out]
   rw[hn]at HNm
   clear hn hlit hw hs hsz
   go_enter Tryz.func26,Tryz.ntmps26
   go_wp2_with (first|(go_at_call 66;refine(HNm.out _ HW.out).mono ?_;rintro e w1 ⟨rfl,hb1⟩))
   go_ret3
   exact⟨rfl,hb1⟩
  |true=>
   by_cases h255:255<s.size
   ·have b9:decide ((255:Int)<(s.size:Int))=true:=decide_eq_true (by omega)
    have HY:=hid (show r=([],false,91) by rw[HX.out];unfold namQ;rw[hn,if_neg (by decide),if_pos (by omega)])
    rw[HY.out]
    rw[hn]at HNm
    clear hn hlit hw hs hsz h255
    go_enter Tryz.func26,Tryz.ntmps26
    go_wp2_with (first|(go_at_call 66;refine(HNm.out _ HW.out).mono ?_;rintro e w1 ⟨rfl,hb1⟩))
    go_ret3
    exact⟨rfl,hb1⟩
   ·have b9:decide ((255:Int)<(s.size:Int))=false:=decide_eq_false (by omega)
    have HY:=hid (show r=(lowL s.data.toList,false,0) by rw[HX.out];unfold namQ;rw[hn,if_neg (by decide),if_neg (by omega)])
    rw[HY.out]
    rw[hn]at HNm
    clear hn hlit hw hs hsz h255
    go_enter Tryz.func26,Tryz.ntmps26
    go_wp2_with (first|(go_at_call 66;refine(HNm.out _ HW.out).mono ?_;rintro e w1 ⟨rfl,hb1⟩)|(go_at_call 63;refine(HLo.out _).mono ?_;rintro e w2 ⟨rfl,hb2⟩))
    go_ret3
    exact⟨rfl,hb1.trans hb2⟩
end Go.Proofs.YtmlmkmhkmifnkaaGreatDoor.Ma
namespace Go.Proofs.YtmlmkmhkmifnkaaGreatDoor.Ma
open Go.RowKit
open Ci (Bel Lay own_bel row_shape addr_add own_base wpList_push)
def mlC(m:Ml):List Value:=[.bool m.path.null,.string ⟨m.path.loc.toArray⟩,.string ⟨m.path.dom.toArray⟩,.bool m.path.lit,.int .i64 m.from_,.int .i64 m.til,.string ⟨m.name.toArray⟩]
def mlCs(l:List Ml):List Value:=l.flatMap mlC
def Mls(a0 W:World)(v:Value)(l:List Ml):Prop:=W.ownsRow a0.heap.size 98 7 v l.length (mlCs l)
theorem mlCs_snoc(l:List Ml)(m:Ml):mlCs (l++[m])=mlCs l++mlC m:=by unfold mlCs;rw[List.flatMap_append];simp
theorem ml_infos:(Tryz.prog.info? 98).map (fun i=>(i.zero,i.size,i.bytes))=some (some (.agg #[.bool false,.string ⟨#[]⟩,.string ⟨#[]⟩,.bool false,.int .i64 0,.int .i64 0,.string ⟨#[]⟩]),7,80):=by kernel_rfl
def ParsePost(s:ByteArray)(w:World)(e:Ending)(w':World):Prop:=∃v,e=.returned (.tuple #[v,.int .i64 (parseQ s.data.toList).2])∧Bel w w'∧Mls w w' v (parseQ s.data.toList).1
theorem mls_nil(w W:World):Mls w W (.slice none 0 0) []:=⟨rfl,.inl ⟨rfl,rfl⟩⟩
theorem spCs_at(L:List Sp)(k:Nat)(hk:k<L.length)(j:Nat)(v:Value)(hv:(spC L[k])[j]?=some v):(spCs L)[k*5+j]?=some v:=by
 induction L generalizing k with
 |nil=>simp at hk
 |cons t L ih=>
  show(spC t++spCs L)[k*5+j]?=some v
  have hl:(spC t).length=5:=rfl
  cases k with
  |zero=>
   have hj:j<5:=(List.getElem?_eq_some_iff.1 hv).1
   rw[List.getElem?_append_left (by omega),Nat.zero_mul,Nat.zero_add]
   exact hv
  |succ k=>
   rw[List.getElem?_append_right (by omega),hl,show(k+1)*5+j-5=k*5+j by omega]
   exact ih k (by simp at hk;omega) hv
structure PaI (w3 wr:World) (L:List Sp) (k:Nat) (v:Value) (l:List Ml):Prop where
 bel:Bel w3 wr
 row:Mls w3 wr v l
 mi:MlI L k l
theorem form_size(n:Ci.Nt)(hn:n.Fits)(hb:n.bits≤128):(Ci.formQ n).length≤120:=by
 have h1:(Ci.addrT n).length≤100:=by
  unfold Ci.addrT
  split
  ·have:=Ci.longT_size n.addr hn.len hn.by_
   rw[Lib.size_eq]at this
   exact this
  ·have:=Ci.dotT_size (n.addr.take 4) (fun x hx=>hn.by_ x (List.mem_of_mem_take hx))
   rw[Lib.size_eq,List.length_take]at this
   have:(Lib.join ((n.addr.take 4).map Lib.decDigits) [46]).length≤4*min 4 n.addr.length:=this
   omega
 have h2:n.bits.toNat<1000:=by omega
 have h3:=(Ci.decDigits_len 2 n.bits.toNat (by omega)).2
 unfold Ci.formQ
 split
 ·rw[List.length_append,List.length_cons];omega
 ·omega
theorem dom_size(d:List UInt8):(domainQ d).1.length≤d.length+120∧((domainQ d).2.2=0∨(domainQ d).2.2=90∨(domainQ d).2.2=91):=by
 unfold domainQ
 split
 ·split
  ·rename_i n h
   have hf:=(Ci.addrQ_fits h).1
   have hb:=Ci.rightQ_bits (addr_right h)
   split
   ·exact⟨by have:=form_size n hf (by omega);show(Ci.formQ n).length≤_;omega,.inl rfl⟩
   ·exact⟨by simp,.inr (.inl rfl)⟩
  ·exact⟨by simp,.inr (.inl rfl)⟩
 ·split
  ·exact⟨by simp,.inr (.inl rfl)⟩
  ·split
   ·exact⟨by simp,.inr (.inr rfl)⟩
   ·exact⟨by show(lowL d).length≤_;rw[lower_le];omega,.inl rfl⟩
theorem ps_start(X:Cx)(cp:Nat)(h1:X.T.length≤cp)(h2:cp≤maxLen):Ps X ⟨false,X.T,[]⟩ (.slice none 0 0) (X.W.alloc (.cells #[.string X.body,.slice (some ⟨X.lb,0,none⟩) X.T.length cp,.bool false,.slice none 0 0] 164)):=
 ⟨(Bel.refl _).alloc _,⟨0,cp,some ⟨X.lb,0,none⟩,by simp,Nat.zero_le _,h1,h2,fun _=>by rw[Nat.zero_mul],heap_alloc_new _ _⟩,⟨rfl,.inl ⟨rfl,rfl⟩⟩⟩
theorem spC_one(x:Sp):((spC x).toArray.all (·.oneCell'))=true:=by simp[spC,Value.oneCell']
theorem row_at{a W:World}{base g cp:Nat}{L:List Sp}(h:a.ownsRow base 167 5 (.slice (some ⟨g,0,none⟩) L.length cp) L.length (spCs L))(hb:Bel a W)(k:Nat)(hk:k<L.length):W.rangeAt g (k*5) (spC L[k]):=fun j v hv=>by
 have hj:=spCs_at L k hk j v hv
 have hl:=(List.getElem?_eq_some_iff.1 hj).1
 rw[h.1]at hl
 exact((World.ownsRow.cellAt (own_bel h hb) (k*5+j) hl).trans hj)
theorem mparse_run(s:ByteArray)(w:World)(hw:Lay w):Calls Tryz.prog 47 #[.string s] w (ParsePost s w):=by
 have hs:=Lib.size_eq s
 by_cases hbig:65536<s.size
 ·have b1:decide ((65536:Int)<(s.size:Int))=true:=decide_eq_true (by omega)
  have HQ:=hid (show parseQ s.data.toList=([],101) by unfold parseQ;rw[if_pos (by omega)])
  clear hw hs hbig
  go_enter Tryz.func47,Tryz.ntmps47
  go_wp2_with fail
  go_ret2
  exact⟨.slice none 0 0,by rw[HQ.out];rfl,Bel.refl w,by rw[HQ.out];exact mls_nil w w⟩
 ·have b1:decide ((65536:Int)<(s.size:Int))=false:=decide_eq_false (by omega)
  have HC:=(show Hid (Calls Tryz.prog 101 #[.string s] w (CutPost s w))from cut_run s w (by omega))
  have HB:=hid hbig
  have HZ:=hid hs
  have HW:=hid hw
  have hP:parseQ s.data.toList=match readQ s.data.toList with
   |none=>([],100)
   |some L=>if(mailsQ L).2=0∧200<(mailsQ L).1.length then([],102)else mailsQ L:=by
   unfold parseQ;rw[if_neg (by omega)];rfl
  cases hcq:cutQ s.data.toList with
  |none=>
   have HQ:=hid (show parseQ s.data.toList=([],100) by rw[hP,read_none hcq])
   have HC2:=(show Hid (Calls Tryz.prog 101 #[.string s] w fun e w'=>e=.returned (.tuple #[.slice none 0 0,.bool false])∧Bel w w')from HC.out.mono fun e w' ⟨v,he,hb,hv⟩=>by
    rw[hcq]at he hv
    obtain rfl:v=.slice none 0 0:=hv
    exact⟨he,hb⟩)
   clear hcq HC hP hbig hw hs
   go_enter Tryz.func47,Tryz.ntmps47
   go_wp2_with (first|(go_at_call 101;refine HC2.out.mono ?_;rintro e w1 ⟨rfl,hb1⟩))
   go_ret2
   exact⟨.slice none 0 0,by rw[HQ.out];rfl,hb1,by rw[HQ.out];exact mls_nil w w1⟩
  |some T=>
   have hlx:=lexed hcq
   have hT0:0<T.length:=by
    obtain⟨T',e,rfl,-⟩:=hlx.en
    simp
   have hTn:T.length≤65537:=by have:=hlx.num;omega
   have HC2:=(show Hid (Calls Tryz.prog 101 #[.string s] w fun e w'=>∃lb cp,e=.returned (.tuple #[.slice (some ⟨lb,0,none⟩) T.length cp,.bool true])∧Bel w w'∧T.length≤cp∧cp≤maxLen∧lb<w'.heap.size∧(⟨w',lb,s,T⟩:Cx).Ok∧(⟨w',lb,s,T⟩:Cx).Pos)from HC.out.mono fun e w' ⟨v,he,hb,hv⟩=>by
    rw[hcq]at he hv
    have hv':Toks w w' v T:=hv
    obtain⟨lb,cp,rfl,h1,h2,h3⟩:=toks_at hv' hT0
    have hcx:=cx_of (by omega) hlx hv'
    refine⟨lb,cp,he,hb,h3,?_,h2,hcx.1,hcx.2⟩
    rcases hv'.2 with⟨f,-⟩|⟨g,cap,cur,e,-,-,-,hcm,-⟩
    ·cases f
    ·cases e;exact hcm)
   have HR:=hid (read_of hcq)
   have HPQ:=hid hP
   have HSM:=hid (fun L (h:readQ s.data.toList=some L)=>And.intro (read_small h) (read_len h).2)
   clear hcq HC hP hbig hw hs hlx
   have hmf:∀(fn:Fn) (first cap:Array Value) (w:World),(Instr.makeFunc fn first cap).run Tryz.prog w=.ok (.func fn first cap) w:=fun _ _ _ _=>rfl
   go_enter Tryz.func47,Tryz.ntmps47
   go_upto_region 8 with(first|(go_at_call 101;refine HC2.out.mono ?_;rintro e w1 ⟨lb,cp,rfl,hb1,hcp1,hcp2,hlb,hok,hpos⟩;have HOK:=hid hok;have HPOS:=hid hpos;clear hok hpos)|(go_at_call 102;refine(commas_el ⟨w1,lb,s,T⟩ HOK.out HPOS.out ⟨false,T,[]⟩ (.slice none 0 0) _ (ps_start ⟨w1,lb,s,T⟩ cp hcp1 hcp2) ⟨0,by simp,hT0⟩ rfl (by show 0+T.length≤65537;omega)).mono ?_;rintro e w3 ⟨rfl,sl',hps'⟩;have hps:Ps ⟨w1,lb,s,T⟩ (commasQ 101 (elementQ s.data.toList) (T.length+1) ⟨false,T,[]⟩) sl' w3:=hps';clear hps';generalize commasQ 101 (elementQ s.data.toList) (T.length+1) ⟨false,T,[]⟩=st' at hps HR;obtain⟨q,cp3,ad3,-,-,-,-,-,hp3⟩:=hps.at_;have HPS:=hid hps;have p2:w3.cell? ⟨w1.heap.size,2,none⟩=some (.bool st'.bad):=(by simp[World.cell?,hp3]);have p3:w3.cell? ⟨w1.heap.size,3,none⟩=some sl':=(by simp[World.cell?,hp3]);clear hps hp3 HOK HPOS HC2))
   have HB3:=hid (show Bel w w3 from hb1.trans HPS.out.bel)
   have HOW:=hid HPS.out.own
   have HSZ:=hid (show w.heap.size≤w1.heap.size from hb1.size)
   clear HPS hmf hb1 hcp1 hcp2 hlb hT0 hTn
   obtain⟨bad,tl,L⟩:=st'
   simp only at HR p2 HOW
   cases bad with
   |true=>
    have HQ:=hid (show parseQ s.data.toList=([],100) by rw[HPQ.out,HR.out];rfl)
    clear HR HPQ HSM HOW
    go_wp2_with fail
    go_ret2
    exact⟨.slice none 0 0,by rw[HQ.out];rfl,HB3.out,by rw[HQ.out];exact mls_nil w w3⟩
   |false=>
    have HRL:=hid (show readQ s.data.toList=some L from HR.out)
    have HQ:=hid (show parseQ s.data.toList=if(mailsQ L).2=0∧200<(mailsQ L).1.length then([],102)else mailsQ L by rw[HPQ.out,HRL.out])
    have HSL:=hid (HSM.out L HRL.out)
    have hn:L.length≤65536:=by have:=HSL.out.2;have:=HZ.out;have:=HB.out;omega
    obtain⟨x3,c3,rfl,hcl,-⟩:=row_shape HOW.out
    clear HR HPQ HSM HRL hcl
    go_wp2_with fail
    clear p2 p3
    go_loopg [7,41] L.length (fun gg v7 v41 wr=>∃(k:Nat) (x7:Option Addr) (c7:Nat) (l:List Ml),v7=.slice x7 k c7∧v41=.int .i64 k∧k+gg=L.length∧Hid (PaI w3 wr L k (.slice x7 k c7) l))
    case atStart=>exact⟨0,none,0,[],rfl,rfl,by omega,hid ⟨Bel.refl w3,⟨rfl,.inl ⟨rfl,rfl⟩⟩,MlI.zero L⟩⟩
    case round=>
     obtain⟨k,x7,c7,l,rfl,rfl,hk,H⟩:=hrel
     have Hk:=hid hk
     have hkn:k≤L.length:=by omega
     clear hk
     by_cases hlt:k<L.length
     ·obtain⟨g,rfl⟩:∃g,x3=some ⟨g,0,none⟩:=by
       rcases HOW.out.2 with⟨e,h0⟩|⟨g,cap,cur,e,-⟩
       ·omega
       ·cases e;exact⟨g,rfl⟩
      have hrg:=row_at HOW.out H.out.bel k hlt
      have hsm:=HSL.out.1 L[k] (List.getElem_mem hlt)
      have HNX:=hid (fun h0=>H.out.mi.next hlt h0)
      have HBD:=hid (fun h0=>H.out.mi.bad hlt h0)
      have hsmz:s.data.toList.length≤65536:=by have:=HZ.out;have:=HB.out;omega
      generalize L[k]=x at hrg hsm HNX HBD
      have HDS:=hid (dom_size x.dom)
      have hdl:(⟨(domainQ x.dom).1.toArray⟩:ByteArray).size≤4194304:=by rw[Lib.size_eq];have:=HDS.out.1;show(domainQ x.dom).1.length≤_;omega
      have hll:(⟨x.loc.toArray⟩:ByteArray).size≤4194304:=by rw[Lib.size_eq];show x.loc.length≤_;omega
      have hdd:(⟨x.dom.toArray⟩:ByteArray).size≤4194304:=by rw[Lib.size_eq];show x.dom.length≤_;omega
      have HD:=(show Hid (∀W,Lay W→Calls Tryz.prog 26 #[.string ⟨x.dom.toArray⟩] W fun e w'=>e=.returned (.tuple #[.string ⟨(domainQ x.dom).1.toArray⟩,.bool (domainQ x.dom).2.1,.int .i64 (domainQ x.dom).2.2])∧Bel W w')from fun W hW=>pdomain_run ⟨x.dom.toArray⟩ W hW hdd)
      have HRt:=(show Hid (∀W,Lay W→Calls Tryz.prog 36 #[.agg #[.bool false,.string ⟨x.loc.toArray⟩,.string ⟨(domainQ x.dom).1.toArray⟩,.bool (domainQ x.dom).2.1]] W fun e w'=>e=.returned (.int .i64 (rightP (addrOf x.loc x.dom).1))∧Bel W w')from fun W hW=>right_run false ⟨x.loc.toArray⟩ ⟨(domainQ x.dom).1.toArray⟩ (domainQ x.dom).2.1 W hW hll hdl)
      have HA2:=hid (show(addrOf x.loc x.dom).2=if(domainQ x.dom).2.2=0 then rightP (addrOf x.loc x.dom).1 else(domainQ x.dom).2.2 from rfl)
      have HA1:=hid (show(addrOf x.loc x.dom).1=⟨false,x.loc,(domainQ x.dom).1,(domainQ x.dom).2.1⟩from rfl)
      have HMO:=hid (show mlOf x=⟨(addrOf x.loc x.dom).1,x.from_,x.til,x.name⟩from rfl)
      generalize addrOf x.loc x.dom=A at HA1 HA2 HRt HNX HBD HMO
      generalize domainQ x.dom=D at HA1 HA2 HRt HD HDS hdl
      have HBW:=hid (show Bel w wr from HB3.out.trans H.out.bel)
      have HLE:=hid (show wr.heap.size≥w3.heap.size from H.out.bel.size)
      clear hll hdl hdd hsm hsmz
      obtain⟨dl,dt,de⟩:=D
      simp only at HD HRt HA1 HA2
      have HOL:=hid (show wr.ownsRow w3.heap.size 98 7 (.slice x7 k c7) k (mlCs l) by
       have:=H.out.row
       unfold Mls at this
       rwa[H.out.mi.1]at this)
      have HBM:=hid H.out.bel
      have HLN:=hid H.out.mi.1
      clear H HDS
      by_cases h0:de=0
      ·subst h0
       rw[if_pos rfl]at HA2
       have HA3:=hid (show A.2=rightP A.1 from HA2.out)
       generalize hr:rightP A.1=r at HRt HA3
       by_cases hr0:r=0
       ·subst hr0
        have HM:=hid (HNX.out HA3.out)
        have HMC:=hid (show mlC (mlOf x)=[.bool false,.string ⟨x.loc.toArray⟩,.string ⟨dl.toArray⟩,.bool dt,.int .i64 x.from_,.int .i64 x.til,.string ⟨x.name.toArray⟩] by
         rw[HMO.out,HA1.out];rfl)
        clear HNX HBD HA1 HA2 HA3 HMO hr
        go_wp2_with (first|(refine wpList_load_mid rfl 167 (.tmp 43) rfl g (k*5) rfl (spC x) _ hrg Tryz.underlying167 rfl sp_size ?_)|(refine wpList_store_blk rfl 167 (.tmp 9) (.tmp 44) rfl wr.heap.size (spC x) rfl rfl sp_size (spC_one x) (spC ⟨[],[],0,0,[]⟩) _ (heap_alloc_new wr _) rfl ?_;intro w5 hc5 ho5 hs5 hb5;have HB5:=hid (hb5 wr ((Bel.refl wr).alloc _) (Nat.le_refl _));have p5:w5.cell? ⟨wr.heap.size,1,none⟩=some (.string ⟨x.dom.toArray⟩):=(by simp[World.cell?,hc5,spC]);clear ho5 hs5 hb5)|(go_at_call 26;refine(HD.out _ (HW.out.next (HBW.out.trans HB5.out))).mono ?_;rintro e w6 ⟨rfl,hb6⟩;have q6:=hb6.heap hc5;have HB6:=hid (HB5.out.trans hb6);have p6:w6.cell? ⟨wr.heap.size,0,none⟩=some (.string ⟨x.loc.toArray⟩):=(by simp[World.cell?,q6,spC]);clear hb6 hc5)|(go_at_call 36;refine(HRt.out _ (HW.out.next (HBW.out.trans (HB6.out.trans ((Bel.refl w6).alloc _))))).mono ?_;rintro e w8 ⟨rfl,hb8⟩;have hc8:=hb8.heap (heap_alloc_new w6 _);have q8:=hb8.heap (((Bel.refl w6).alloc _).heap q6);have HB8:=hid (HB6.out.trans (((Bel.refl w6).alloc _).trans hb8));have e2:w8.cell? ⟨wr.heap.size,2,none⟩=some (.int .i64 x.from_):=(by simp[World.cell?,q8,spC]);have e3:w8.cell? ⟨wr.heap.size,3,none⟩=some (.int .i64 x.til):=(by simp[World.cell?,q8,spC]);have e4:w8.cell? ⟨wr.heap.size,4,none⟩=some (.string ⟨x.name.toArray⟩):=(by simp[World.cell?,q8,spC]);clear hb8)|(refine wpList_load_mid rfl 26 (.tmp 13) rfl w6.heap.size 0 rfl [.bool false,.string ⟨x.loc.toArray⟩,.string ⟨dl.toArray⟩,.bool dt] _ (range_pt hc8) Tryz.underlying26 rfl pt_size ?_)|(at_builtin;refine wpList_push (a0:=w3) (W:=w8) rfl (.tmp 64) (.tmp 73) 93 rfl 98 (.agg #[.bool false,.string ⟨#[]⟩,.string ⟨#[]⟩,.bool false,.int .i64 0,.int .i64 0,.string ⟨#[]⟩]) 7 80 Tryz.underlying93 ml_infos rfl (by decide) (.slice x7 k c7) k (mlCs l) rfl (own_bel HOL.out HB8.out) (HBM.out.trans HB8.out) _ rfl rfl (by intro u hu;simp at hu;rcases hu with rfl|rfl|rfl|rfl|rfl|rfl|rfl<;>rfl) (by unfold maxLen;omega) (by omega) ?_;intro x' p' w9 hown9 hb9))
        go_roundg (gk-1)
        case measure=>have:=Hk.out;omega
        case rel=>exact⟨k+1,x',p',l++[mlOf x],rfl,by go_num,by have:=Hk.out;omega,hid ⟨hb9,by
         unfold Mls
         rw[List.length_append,HLN.out,mlCs_snoc,HMC.out]
         exact hown9,HM.out⟩⟩
       ·by_cases h91:r=91
        ·have HQ2:=hid (show parseQ s.data.toList=([],101) by
          have:=HBD.out (by rw[HA3.out];exact hr0)
          rw[HA3.out,if_pos h91]at this
          rw[HQ.out,this];rfl)
         subst h91
         clear HNX HBD HA1 HA2 HA3 HMO hr HQ hr0
         go_wp2_with (first|(refine wpList_load_mid rfl 167 (.tmp 43) rfl g (k*5) rfl (spC x) _ hrg Tryz.underlying167 rfl sp_size ?_)|(refine wpList_store_blk rfl 167 (.tmp 9) (.tmp 44) rfl wr.heap.size (spC x) rfl rfl sp_size (spC_one x) (spC ⟨[],[],0,0,[]⟩) _ (heap_alloc_new wr _) rfl ?_;intro w5 hc5 ho5 hs5 hb5;have HB5:=hid (hb5 wr ((Bel.refl wr).alloc _) (Nat.le_refl _));have p5:w5.cell? ⟨wr.heap.size,1,none⟩=some (.string ⟨x.dom.toArray⟩):=(by simp[World.cell?,hc5,spC]);clear ho5 hs5 hb5)|(go_at_call 26;refine(HD.out _ (HW.out.next (HBW.out.trans HB5.out))).mono ?_;rintro e w6 ⟨rfl,hb6⟩;have q6:=hb6.heap hc5;have HB6:=hid (HB5.out.trans hb6);have p6:w6.cell? ⟨wr.heap.size,0,none⟩=some (.string ⟨x.loc.toArray⟩):=(by simp[World.cell?,q6,spC]);clear hb6 hc5)|(go_at_call 36;refine(HRt.out _ (HW.out.next (HBW.out.trans (HB6.out.trans ((Bel.refl w6).alloc _))))).mono ?_;rintro e w8 ⟨rfl,hb8⟩;have hc8:=hb8.heap (heap_alloc_new w6 _);have q8:=hb8.heap (((Bel.refl w6).alloc _).heap q6);have HB8:=hid (HB6.out.trans (((Bel.refl w6).alloc _).trans hb8));clear hb8))
         go_ret2
         exact⟨.slice none 0 0,by rw[HQ2.out];rfl,HBW.out.trans HB8.out,by rw[HQ2.out];exact mls_nil w _⟩
        ·have HQ2:=hid (show parseQ s.data.toList=([],100) by
          have:=HBD.out (by rw[HA3.out];exact hr0)
          rw[HA3.out,if_neg h91]at this
          rw[HQ.out,this];rfl)
         have b2:(r==0)=false:=by simpa using hr0
         have b3:(r==91)=false:=by simpa using h91
         clear HNX HBD HA1 HA2 HA3 HMO hr HQ hr0 h91
         go_wp2_with (first|(refine wpList_load_mid rfl 167 (.tmp 43) rfl g (k*5) rfl (spC x) _ hrg Tryz.underlying167 rfl sp_size ?_)|(refine wpList_store_blk rfl 167 (.tmp 9) (.tmp 44) rfl wr.heap.size (spC x) rfl rfl sp_size (spC_one x) (spC ⟨[],[],0,0,[]⟩) _ (heap_alloc_new wr _) rfl ?_;intro w5 hc5 ho5 hs5 hb5;have HB5:=hid (hb5 wr ((Bel.refl wr).alloc _) (Nat.le_refl _));have p5:w5.cell? ⟨wr.heap.size,1,none⟩=some (.string ⟨x.dom.toArray⟩):=(by simp[World.cell?,hc5,spC]);clear ho5 hs5 hb5)|(go_at_call 26;refine(HD.out _ (HW.out.next (HBW.out.trans HB5.out))).mono ?_;rintro e w6 ⟨rfl,hb6⟩;have q6:=hb6.heap hc5;have HB6:=hid (HB5.out.trans hb6);have p6:w6.cell? ⟨wr.heap.size,0,none⟩=some (.string ⟨x.loc.toArray⟩):=(by simp[World.cell?,q6,spC]);clear hb6 hc5)|(go_at_call 36;refine(HRt.out _ (HW.out.next (HBW.out.trans (HB6.out.trans ((Bel.refl w6).alloc _))))).mono ?_;rintro e w8 ⟨rfl,hb8⟩;have hc8:=hb8.heap (heap_alloc_new w6 _);have q8:=hb8.heap (((Bel.refl w6).alloc _).heap q6);have HB8:=hid (HB6.out.trans (((Bel.refl w6).alloc _).trans hb8));clear hb8))
         go_ret2
         exact⟨.slice none 0 0,by rw[HQ2.out];rfl,HBW.out.trans HB8.out,by rw[HQ2.out];exact mls_nil w _⟩
      ·have HA3:=hid (show A.2=de from HA2.out.trans (if_neg h0))
       by_cases h91:de=91
       ·have HQ2:=hid (show parseQ s.data.toList=([],101) by
         have:=HBD.out (by rw[HA3.out];exact h0)
         rw[HA3.out,if_pos h91]at this
         rw[HQ.out,this];rfl)
        subst h91
        clear HNX HBD HA1 HA2 HA3 HMO HQ h0 HRt
        go_wp2_with (first|(refine wpList_load_mid rfl 167 (.tmp 43) rfl g (k*5) rfl (spC x) _ hrg Tryz.underlying167 rfl sp_size ?_)|(refine wpList_store_blk rfl 167 (.tmp 9) (.tmp 44) rfl wr.heap.size (spC x) rfl rfl sp_size (spC_one x) (spC ⟨[],[],0,0,[]⟩) _ (heap_alloc_new wr _) rfl ?_;intro w5 hc5 ho5 hs5 hb5;have HB5:=hid (hb5 wr ((Bel.refl wr).alloc _) (Nat.le_refl _));have p5:w5.cell? ⟨wr.heap.size,1,none⟩=some (.string ⟨x.dom.toArray⟩):=(by simp[World.cell?,hc5,spC]);clear ho5 hs5 hb5)|(go_at_call 26;refine(HD.out _ (HW.out.next (HBW.out.trans HB5.out))).mono ?_;rintro e w6 ⟨rfl,hb6⟩;have q6:=hb6.heap hc5;have HB6:=hid (HB5.out.trans hb6);have p6:w6.cell? ⟨wr.heap.size,0,none⟩=some (.string ⟨x.loc.toArray⟩):=(by simp[World.cell?,q6,spC]);clear hb6 hc5))
        go_ret2
        exact⟨.slice none 0 0,by rw[HQ2.out];rfl,HBW.out.trans (HB6.out.trans ((Bel.refl w6).alloc _)),by rw[HQ2.out];exact mls_nil w _⟩
       ·have HQ2:=hid (show parseQ s.data.toList=([],100) by
         have:=HBD.out (by rw[HA3.out];exact h0)
         rw[HA3.out,if_neg h91]at this
         rw[HQ.out,this];rfl)
        have b2:(de==0)=false:=by simpa using h0
        have b3:(de==91)=false:=by simpa using h91
        clear HNX HBD HA1 HA2 HA3 HMO HQ h0 h91 HRt
        go_wp2_with (first|(refine wpList_load_mid rfl 167 (.tmp 43) rfl g (k*5) rfl (spC x) _ hrg Tryz.underlying167 rfl sp_size ?_)|(refine wpList_store_blk rfl 167 (.tmp 9) (.tmp 44) rfl wr.heap.size (spC x) rfl rfl sp_size (spC_one x) (spC ⟨[],[],0,0,[]⟩) _ (heap_alloc_new wr _) rfl ?_;intro w5 hc5 ho5 hs5 hb5;have HB5:=hid (hb5 wr ((Bel.refl wr).alloc _) (Nat.le_refl _));have p5:w5.cell? ⟨wr.heap.size,1,none⟩=some (.string ⟨x.dom.toArray⟩):=(by simp[World.cell?,hc5,spC]);clear ho5 hs5 hb5)|(go_at_call 26;refine(HD.out _ (HW.out.next (HBW.out.trans HB5.out))).mono ?_;rintro e w6 ⟨rfl,hb6⟩;have q6:=hb6.heap hc5;have HB6:=hid (HB5.out.trans hb6);have p6:w6.cell? ⟨wr.heap.size,0,none⟩=some (.string ⟨x.loc.toArray⟩):=(by simp[World.cell?,q6,spC]);clear hb6 hc5))
        go_ret2
        exact⟨.slice none 0 0,by rw[HQ2.out];rfl,HBW.out.trans (HB6.out.trans ((Bel.refl w6).alloc _)),by rw[HQ2.out];exact mls_nil w _⟩
     ·obtain rfl:k=L.length:=by omega
      have HM:=hid (H.out.mi.end_ (Nat.le_refl _))
      have HLN:=hid H.out.mi.1
      have HR7:=hid H.out.row
      have HBW:=hid (show Bel w wr from HB3.out.trans H.out.bel)
      by_cases h200:200<L.length
      ·have b4:decide ((200:Int)<(L.length:Int))=true:=decide_eq_true (by omega)
       have HQ2:=hid (show parseQ s.data.toList=([],102) by
        rw[HQ.out,HM.out,if_pos ⟨rfl,by show 200<l.length;rw[HLN.out];exact h200⟩])
       clear H HQ HM h200
       go_wp2_with fail
       go_ret2
       exact⟨.slice none 0 0,by rw[HQ2.out];rfl,HBW.out,by rw[HQ2.out];exact mls_nil w _⟩
      ·have b4:decide ((200:Int)<(L.length:Int))=false:=decide_eq_false (by omega)
       have HQ2:=hid (show parseQ s.data.toList=(l,0) by
        rw[HQ.out,HM.out,if_neg (by rintro⟨-,e⟩;rw[show((l,(0:Int)):List Ml×Int).1=l from rfl,HLN.out]at e;exact h200 e)])
       clear H HQ HM h200
       go_wp2_with fail
       go_ret2
       exact⟨.slice x7 L.length c7,by rw[HQ2.out];rfl,HBW.out,by
        rw[HQ2.out]
        exact own_base HR7.out HB3.out.size⟩
end Go.Proofs.YtmlmkmhkmifnkaaGreatDoor.Ma
namespace Go.Proofs.YtmlmkmhkmifnkaaGreatDoor.Ma
open Go.RowKit
open Ci (Bel Lay)
theorem b_info:∃j,Tryz.prog.info? 127=some j∧j.size=2:=by
 have h:(Tryz.prog.info? 127).map (·.size)=some 2:=by kernel_rfl
 obtain⟨j,hj,e⟩:=Option.map_eq_some_iff.1 h
 exact⟨j,hj,e⟩
theorem copyCheck_run(B b:Nat)(bs:List Value)(w:World)(h:Lib.IsBuilder 127 5 B b bs w):
 Calls Tryz.prog 144 #[.pointer (some ⟨b,0,none⟩)] w fun e w'=>e=.returned (.tuple #[])∧(Lib.BuilderAt 127 5 B b (.pointer (some ⟨b,0,none⟩)) bs w'∧Below B w w'):=by
 rcases h with h|h
 ·have c0:=h.cell0
  have hsh:=h.shape
  have f0:=h.frozen0
  obtain⟨j,hj,hjs⟩:=b_info
  have hto:=Lib.run_to_unsafe (P:=Tryz.prog) w ⟨b,0,none⟩ Tryz.underlying125 Tryz.underlying254 hj (by rw[hjs];decide) hsh (Nat.zero_lt_succ 1)
  have hfrom:=Lib.run_from_unsafe (P:=Tryz.prog) w ⟨b,0,none⟩ Tryz.underlying254 Tryz.underlying125 hj hsh (by kernel_rfl)
  have hne:(callFunc 221 #[.pointer (some ⟨b,0,none⟩)]).run Tryz.prog w=.ok (Next.value (.pointer (some ⟨b,0,none⟩))) w:=by
   rw[run_callFunc_extern Tryz.func221 (by kernel_rfl) (by kernel_rfl) (by kernel_rfl) (e:=Extern.AbiNoEscape.same) (by kernel_rfl)]
   rfl
  have HU:=hid (h.used (.pointer (some ⟨b,0,none⟩)))
  have HB:=hid h.1
  clear h
  go_enter Tryz.func144,Tryz.ntmps144
  go_wp2
  go_end0
  exact⟨rfl,HU.out,(Below.refl B w).setCell (p:=⟨b,0,none⟩) HB.out _⟩
 ·have c0:=h.cell0
  have HB:=hid h
  clear h
  go_enter Tryz.func144,Tryz.ntmps144
  go_wp2
  obtain⟨j,hj,-⟩:=b_info
  rw[Lib.run_neq_ptr_same w _ Tryz.underlying125 hj]
  go_wp2
  go_end0
  exact⟨rfl,HB.out,Below.refl B _⟩
theorem byte_infos:(Tryz.prog.info? 5).map (fun i=>(i.zero,i.size,i.bytes))=some (some (.int .u8 0),1,1):=by kernel_rfl
theorem writeString_run(B b:Nat)(bs:List Value)(s:ByteArray)(w:World)(h:Lib.IsBuilder 127 5 B b bs w)(hlen:bs.length+s.size≤140737488355328)(hBw:B≤w.heap.size):
 Calls Tryz.prog 74 #[.pointer (some ⟨b,0,none⟩),.string s] w fun e w'=>e=.returned (.tuple #[.int .i64 s.size,.nilIface])∧(Lib.IsBuilder 127 5 B b (bs++Lib.strCells s) w'∧Below B w w'):=by
 obtain⟨i0,hi,hz0,hz1,hz2⟩:=info_parts byte_infos
 have HC:=hid (copyCheck_run B b bs w h)
 clear h
 go_enter Tryz.func74,Tryz.ntmps74
 go_wp2_with (go_at_call 144;refine HC.out.mono ?_)
 rintro e w1 ⟨rfl,h1,hb1⟩
 obtain⟨hB,v,hbk,hown,hne⟩:=h1
 have c0:w1.cell? ⟨b,0,none⟩=some (.pointer (some ⟨b,0,none⟩)):=by rw[Lib.cell_of_heap hbk];rfl
 have c1:w1.cell? ⟨b,1,none⟩=some v:=by rw[Lib.cell_of_heap hbk];rfl
 go_wp2_with (at_builtin;refine Lib.wpList_append_own_string _ rfl _ _ 48 9 rfl B 5 i0 Tryz.underlying48 Tryz.underlying9 hi hz0 hz1 hz2 _ _ _ rfl hown s rfl ?c3 ?c4 ?c5 ?_)
 case c3=>unfold maxLen;omega
 case c4=>omega
 case c5=>have:=hb1.size;omega
 intro v' w2 hown' hgrow _
 have hlt:b<w1.heap.size:=(Array.getElem?_eq_some_iff.1 hbk).1
 have hb2:w2.heap[b]?=some (.cells #[.pointer (some ⟨b,0,none⟩),v] 127 (0,0)):=by
  rw[hgrow.block b hlt (fun e=>hne e.symm)]
  exact hbk
 have d1:w2.cell? ⟨b,1,none⟩=some v:=by rw[Lib.cell_of_heap hb2];rfl
 have f1:w2.frozen? ⟨b,1,none⟩=false:=Lib.frozen_of_heap hb2 1
 have HG:=hid (show Below B w w2 from hb1.grown hgrow (by have:=hb1.size;omega) (fun k hk=>(hown.lt k hk).1))
 obtain⟨ao,n',cap,rfl⟩:∃ao n' cap,v'=.slice ao n' cap:=by
  rcases hown'.2 with⟨hv,_⟩|⟨g,cap,cur,hv,_⟩
  ·exact⟨_,_,_,hv⟩
  ·exact⟨_,_,_,hv⟩
 clear hown hgrow hb1 hne hbk c0 c1
 go_wp2
 go_ret2
 exact⟨rfl,.inr (Lib.BuilderAt.put (T:=127) (e:=5) hB hb2 (bs':=bs++Lib.strCells s) (by simpa[Lib.strCells_length]using hown') (by decide)),HG.out.setCell (p:=⟨b,1,none⟩) hB _⟩
end Go.Proofs.YtmlmkmhkmifnkaaGreatDoor.Ma