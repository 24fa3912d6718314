import Derived.Test.YtmlmkmhkmifnkaaGreatDoorM09
import Derived.Lib.Builder
import Derived.Lib.AppendStr
set_option maxHeartbeats 16000000
set_option maxRecDepth 1000000
namespace Go.Proofs.YtmlmkmhkmifnkaaGreatDoor.Ma
open Go.RowKit
open Ci (Bel Lay ext_bytes Nt netC netV zeroN zeroN_fits addrQ errQ netC_one net_len range_net formQ rightQ)
theorem ext_list(s:ByteArray)(a b:Nat):(s.extract a b).data.toList=(s.data.toList.take b).drop a:=by
 rw[ByteArray.data_extract,Array.toList_extract,List.extract_eq_take_drop,List.drop_take]
theorem ext_front(s:ByteArray)(b:Nat):(s.extract 0 b).data.toList=s.data.toList.take b:=by
 rw[ext_list,List.drop_zero]
theorem ext_back(s:ByteArray)(a:Nat):(s.extract a s.size).data.toList=s.data.toList.drop a:=by
 rw[ext_list,Lib.size_eq,List.take_length]
theorem head_at{s:ByteArray}(h:0<s.size):s.data.toList.head?=some s[0]:=by
 rw[List.head?_eq_getElem?,List.getElem?_eq_getElem (by rw[←Lib.size_eq];exact h)]
 rfl
theorem last_at{s:ByteArray}{m:Nat}(h:m<s.size)(h1:m+1=s.size):s.data.toList.getLast?=some s[m]:=by
 have:=Lib.size_eq s
 rw[List.getLast?_eq_getElem?,show s.data.toList.length-1=m by omega,List.getElem?_eq_getElem (by omega)]
 rfl
def litQ(J:List UInt8)(six:Bool):List UInt8×Bool×Int:=match addrQ J with
 |some n=>if n.six=six then(formQ n,true,0)else([],false,90)
 |none=>([],false,90)
def namQ(s:List UInt8):List UInt8×Bool×Int:=if !namedQ s then([],false,90)else if 255<s.length then([],false,91)else(lowL s,false,0)
theorem dom_lit{s:List UInt8}(h:isLit s=true):domainQ s=litQ (stripQ (innerQ s)) (sixQ' (innerQ s)):=by
 unfold domainQ litQ;rw[if_pos h];rfl
theorem dom_nam{s:List UInt8}(h:isLit s=false):domainQ s=namQ s:=by
 unfold domainQ namQ;rw[if_neg (by rw[h];exact Bool.false_ne_true)]
theorem pdomain_run(s:ByteArray)(w:World)(hw:Lay w)(hs:s.size≤4194304):
 Calls Tryz.prog 26 #[.string s] w fun e w'=>e=.returned (.tuple #[.string ⟨(domainQ s.data.toList).1.toArray⟩,.bool (domainQ s.data.toList).2.1,.int .i64 (domainQ s.data.toList).2.2])∧Bel w w':=by
 have HW:=hid hw
 have hsz:=Lib.size_eq s
 have HSS:=hid (And.intro hs hsz)
 by_cases h1:1<s.size
 ·have b1:decide ((1:Int)<(s.size:Int))=true:=decide_eq_true (by omega)
  have h0:0<s.size:=by omega
  obtain⟨m,hm⟩:∃m,m+1=s.size:=⟨s.size-1,by omega⟩
  have hml:m<s.size:=by omega
  have hm1:1≤m:=by omega
  have hla:wrap64 ((s.size:Int)-1)=(m:Int):=by rw[show(s.size:Int)-1=(m:Int) by omega];unfold wrap64;omega
  have HLT:=hid (show isLit s.data.toList=(s[0]==91&&s[m]==93) by
   unfold isLit
   rw[head_at h0,last_at hml hm,decide_eq_true (by omega),Bool.true_and]
   rfl)
  by_cases h2:s[0]=91
  ·have c2:(((s[0]'h0).toNat:Int)==91)=true:=byte_eq (n:=91) (by decide) h2
   by_cases h3:s[m]=93
   ·have c3:(((s[m]'hml).toNat:Int)==93)=true:=byte_eq (n:=93) (by decide) h3
    have hlit:isLit s.data.toList=true:=by rw[HLT.out,h2,h3];rfl
    have HIn:=hid (show innerQ s.data.toList=(s.extract 1 m).data.toList by
     unfold innerQ
     rw[ext_list,show s.data.toList.length-1=m by omega])
    have hIs:(s.extract 1 m).size=m-1:=by rw[ByteArray.size_extract];omega
    have HX:=hid (dom_lit hlit)
    rw[HIn.out]at HX
    have hIl:(s.extract 1 m).data.toList.length=m-1:=by rw[←Lib.size_eq];exact hIs
    generalize hI:s.extract 1 m=I at HX hIs hIl
    clear HIn
    have hIb:I.size≤4194304:=by omega
    clear hIs hIl
    clear HLT h2 h3 hm
    by_cases h4:4<I.size
    ·have b4:decide ((4:Int)<(I.size:Int))=true:=decide_eq_true (by omega)
     have HLo:=(show Hid (∀W,Calls Tryz.prog 63 #[.string (I.extract 0 5)] W fun e w'=>e=.returned (.string ⟨(lowL (I.data.toList.take 5)).toArray⟩)∧Bel W w')from fun W=>by
      have:=lower_run (I.extract 0 5) W (by rw[ByteArray.size_extract];omega)
      rw[ext_front]at this
      exact this)
     have H6:=hid (show sixQ' I.data.toList=((⟨(lowL (I.data.toList.take 5)).toArray⟩:ByteArray).toList==[105,112,118,54,58]) by
      unfold sixQ'
      rw[decide_eq_true (by rw[←Lib.size_eq];exact h4),Bool.true_and,ByteArray.toList_eq]
      rfl)
     generalize (⟨(lowL (I.data.toList.take 5)).toArray⟩:ByteArray)=lo at HLo H6
     cases h6':(lo.toList==[105,112,118,54,58])with
     |true=>
      have HX2:=hid (show domainQ s.data.toList=litQ (I.extract 5 I.size).data.toList true by
       rw[HX.out,H6.out,h6',ext_back]
       unfold stripQ
       rw[H6.out,h6',if_pos rfl])
      clear HX
      have HX:=hid HX2.out
      unfold litQ at HX
      clear HX2
      have HA:=(show Hid (∀W,Lay W→Calls Tryz.prog 64 #[.string (I.extract 5 I.size)] W fun e w'=>e=.returned (.tuple #[.agg (netC ((addrQ ((I.extract 5 I.size)).data.toList).getD zeroN)).toArray,.int .i64 (errQ (addrQ ((I.extract 5 I.size)).data.toList))])∧Bel W w')from fun W hW=>Ci.addr_run _ W hW (by first|omega|(rw[ByteArray.size_extract];omega)))
      have HN:=hid (addr_fits ((I.extract 5 I.size)).data.toList)
      have HG:=hid (fun n (h:addrQ ((I.extract 5 I.size)).data.toList=some n)=>addr_right h)
      generalize domainQ s.data.toList=r at HX⊢
      generalize addrQ ((I.extract 5 I.size)).data.toList=oa at HA HN HX HG
      have HZ:=hid (net_len _ HN.out.len)
      have HL:=hid (show(netC (oa.getD zeroN)).length=(netC zeroN).length by rw[Ci.netC_len _ HN.out.len,Ci.netC_len zeroN zeroN_fits.len])
      cases oa with
      |none=>
       have HY:=hid (show r=([],false,90)from HX.out)
       rw[HY.out]
       have HA:=(show Hid (∀W,Lay W→Calls Tryz.prog 64 #[.string (I.extract 5 I.size)] W fun e w'=>e=.returned (.tuple #[.agg (netC zeroN).toArray,.int .i64 70])∧Bel W w')from HA.out)
       have HZ:=hid (net_len zeroN zeroN_fits.len)
       obtain⟨a,ha⟩:∃a,a=zeroN:=⟨_,rfl⟩
       rw[←ha]at HA HZ
       have HL:=hid (show(netC a).length=(netC zeroN).length by rw[ha])
       clear ha hlit hw hs hsz
       go_enter Tryz.func26,Tryz.ntmps26
       go_wp2_with (first|(go_at_call 63;refine(HLo.out _).mono ?_;rintro e w1 ⟨rfl,hb1⟩;have HB1:=hid hb1)|(go_at_call 64;refine(HA.out _ (HW.out.next HB1.out)).mono ?_;rintro e w2 ⟨rfl,hb2⟩)|(refine wpList_store_blk rfl 86 (.tmp 7) (.tmp 47) rfl w2.heap.size (netC a) rfl rfl HZ.out (netC_one a) (netC zeroN) _ (heap_alloc_new w2 _) HL.out ?_;intro w3 hc3 ho3 hs3 hb3;have HB3:=hid (hb3 w2 ((Bel.refl w2).alloc _) (Nat.le_refl _));have c3:w3.cell? ⟨w2.heap.size,0,none⟩=some (.bool a.six):=(by simp[World.cell?,hc3,netC]);clear ho3 hs3 hb3))
       go_ret3
       exact⟨rfl,HB1.out.trans (hb2.trans HB3.out)⟩
      |some a=>
       have HA:=(show Hid (∀W,Lay W→Calls Tryz.prog 64 #[.string (I.extract 5 I.size)] W fun e w'=>e=.returned (.tuple #[.agg (netC a).toArray,.int .i64 0])∧Bel W w')from HA.out)
       have HZ:=(show Hid ((Tryz.prog.info? 86).map (·.size)=some (netC a).length)from HZ.out)
       have HL:=(show Hid ((netC a).length=(netC zeroN).length)from HL.out)
       by_cases h6:a.six=true
       ·have HY:=hid (show r=(formQ a,true,0)from HX.out.trans (if_pos h6))
        rw[HY.out]
        have HV:=(show Hid (∀W,Lay W→Calls Tryz.prog 65 #[.agg (netC a).toArray] W fun e w'=>e=.returned (.tuple #[.string ⟨(formQ a).toArray⟩,.int .i64 (Ci.errS a)])∧Bel W w')from fun W hW=>by
         have:=Ci.show_run a HN.out W hW
         have e:Ci.showQ a=some (formQ a):=by unfold Ci.showQ;rw[if_pos (HG.out a rfl)]
         rw[e]at this
         exact this)
        generalize Ci.errS a=es at HV
        clear hlit hw hs hsz
        go_enter Tryz.func26,Tryz.ntmps26
        go_wp2_with (first|(go_at_call 63;refine(HLo.out _).mono ?_;rintro e w1 ⟨rfl,hb1⟩;have HB1:=hid hb1)|(go_at_call 64;refine(HA.out _ (HW.out.next HB1.out)).mono ?_;rintro e w2 ⟨rfl,hb2⟩)|(refine wpList_store_blk rfl 86 (.tmp 7) (.tmp 47) rfl w2.heap.size (netC a) rfl rfl HZ.out (netC_one a) (netC zeroN) _ (heap_alloc_new w2 _) HL.out ?_;intro w3 hc3 ho3 hs3 hb3;have HB3:=hid (hb3 w2 ((Bel.refl w2).alloc _) (Nat.le_refl _));have c3:w3.cell? ⟨w2.heap.size,0,none⟩=some (.bool a.six):=(by simp[World.cell?,hc3,netC]);clear ho3 hs3 hb3)|(refine wpList_load_mid rfl 86 (.tmp 7) rfl w2.heap.size 0 rfl (netC a) _ (range_net hc3) Tryz.underlying86 rfl HZ.out ?_)|(go_at_call 65;refine(HV.out _ (HW.out.next (HB1.out.trans (hb2.trans HB3.out)))).mono ?_;rintro e w4 ⟨rfl,hb4⟩))
        go_ret3
        exact⟨rfl,HB1.out.trans (hb2.trans (HB3.out.trans hb4))⟩
       ·have HY:=hid (show r=([],false,90)from HX.out.trans (if_neg h6))
        rw[HY.out]
        have h6:a.six=false:=by simpa using h6
        clear hlit hw hs hsz
        go_enter Tryz.func26,Tryz.ntmps26
        go_wp2_with (first|(go_at_call 63;refine(HLo.out _).mono ?_;rintro e w1 ⟨rfl,hb1⟩;have HB1:=hid hb1)|(go_at_call 64;refine(HA.out _ (HW.out.next HB1.out)).mono ?_;rintro e w2 ⟨rfl,hb2⟩)|(refine wpList_store_blk rfl 86 (.tmp 7) (.tmp 47) rfl w2.heap.size (netC a) rfl rfl HZ.out (netC_one a) (netC zeroN) _ (heap_alloc_new w2 _) HL.out ?_;intro w3 hc3 ho3 hs3 hb3;have HB3:=hid (hb3 w2 ((Bel.refl w2).alloc _) (Nat.le_refl _));have c3:w3.cell? ⟨w2.heap.size,0,none⟩=some (.bool a.six):=(by simp[World.cell?,hc3,netC]);clear ho3 hs3 hb3))
        go_ret3
        exact⟨rfl,HB1.out.trans (hb2.trans HB3.out)⟩
     |false=>
      have HX2:=hid (show domainQ s.data.toList=litQ I.data.toList false by
       rw[HX.out,H6.out,h6']
       unfold stripQ
       rw[H6.out,h6',if_neg Bool.false_ne_true])
      clear HX
      have HX:=hid HX2.out
      unfold litQ at HX
      clear HX2
      have HA:=(show Hid (∀W,Lay W→Calls Tryz.prog 64 #[.string I] W fun e w'=>e=.returned (.tuple #[.agg (netC ((addrQ (I).data.toList).getD zeroN)).toArray,.int .i64 (errQ (addrQ (I).data.toList))])∧Bel W w')from fun W hW=>Ci.addr_run _ W hW (by first|omega|(rw[ByteArray.size_extract];omega)))
      have HN:=hid (addr_fits (I).data.toList)
      have HG:=hid (fun n (h:addrQ (I).data.toList=some n)=>addr_right h)
      generalize domainQ s.data.toList=r at HX⊢
      generalize addrQ (I).data.toList=oa at HA HN HX HG
      have HZ:=hid (net_len _ HN.out.len)
      have HL:=hid (show(netC (oa.getD zeroN)).length=(netC zeroN).length by rw[Ci.netC_len _ HN.out.len,Ci.netC_len zeroN zeroN_fits.len])
      cases oa with
      |none=>
       have HY:=hid (show r=([],false,90)from HX.out)
       rw[HY.out]
       have HA:=(show Hid (∀W,Lay W→Calls Tryz.prog 64 #[.string I] W fun e w'=>e=.returned (.tuple #[.agg (netC zeroN).toArray,.int .i64 70])∧Bel W w')from HA.out)
       have HZ:=hid (net_len zeroN zeroN_fits.len)
       obtain⟨a,ha⟩:∃a,a=zeroN:=⟨_,rfl⟩
       rw[←ha]at HA HZ
       have HL:=hid (show(netC a).length=(netC zeroN).length by rw[ha])
       clear ha hlit hw hs hsz
       go_enter Tryz.func26,Tryz.ntmps26
       go_wp2_with (first|(go_at_call 63;refine(HLo.out _).mono ?_;rintro e w1 ⟨rfl,hb1⟩;have HB1:=hid hb1)|(go_at_call 64;refine(HA.out _ (HW.out.next HB1.out)).mono ?_;rintro e w2 ⟨rfl,hb2⟩)|(refine wpList_store_blk rfl 86 (.tmp 7) (.tmp 47) rfl w2.heap.size (netC a) rfl rfl HZ.out (netC_one a) (netC zeroN) _ (heap_alloc_new w2 _) HL.out ?_;intro w3 hc3 ho3 hs3 hb3;have HB3:=hid (hb3 w2 ((Bel.refl w2).alloc _) (Nat.le_refl _));have c3:w3.cell? ⟨w2.heap.size,0,none⟩=some (.bool a.six):=(by simp[World.cell?,hc3,netC]);clear ho3 hs3 hb3))
       go_ret3
       exact⟨rfl,HB1.out.trans (hb2.trans HB3.out)⟩
      |some a=>
       have HA:=(show Hid (∀W,Lay W→Calls Tryz.prog 64 #[.string I] W fun e w'=>e=.returned (.tuple #[.agg (netC a).toArray,.int .i64 0])∧Bel W w')from HA.out)
       have HZ:=(show Hid ((Tryz.prog.info? 86).map (·.size)=some (netC a).length)from HZ.out)
       have HL:=(show Hid ((netC a).length=(netC zeroN).length)from HL.out)
       by_cases h6:a.six=false
       ·have HY:=hid (show r=(formQ a,true,0)from HX.out.trans (if_pos h6))
        rw[HY.out]
        have HV:=(show Hid (∀W,Lay W→Calls Tryz.prog 65 #[.agg (netC a).toArray] W fun e w'=>e=.returned (.tuple #[.string ⟨(formQ a).toArray⟩,.int .i64 (Ci.errS a)])∧Bel W w')from fun W hW=>by
         have:=Ci.show_run a HN.out W hW
         have e:Ci.showQ a=some (formQ a):=by unfold Ci.showQ;rw[if_pos (HG.out a rfl)]
         rw[e]at this
         exact this)
        generalize Ci.errS a=es at HV
        clear hlit hw hs hsz
        go_enter Tryz.func26,Tryz.ntmps26
        go_wp2_with (first|(go_at_call 63;refine(HLo.out _).mono ?_;rintro e w1 ⟨rfl,hb1⟩;have HB1:=hid hb1)|(go_at_call 64;refine(HA.out _ (HW.out.next HB1.out)).mono ?_;rintro e w2 ⟨rfl,hb2⟩)|(refine wpList_store_blk rfl 86 (.tmp 7) (.tmp 47) rfl w2.heap.size (netC a) rfl rfl HZ.out (netC_one a) (netC zeroN) _ (heap_alloc_new w2 _) HL.out ?_;intro w3 hc3 ho3 hs3 hb3;have HB3:=hid (hb3 w2 ((Bel.refl w2).alloc _) (Nat.le_refl _));have c3:w3.cell? ⟨w2.heap.size,0,none⟩=some (.bool a.six):=(by simp[World.cell?,hc3,netC]);clear ho3 hs3 hb3)|(refine wpList_load_mid rfl 86 (.tmp 7) rfl w2.heap.size 0 rfl (netC a) _ (range_net hc3) Tryz.underlying86 rfl HZ.out ?_)|(go_at_call 65;refine(HV.out _ (HW.out.next (HB1.out.trans (hb2.trans HB3.out)))).mono ?_;rintro e w4 ⟨rfl,hb4⟩))
        go_ret3
        exact⟨rfl,HB1.out.trans (hb2.trans (HB3.out.trans hb4))⟩
       ·have HY:=hid (show r=([],false,90)from HX.out.trans (if_neg h6))
        rw[HY.out]
        have h6:a.six=true:=by simpa using h6
        clear hlit hw hs hsz
        go_enter Tryz.func26,Tryz.ntmps26
        go_wp2_with (first|(go_at_call 63;refine(HLo.out _).mono ?_;rintro e w1 ⟨rfl,hb1⟩;have HB1:=hid hb1)|(go_at_call 64;refine(HA.out _ (HW.out.next HB1.out)).mono ?_;rintro e w2 ⟨rfl,hb2⟩)|(refine wpList_store_blk rfl 86 (.tmp 7) (.tmp 47) rfl w2.heap.size (netC a) rfl rfl HZ.out (netC_one a) (netC zeroN) _ (heap_alloc_new w2 _) HL.out ?_;intro w3 hc3 ho3 hs3 hb3;have HB3:=hid (hb3 w2 ((Bel.refl w2).alloc _) (Nat.le_refl _));have c3:w3.cell? ⟨w2.heap.size,0,none⟩=some (.bool a.six):=(by simp[World.cell?,hc3,netC]);clear ho3 hs3 hb3))
        go_ret3
        exact⟨rfl,HB1.out.trans (hb2.trans HB3.out)⟩
    ·have b4:decide ((4:Int)<(I.size:Int))=false:=decide_eq_false (by omega)
     have hf:sixQ' I.data.toList=false:=by
      unfold sixQ'
      rw[decide_eq_false (by rw[←Lib.size_eq];exact h4),Bool.false_and]
     have HX2:=hid (show domainQ s.data.toList=litQ I.data.toList false by
      rw[HX.out,hf]
      unfold stripQ
      rw[hf,if_neg Bool.false_ne_true])
     clear HX
     have HX:=hid HX2.out
     unfold litQ at HX
     clear HX2 hf
     have HA:=(show Hid (∀W,Lay W→Calls Tryz.prog 64 #[.string I] W fun e w'=>e=.returned (.tuple #[.agg (netC ((addrQ (I).data.toList).getD zeroN)).toArray,.int .i64 (errQ (addrQ (I).data.toList))])∧Bel W w')from fun W hW=>Ci.addr_run _ W hW (by first|omega|(rw[ByteArray.size_extract];omega)))
     have HN:=hid (addr_fits (I).data.toList)
     have HG:=hid (fun n (h:addrQ (I).data.toList=some n)=>addr_right h)
     generalize domainQ s.data.toList=r at HX⊢
     generalize addrQ (I).data.toList=oa at HA HN HX HG
     have HZ:=hid (net_len _ HN.out.len)
     have HL:=hid (show(netC (oa.getD zeroN)).length=(netC zeroN).length by rw[Ci.netC_len _ HN.out.len,Ci.netC_len zeroN zeroN_fits.len])
     cases oa with
     |none=>
      have HY:=hid (show r=([],false,90)from HX.out)
      rw[HY.out]
      have HA:=(show Hid (∀W,Lay W→Calls Tryz.prog 64 #[.string I] W fun e w'=>e=.returned (.tuple #[.agg (netC zeroN).toArray,.int .i64 70])∧Bel W w')from HA.out)
      have HZ:=hid (net_len zeroN zeroN_fits.len)
      obtain⟨a,ha⟩:∃a,a=zeroN:=⟨_,rfl⟩
      rw[←ha]at HA HZ
      have HL:=hid (show(netC a).length=(netC zeroN).length by rw[ha])
      clear ha hlit hw hs hsz
      go_enter Tryz.func26,Tryz.ntmps26
      go_wp2_with (first|(go_at_call 64;refine(HA.out _ (HW.out.next (Bel.refl w))).mono ?_;rintro e w2 ⟨rfl,hb2⟩)|(refine wpList_store_blk rfl 86 (.tmp 7) (.tmp 47) rfl w2.heap.size (netC a) rfl rfl HZ.out (netC_one a) (netC zeroN) _ (heap_alloc_new w2 _) HL.out ?_;intro w3 hc3 ho3 hs3 hb3;have HB3:=hid (hb3 w2 ((Bel.refl w2).alloc _) (Nat.le_refl _));have c3:w3.cell? ⟨w2.heap.size,0,none⟩=some (.bool a.six):=(by simp[World.cell?,hc3,netC]);clear ho3 hs3 hb3))
      go_ret3
      exact⟨rfl,(Bel.refl w).trans (hb2.trans HB3.out)⟩
     |some a=>
      have HA:=(show Hid (∀W,Lay W→Calls Tryz.prog 64 #[.string I] W fun e w'=>e=.returned (.tuple #[.agg (netC a).toArray,.int .i64 0])∧Bel W w')from HA.out)
      have HZ:=(show Hid ((Tryz.prog.info? 86).map (·.size)=some (netC a).length)from HZ.out)
      have HL:=(show Hid ((netC a).length=(netC zeroN).length)from HL.out)
      by_cases h6:a.six=false
      ·have HY:=hid (show r=(formQ a,true,0)from HX.out.trans (if_pos h6))
       rw[HY.out]
       have HV:=(show Hid (∀W,Lay W→Calls Tryz.prog 65 #[.agg (netC a).toArray] W fun e w'=>e=.returned (.tuple #[.string ⟨(formQ a).toArray⟩,.int .i64 (Ci.errS a)])∧Bel W w')from fun W hW=>by
        have:=Ci.show_run a HN.out W hW
        have e:Ci.showQ a=some (formQ a):=by unfold Ci.showQ;rw[if_pos (HG.out a rfl)]
        rw[e]at this
        exact this)
       generalize Ci.errS a=es at HV
       clear hlit hw hs hsz
       go_enter Tryz.func26,Tryz.ntmps26
       go_wp2_with (first|(go_at_call 64;refine(HA.out _ (HW.out.next (Bel.refl w))).mono ?_;rintro e w2 ⟨rfl,hb2⟩)|(refine wpList_store_blk rfl 86 (.tmp 7) (.tmp 47) rfl w2.heap.size (netC a) rfl rfl HZ.out (netC_one a) (netC zeroN) _ (heap_alloc_new w2 _) HL.out ?_;intro w3 hc3 ho3 hs3 hb3;have HB3:=hid (hb3 w2 ((Bel.refl w2).alloc _) (Nat.le_refl _));have c3:w3.cell? ⟨w2.heap.size,0,none⟩=some (.bool a.six):=(by simp[World.cell?,hc3,netC]);clear ho3 hs3 hb3)|(refine wpList_load_mid rfl 86 (.tmp 7) rfl w2.heap.size 0 rfl (netC a) _ (range_net hc3) Tryz.underlying86 rfl HZ.out ?_)|(go_at_call 65;refine(HV.out _ (HW.out.next ((Bel.refl w).trans (hb2.trans HB3.out)))).mono ?_;rintro e w4 ⟨rfl,hb4⟩))
       go_ret3
       exact⟨rfl,(Bel.refl w).trans (hb2.trans (HB3.out.trans hb4))⟩
      ·have HY:=hid (show r=([],false,90)from HX.out.trans (if_neg h6))
       rw[HY.out]
       have h6:a.six=true:=by simpa using h6
       clear hlit hw hs hsz
       go_enter Tryz.func26,Tryz.ntmps26
       go_wp2_with (first|(go_at_call 64;refine(HA.out _ (HW.out.next (Bel.refl w))).mono ?_;rintro e w2 ⟨rfl,hb2⟩)|(refine wpList_store_blk rfl 86 (.tmp 7) (.tmp 47) rfl w2.heap.size (netC a) rfl rfl HZ.out (netC_one a) (netC zeroN) _ (heap_alloc_new w2 _) HL.out ?_;intro w3 hc3 ho3 hs3 hb3;have HB3:=hid (hb3 w2 ((Bel.refl w2).alloc _) (Nat.le_refl _));have c3:w3.cell? ⟨w2.heap.size,0,none⟩=some (.bool a.six):=(by simp[World.cell?,hc3,netC]);clear ho3 hs3 hb3))
       go_ret3
       exact⟨rfl,(Bel.refl w).trans (hb2.trans HB3.out)⟩
   ·have c3:(((s[m]'hml).toNat:Int)==93)=false:=byte_ne (n:=93) (by decide) h3
    have hlit:isLit s.data.toList=false:=by
     rw[HLT.out]
     have:(s[m]==93)=false:=by simpa using h3
     rw[this,Bool.and_false]
    clear HLT h2 h3 hm
    have HX:=hid (dom_nam hlit)
    have HNm:=(show Hid (∀W,Lay W→Calls Tryz.prog 66 #[.string s] W fun e w'=>e=.returned (.bool (namedQ s.data.toList))∧Bel W w')from fun W hW=>named_run s W hW (by omega))
    have HLo:=(show Hid (∀W,Calls Tryz.prog 63 #[.string s] W fun e w'=>e=.returned (.string ⟨(lowL s.data.toList).toArray⟩)∧Bel W w')from fun W=>lower_run s W (by omega))
    generalize domainQ s.data.toList=r at HX⊢
    cases hn:namedQ s.data.toList with
    |false=>
     have HY:=hid (show r=([],false,90) by rw[HX.out];unfold namQ;rw[hn];rfl)
     rw[HY.out]
     rw[hn]at HNm
     clear hn hlit hw hs hsz
     go_enter Tryz.func26,Tryz.ntmps26
     go_wp2_with (first|(go_at_call 66;refine(HNm.out _ HW.out).mono ?_;rintro e w1 ⟨rfl,hb1⟩))
     go_ret3
     exact⟨rfl,hb1⟩
    |true=>
     by_cases h255:255<s.size
     ·have b9:decide ((255:Int)<(s.size:Int))=true:=decide_eq_true (by omega)
      have HY:=hid (show r=([],false,91) by rw[HX.out];unfold namQ;rw[hn,if_neg (by decide),if_pos (by omega)])
      rw[HY.out]
      rw[hn]at HNm
      clear hn hlit hw hs hsz h255
      go_enter Tryz.func26,Tryz.ntmps26
      go_wp2_with (first|(go_at_call 66;refine(HNm.out _ HW.out).mono ?_;rintro e w1 ⟨rfl,hb1⟩))
      go_ret3
      exact⟨rfl,hb1⟩
     ·have b9:decide ((255:Int)<(s.size:Int))=false:=decide_eq_false (by omega)
      have HY:=hid (show r=(lowL s.data.toList,false,0) by rw[HX.out];unfold namQ;rw[hn,if_neg (by decide),if_neg (by omega)])
      rw[HY.out]
      rw[hn]at HNm
      clear hn hlit hw hs hsz h255
      go_enter Tryz.func26,Tryz.ntmps26
      go_wp2_with (first|(go_at_call 66;refine(HNm.out _ HW.out).mono ?_;rintro e w1 ⟨rfl,hb1⟩)|(go_at_call 63;refine(HLo.out _).mono ?_;rintro e w2 ⟨rfl,hb2⟩))
      go_ret3
      exact⟨rfl,hb1.trans hb2⟩
  ·have c2:(((s[0]'h0).toNat:Int)==91)=false:=byte_ne (n:=91) (by decide) h2
   have hlit:isLit s.data.toList=false:=by
    rw[HLT.out]
    have:(s[0]==91)=false:=by simpa using h2
    rw[this,Bool.false_and]
   clear HLT h2 hm
   have HX:=hid (dom_nam hlit)
   have HNm:=(show Hid (∀W,Lay W→Calls Tryz.prog 66 #[.string s] W fun e w'=>e=.returned (.bool (namedQ s.data.toList))∧Bel W w')from fun W hW=>named_run s W hW (by omega))
   have HLo:=(show Hid (∀W,Calls Tryz.prog 63 #[.string s] W fun e w'=>e=.returned (.string ⟨(lowL s.data.toList).toArray⟩)∧Bel W w')from fun W=>lower_run s W (by omega))
   generalize domainQ s.data.toList=r at HX⊢
   cases hn:namedQ s.data.toList with
   |false=>
    have HY:=hid (show r=([],false,90) by rw[HX.out];unfold namQ;rw[hn];rfl)
    rw[HY.out]
    rw[hn]at HNm
    clear hn hlit hw hs hsz
    go_enter Tryz.func26,Tryz.ntmps26
    go_wp2_with (first|(go_at_call 66;refine(HNm.out _ HW.out).mono ?_;rintro e w1 ⟨rfl,hb1⟩))
    go_ret3
    exact⟨rfl,hb1⟩
   |true=>
    by_cases h255:255<s.size
    ·have b9:decide ((255:Int)<(s.size:Int))=true:=decide_eq_true (by omega)
     have HY:=hid (show r=([],false,91) by rw[HX.out];unfold namQ;rw[hn,if_neg (by decide),if_pos (by omega)])
     rw[HY.out]
     rw[hn]at HNm
     clear hn hlit hw hs hsz h255
     go_enter Tryz.func26,Tryz.ntmps26
     go_wp2_with (first|(go_at_call 66;refine(HNm.out _ HW.out).mono ?_;rintro e w1 ⟨rfl,hb1⟩))
     go_ret3
     exact⟨rfl,hb1⟩
    ·have b9:decide ((255:Int)<(s.size:Int))=false:=decide_eq_false (by omega)
     have HY:=hid (show r=(lowL s.data.toList,false,0) by rw[HX.out];unfold namQ;rw[hn,if_neg (by decide),if_neg (by omega)])
     rw[HY.out]
     rw[hn]at HNm
     clear hn hlit hw hs hsz h255
     go_enter Tryz.func26,Tryz.ntmps26
     go_wp2_with (first|(go_at_call 66;refine(HNm.out _ HW.out).mono ?_;rintro e w1 ⟨rfl,hb1⟩)|(go_at_call 63;refine(HLo.out _).mono ?_;rintro e w2 ⟨rfl,hb2⟩))
     go_ret3
     exact⟨rfl,hb1.trans hb2⟩
 ·have b1:decide ((1:Int)<(s.size:Int))=false:=decide_eq_false (by omega)
  have hlit:isLit s.data.toList=false:=by
   unfold isLit
   rw[decide_eq_false (by omega),Bool.false_and,Bool.false_and]
  have HX:=hid (dom_nam hlit)
  have HNm:=(show Hid (∀W,Lay W→Calls Tryz.prog 66 #[.string s] W fun e w'=>e=.returned (.bool (namedQ s.data.toList))∧Bel W w')from fun W hW=>named_run s W hW (by omega))
  have HLo:=(show Hid (∀W,Calls Tryz.prog 63 #[.string s] W fun e w'=>e=.returned (.string ⟨(lowL s.data.toList).toArray⟩)∧Bel W w')from fun W=>lower_run s W (by omega))
  generalize domainQ s.data.toList=r at HX⊢
  cases hn:namedQ s.data.toList with
  |false=>
   have HY:=hid (show r=([],false,90) by rw[HX.out];unfold namQ;rw[hn];rfl)
   rw[HY.out]
   rw[hn]at HNm
   clear hn hlit hw hs hsz
   go_enter Tryz.func26,Tryz.ntmps26
   go_wp2_with (first|(go_at_call 66;refine(HNm.out _ HW.out).mono ?_;rintro e w1 ⟨rfl,hb1⟩))
   go_ret3
   exact⟨rfl,hb1⟩
  |true=>
   by_cases h255:255<s.size
   ·have b9:decide ((255:Int)<(s.size:Int))=true:=decide_eq_true (by omega)
    have HY:=hid (show r=([],false,91) by rw[HX.out];unfold namQ;rw[hn,if_neg (by decide),if_pos (by omega)])
    rw[HY.out]
    rw[hn]at HNm
    clear hn hlit hw hs hsz h255
    go_enter Tryz.func26,Tryz.ntmps26
    go_wp2_with (first|(go_at_call 66;refine(HNm.out _ HW.out).mono ?_;rintro e w1 ⟨rfl,hb1⟩))
    go_ret3
    exact⟨rfl,hb1⟩
   ·have b9:decide ((255:Int)<(s.size:Int))=false:=decide_eq_false (by omega)
    have HY:=hid (show r=(lowL s.data.toList,false,0) by rw[HX.out];unfold namQ;rw[hn,if_neg (by decide),if_neg (by omega)])
    rw[HY.out]
    rw[hn]at HNm
    clear hn hlit hw hs hsz h255
    go_enter Tryz.func26,Tryz.ntmps26
    go_wp2_with (first|(go_at_call 66;refine(HNm.out _ HW.out).mono ?_;rintro e w1 ⟨rfl,hb1⟩)|(go_at_call 63;refine(HLo.out _).mono ?_;rintro e w2 ⟨rfl,hb2⟩))
    go_ret3
    exact⟨rfl,hb1.trans hb2⟩
end Go.Proofs.YtmlmkmhkmifnkaaGreatDoor.Ma
namespace Go.Proofs.YtmlmkmhkmifnkaaGreatDoor.Ma
open Go.RowKit
open Ci (Bel Lay own_bel row_shape addr_add own_base wpList_push)
def mlC(m:Ml):List Value:=[.bool m.path.null,.string ⟨m.path.loc.toArray⟩,.string ⟨m.path.dom.toArray⟩,.bool m.path.lit,.int .i64 m.from_,.int .i64 m.til,.string ⟨m.name.toArray⟩]
def mlCs(l:List Ml):List Value:=l.flatMap mlC
def Mls(a0 W:World)(v:Value)(l:List Ml):Prop:=W.ownsRow a0.heap.size 98 7 v l.length (mlCs l)
def ParsePost(s:ByteArray)(w:World)(e:Ending)(w':World):Prop:=∃v,e=.returned (.tuple #[v,.int .i64 (parseQ s.data.toList).2])∧Bel w w'∧Mls w w' v (parseQ s.data.toList).1
structure PaI (w3 wr:World) (L:List Sp) (k:Nat) (v:Value) (l:List Ml):Prop where
 bel:Bel w3 wr
 row:Mls w3 wr v l
 mi:MlI L k l
theorem form_size(n:Ci.Nt)(hn:n.Fits)(hb:n.bits≤128):(Ci.formQ n).length≤120:=by
 have h1:(Ci.addrT n).length≤100:=by
  unfold Ci.addrT
  split
  ·have:=Ci.longT_size n.addr hn.len hn.by_
   rw[Lib.size_eq]at this
   exact this
  ·have:=Ci.dotT_size (n.addr.take 4) (fun x hx=>hn.by_ x (List.mem_of_mem_take hx))
   rw[Lib.size_eq,List.length_take]at this
   have:(Lib.join ((n.addr.take 4).map Lib.decDigits) [46]).length≤4*min 4 n.addr.length:=this
   omega
 have h2:n.bits.toNat<1000:=by omega
 have h3:=(Ci.decDigits_len 2 n.bits.toNat (by omega)).2
 unfold Ci.formQ
 split
 ·rw[List.length_append,List.length_cons];omega
 ·omega
theorem dom_size(d:List UInt8):(domainQ d).1.length≤d.length+120∧((domainQ d).2.2=0∨(domainQ d).2.2=90∨(domainQ d).2.2=91):=by
 unfold domainQ
 split
 ·split
  ·rename_i n h
   have hf:=(Ci.addrQ_fits h).1
   have hb:=Ci.rightQ_bits (addr_right h)
   split
   ·exact⟨by have:=form_size n hf (by omega);show(Ci.formQ n).length≤_;omega,.inl rfl⟩
   ·exact⟨by simp,.inr (.inl rfl)⟩
  ·exact⟨by simp,.inr (.inl rfl)⟩
 ·split
  ·exact⟨by simp,.inr (.inl rfl)⟩
  ·split
   ·exact⟨by simp,.inr (.inr rfl)⟩
   ·exact⟨by show(lowL d).length≤_;rw[lower_le];omega,.inl rfl⟩
end Go.Proofs.YtmlmkmhkmifnkaaGreatDoor.Ma
namespace Go.Proofs.YtmlmkmhkmifnkaaGreatDoor.Ma
open Go.RowKit
open Ci (Bel Lay)
theorem b_info:∃j,Tryz.prog.info? 127=some j∧j.size=2:=by
 have h:(Tryz.prog.info? 127).map (·.size)=some 2:=by kernel_rfl
 obtain⟨j,hj,e⟩:=Option.map_eq_some_iff.1 h
 exact⟨j,hj,e⟩
theorem copyCheck_run(B b:Nat)(bs:List Value)(w:World)(h:Lib.IsBuilder 127 5 B b bs w):
 Calls Tryz.prog 144 #[.pointer (some ⟨b,0,none⟩)] w fun e w'=>e=.returned (.tuple #[])∧(Lib.BuilderAt 127 5 B b (.pointer (some ⟨b,0,none⟩)) bs w'∧Below B w w'):=by
 rcases h with h|h
 ·have c0:=h.cell0
  have hsh:=h.shape
  have f0:=h.frozen0
  obtain⟨j,hj,hjs⟩:=b_info
  have hto:=Lib.run_to_unsafe (P:=Tryz.prog) w ⟨b,0,none⟩ Tryz.underlying125 Tryz.underlying254 hj (by rw[hjs];decide) hsh (Nat.zero_lt_succ 1)
  have hfrom:=Lib.run_from_unsafe (P:=Tryz.prog) w ⟨b,0,none⟩ Tryz.underlying254 Tryz.underlying125 hj hsh (by kernel_rfl)
  have hne:(callFunc 221 #[.pointer (some ⟨b,0,none⟩)]).run Tryz.prog w=.ok (Next.value (.pointer (some ⟨b,0,none⟩))) w:=by
   rw[run_callFunc_extern Tryz.func221 (by kernel_rfl) (by kernel_rfl) (by kernel_rfl) (e:=Extern.AbiNoEscape.same) (by kernel_rfl)]
   rfl
  have HU:=hid (h.used (.pointer (some ⟨b,0,none⟩)))
  have HB:=hid h.1
  clear h
  go_enter Tryz.func144,Tryz.ntmps144
  go_wp2
  go_end0
  exact⟨rfl,HU.out,(Below.refl B w).setCell (p:=⟨b,0,none⟩) HB.out _⟩
 ·have c0:=h.cell0
  have HB:=hid h
  clear h
  go_enter Tryz.func144,Tryz.ntmps144
  go_wp2
  obtain⟨j,hj,-⟩:=b_info
  rw[Lib.run_neq_ptr_same w _ Tryz.underlying125 hj]
  go_wp2
  go_end0
  exact⟨rfl,HB.out,Below.refl B _⟩
theorem byte_infos:(Tryz.prog.info? 5).map (fun i=>(i.zero,i.size,i.bytes))=some (some (.int .u8 0),1,1):=by kernel_rfl
end Go.Proofs.YtmlmkmhkmifnkaaGreatDoor.Ma
namespace Go.Proofs.YtmlmkmhkmifnkaaGreatDoor.Ma
open Go.RowKit
open Ci (Bel Lay own_bel row_shape addr_add own_base wpList_push)
def ptC(p:Pt):List Value:=[.bool p.null,.string ⟨p.loc.toArray⟩,.string ⟨p.dom.toArray⟩,.bool p.lit]
structure Pts (W:World) (x:Option Addr) (l:List Pt):Prop where
 at_:l=[]∨∃b o,x=some ⟨b,o,none⟩∧b<W.heap.size∧∀k (hk:k<l.length),W.rangeAt b (o+k*4) (ptC l[k])
theorem ptC_one(p:Pt):((ptC p).toArray.all (·.oneCell'))=true:=by simp[ptC,Value.oneCell']
theorem ptC_range{W:World}{b:Nat}{p:Pt}{T:TypeId}(h:W.heap[b]?=some (.cells (ptC p).toArray T (0,0))):W.rangeAt b 0 (ptC p):=Ci.range_of h fun j v hv=>by rw[Nat.zero_add];exact hv
end Go.Proofs.YtmlmkmhkmifnkaaGreatDoor.Ma
namespace Go.Proofs.YtmlmkmhkmifnkaaGreatDoor.Ma
open Go.RowKit
open Ci (Bel Lay own_bel row_shape addr_add own_base)
theorem builder_new(w:World):Lib.IsBuilder 127 5 w.heap.size w.heap.size (Lib.byteCells []) (w.alloc (.cells #[.pointer none,.slice none 0 0] 127)):=
 .inl ⟨Nat.le_refl _,.slice none 0 0,heap_alloc_new w _,⟨rfl,.inl ⟨rfl,rfl⟩⟩,by simp[Value.ownBlock]⟩
end Go.Proofs.YtmlmkmhkmifnkaaGreatDoor.Ma
namespace Go.Proofs.YtmlmkmhkmifnkaaGreatDoor.Ma
open Go.RowKit
open Ci (Bel Lay addr_add)
theorem writeByte_run(B b:Nat)(l:List UInt8)(c:UInt8)(w:World)(h:Lib.IsBuilder 127 5 B b (Lib.byteCells l) w)(hlen:l.length+1≤140737488355328)(hBw:B≤w.heap.size):
 Calls Tryz.prog 75 #[.pointer (some ⟨b,0,none⟩),.int .u8 (c.toNat:Int)] w fun e w'=>e=.returned (.nilIface)∧(Lib.IsBuilder 127 5 B b (Lib.byteCells (l++[c])) w'∧Below B w w'):=by
 obtain⟨i0,hi,hz0,hz1,hz2⟩:=info_parts byte_infos
 have HC:=hid (copyCheck_run B b (Lib.byteCells l) w h)
 have hbl:(Lib.byteCells l).length=l.length:=by simp[Lib.byteCells]
 clear h
 go_enter Tryz.func75,Tryz.ntmps75
 go_wp2_with (go_at_call 144;refine HC.out.mono ?_)
 rintro e w1 ⟨rfl,h1,hb1⟩
 obtain⟨hB,v,hbk,hown,hne⟩:=h1
 have c0:w1.cell? ⟨b,0,none⟩=some (.pointer (some ⟨b,0,none⟩)):=by rw[Lib.cell_of_heap hbk];rfl
 have c1:w1.cell? ⟨b,1,none⟩=some v:=by rw[Lib.cell_of_heap hbk];rfl
 have hlt:b<w1.heap.size:=(Array.getElem?_eq_some_iff.1 hbk).1
 rw[hbl]at hown
 go_wp2_with (at_builtin;refine wpList_append_own _ rfl _ _ 48 rfl B 5 i0 (.int .u8 0) 1 1 Tryz.underlying48 hi hz0 hz1 hz2 rfl (by decide) v l.length (Lib.byteCells l) rfl (hown.alloc _) ⟨w1.heap.size,0,none⟩ 1 1 [.int .u8 (c.toNat:Int)] rfl rfl ?c2 ?c3 ?c4 ?c5 ?c6 ?_)
 case c2=>
  intro j u hu
  rw[addr_add,Nat.zero_add]
  have e:=heap_alloc_new w1 (.cells #[.int .u8 (c.toNat:Int)] 5)
  simp only[World.cell?,e]
  simpa using hu
 case c3=>intro u hu;rw[List.mem_singleton.1 hu];rfl
 case c4=>unfold maxLen;omega
 case c5=>omega
 case c6=>rw[World.size_alloc];have:=hb1.size;omega
 intro v' w2 hown' hgrow _
 have hb2:w2.heap[b]?=some (.cells #[.pointer (some ⟨b,0,none⟩),v] 127 (0,0)):=by
  rw[hgrow.block b (by rw[World.size_alloc];omega) (fun e=>hne e.symm)]
  exact((Bel.refl w1).alloc _).heap hbk
 have d1:w2.cell? ⟨b,1,none⟩=some v:=by rw[Lib.cell_of_heap hb2];rfl
 have f1:w2.frozen? ⟨b,1,none⟩=false:=Lib.frozen_of_heap hb2 1
 have HG:=hid (show Below B w w2 from(hb1.alloc (by have:=hb1.size;omega) _).grown hgrow (by rw[World.size_alloc];have:=hb1.size;omega) (fun k hk=>(hown.lt k hk).1))
 obtain⟨ao,n',cap,rfl⟩:∃ao n' cap,v'=.slice ao n' cap:=by
  rcases hown'.2 with⟨hv,_⟩|⟨g,cap,cur,hv,_⟩
  ·exact⟨_,_,_,hv⟩
  ·exact⟨_,_,_,hv⟩
 clear hown hgrow hb1 hne hbk c0 c1
 go_wp2
 go_ret
 have e:Lib.byteCells (l++[c])=Lib.byteCells l++[.int .u8 (c.toNat:Int)]:=by simp[Lib.byteCells]
 refine⟨rfl,.inr ?_,HG.out.setCell (p:=⟨b,1,none⟩) hB _⟩
 rw[e]
 exact Lib.BuilderAt.put (T:=127) (e:=5) hB hb2 (bs':=Lib.byteCells l++[.int .u8 (c.toNat:Int)]) (by rw[List.length_append,hbl];exact hown') (by decide)
def locL:List UInt8→Option (List UInt8×Nat)
 |[]=>none
 |c::t=>
  if c=34 then some ([],1)
  else if c=92 then match t with
   |[]=>none
   |d::t'=>if oddB d then none else(locL t').map fun x=>(d::x.1,x.2+2)
  else if oddB c then none else(locL t).map fun x=>(c::x.1,x.2+1)
def quotedP(s:List UInt8):List UInt8×Nat:=match locL (s.drop 1)with
 |some (b,n)=>if b=[]then([],0)else(b,n+1)
 |none=>([],0)
def domTextP(s:List UInt8):List UInt8:=
 if s.head?==some 91 then s.take (if 0≤Lib.indexByte s 93 then(Lib.indexByte s 93).toNat+1 else 0)else s.take (s.takeWhile fun b=>ldhB b||b==46).length
end Go.Proofs.YtmlmkmhkmifnkaaGreatDoor.Ma
namespace Go.Proofs.YtmlmkmhkmifnkaaGreatDoor.Ma
open Go.RowKit
open Ci (Bel Lay addr_add)
structure QoI (l:List UInt8) (k:Nat) (bs:List UInt8):Prop where
 pos:1≤k
 num:bs.length≤k
 eq:locL (l.drop 1)=(locL (l.drop k)).map fun x=>(bs++x.1,x.2+(k-1))
theorem lmap(o:Option (List UInt8×Nat))(f:List UInt8→List UInt8)(bs cs:List UInt8)(a b c:Nat)(h:a+b=c)(hf:∀x,bs++f x=cs++x):
 ((o.map fun x=>(f x.1,x.2+a)).map fun x=>(bs++x.1,x.2+b))=o.map fun x=>(cs++x.1,x.2+c):=by
 cases o with
 |none=>rfl
 |some x=>show some (bs++f x.1,x.2+a+b)=some (cs++x.1,x.2+c);rw[hf,←h,Nat.add_assoc]
theorem QoI.plain{l:List UInt8}{k:Nat}{bs:List UInt8}(h:QoI l k bs)(hk:k<l.length)(h1:l[k]≠34)(h2:l[k]≠92)(h3:oddB l[k]=false):QoI l (k+1) (bs++[l[k]]):=by
 have:=h.pos
 refine⟨by omega,by have:=h.num;simp;omega,?_⟩
 rw[h.eq,drop_at hk,locL.eq_def]
 simp only
 rw[if_neg h1,if_neg h2,h3,if_neg Bool.false_ne_true]
 exact lmap _ (l[k]:: ·) bs (bs++[l[k]]) 1 (k-1) (k+1-1) (by omega) fun x=>by simp
theorem QoI.esc{l:List UInt8}{k:Nat}{bs:List UInt8}(h:QoI l k bs)(hk:k+1<l.length)(h2:l[k]=92)(h3:oddB l[k+1]=false):QoI l (k+2) (bs++[l[k+1]]):=by
 have:=h.pos
 refine⟨by omega,by have:=h.num;simp;omega,?_⟩
 rw[h.eq,drop_at (by omega:k<l.length),drop_at hk,locL.eq_def]
 simp only
 rw[if_neg (by rw[h2];decide),if_pos h2,h3,if_neg Bool.false_ne_true]
 exact lmap _ (l[k+1]:: ·) bs (bs++[l[k+1]]) 2 (k-1) (k+2-1) (by omega) fun x=>by simp
theorem QoI.done{l:List UInt8}{k:Nat}{bs:List UInt8}(h:QoI l k bs)(hk:k<l.length)(h1:l[k]=34):locL (l.drop 1)=some (bs,k):=by
 have:=h.pos
 rw[h.eq,drop_at hk,locL.eq_def]
 simp only
 rw[if_pos h1]
 show some (bs++[],1+(k-1))=_
 rw[List.append_nil]
 congr 2;omega
theorem QoI.end_{l:List UInt8}{k:Nat}{bs:List UInt8}(h:QoI l k bs)(hk:l.length≤k):locL (l.drop 1)=none:=by
 rw[h.eq,List.drop_eq_nil_of_le hk];rfl
theorem QoI.odd{l:List UInt8}{k:Nat}{bs:List UInt8}(h:QoI l k bs)(hk:k<l.length)(h1:l[k]≠34)(h2:l[k]≠92)(h3:oddB l[k]=true):locL (l.drop 1)=none:=by
 rw[h.eq,drop_at hk,locL.eq_def]
 simp only
 rw[if_neg h1,if_neg h2,h3,if_pos rfl];rfl
theorem QoI.cut{l:List UInt8}{k:Nat}{bs:List UInt8}(h:QoI l k bs)(hk:k<l.length)(h2:l[k]=92)(h3:l.length≤k+1):locL (l.drop 1)=none:=by
 rw[h.eq,drop_at hk,List.drop_eq_nil_of_le h3,locL.eq_def]
 simp only
 rw[if_neg (by rw[h2];decide),if_pos h2];rfl
theorem QoI.eodd{l:List UInt8}{k:Nat}{bs:List UInt8}(h:QoI l k bs)(hk:k+1<l.length)(h2:l[k]=92)(h3:oddB l[k+1]=true):locL (l.drop 1)=none:=by
 rw[h.eq,drop_at (by omega:k<l.length),drop_at hk,locL.eq_def]
 simp only
 rw[if_neg (by rw[h2];decide),if_pos h2,h3,if_pos rfl];rfl
theorem quo_none{l:List UInt8}(h:locL (l.drop 1)=none):quotedP l=([],0):=by unfold quotedP;rw[h]
theorem quo_some{l b:List UInt8}{n:Nat}(h:locL (l.drop 1)=some (b,n)):quotedP l=if b=[]then([],0)else(b,n+1):=by unfold quotedP;rw[h]
structure QoW (s:List UInt8) (w wr:World) (k:Nat) (bs:List UInt8):Prop where
 bel:Bel w wr
 bd:Lib.IsBuilder 127 5 w.heap.size w.heap.size (Lib.byteCells bs) wr
 qi:QoI s k bs
def RefJ(s:ByteArray)(w:World)(a:Act)(w':World):Prop:=a.defers=[]∧a.tmps.getD 0 undef=.string s∧a.tmps.size=55∧quotedP s.data.toList=([],0)∧Bel w w'
theorem quoted_run(s:ByteArray)(w:World)(hs:s.size≤4194304):Calls Tryz.prog 219 #[.string s] w fun e w'=>e=.returned (.tuple #[.string ⟨(quotedP s.data.toList).1.toArray⟩,.int .i64 (quotedP s.data.toList).2])∧Bel w w':=by
 have HZ:=hid (Lib.size_eq s)
 have H0:=hid (show QoI s.data.toList 1 []from⟨Nat.le_refl _,Nat.zero_le _,by cases locL (s.data.toList.drop 1)<;>rfl⟩)
 go_enter Tryz.func219,Tryz.ntmps219
 go_wp2_with fail
 refine wp_scope_jumps 0 (RefJ s w) (fun _ _=>0) rfl ?_ ?_
 ·go_wp2_with fail
  go_loopg [5] (s.size+2) (fun gg v5 wr=>∃(k:Nat) (bs:List UInt8),v5=.int .i64 k∧k+gg=s.size+3∧k≤s.size+1∧Hid (QoW s.data.toList w wr k bs))
  case atStart=>exact⟨1,[],rfl,by omega,by omega,hid ⟨(Bel.refl w).alloc _,builder_new w,H0.out⟩⟩
  case round=>
   clear H0
   obtain⟨k,bs,rfl,hk,hk2,H⟩:=hrel
   have Hk:=hid hk
   have hp:=H.out.qi.pos
   have hnum:=H.out.qi.num
   clear hk
   by_cases hlt:k<s.size
   ·have hlt':k<s.data.toList.length:=by have:=HZ.out;omega
    have HC:=hid (show s.data.toList[k]'hlt'=s[k]from rfl)
    by_cases h1:s[k]=34
    ·have b1:(((s[k]'hlt).toNat:Int)==34)=true:=byte_eq (n:=34) (by decide) h1
     have b1n:((s[k]'hlt).toNat:Int)=34:=by simpa using b1
     have HD:=hid (quo_some (H.out.qi.done hlt' (by rw[HC.out];exact h1)))
     have HB:=hid H.out.bel
     have HBD:=hid H.out.bd
     have HLn:=(show Hid (Calls Tryz.prog 105 #[.pointer (some ⟨w.heap.size,0,none⟩)] wr fun e w'=>e=.returned (.int .i64 bs.length)∧w'=wr)from by
      have:=Tryz.Builder_Len w.heap.size w.heap.size _ wr H.out.bd
      rw[show(Lib.byteCells bs).length=bs.length by simp[Lib.byteCells]]at this
      exact this)
     have HSt:=(show Hid (Calls Tryz.prog 76 #[.pointer (some ⟨w.heap.size,0,none⟩)] wr fun e w'=>e=.returned (.string ⟨bs.toArray⟩)∧Below w.heap.size wr w')from Tryz.Builder_String_any w.heap.size w.heap.size bs wr H.out.bd H.out.bel.size)
     clear h1 H
     cases bs with
     |nil=>
      have HX:=hid (show quotedP s.data.toList=([],0)from HD.out)
      have HLn:=(show Hid (Calls Tryz.prog 105 #[.pointer (some ⟨w.heap.size,0,none⟩)] wr fun e w'=>e=.returned (.int .i64 0)∧w'=wr)from HLn.out)
      clear HD HSt HBD
      go_wp2_with (first|(go_at_call 105;refine HLn.out.mono ?_;rintro e w8 ⟨rfl,rfl⟩))
      go_step3
      go_wp2_with fail
      simp+zetaDelta only[Exit.jump]
      go_ret2
      exact⟨by rw[HX.out];rfl,HB.out⟩
     |cons c bs=>
      have HX:=hid (show quotedP s.data.toList=(c::bs,k+1)from HD.out)
      have d0:decide ((0:Int)<((c::bs).length:Int))=true:=decide_eq_true (by simp only[List.length_cons];omega)
      have d0n:0<(c::bs).length:=by simp
      generalize (c::bs).length=n at HLn d0 d0n hnum
      generalize c::bs=T at HX HSt
      clear HD HBD
      go_wp2_with (first|(go_at_call 105;refine HLn.out.mono ?_;rintro e w8 ⟨rfl,rfl⟩)|(go_at_call 76;refine HSt.out.mono ?_;rintro e w9 ⟨rfl,hb9⟩))
      simp+zetaDelta only[Exit.jump]
      go_ret2
      exact⟨by rw[HX.out];rfl,Below.trans HB.out hb9⟩
    ·have b1:(((s[k]'hlt).toNat:Int)==34)=false:=byte_ne (n:=34) (by decide) h1
     have b1n:¬(((s[k]'hlt).toNat:Int)=34):=by simpa using b1
     have hks:¬k=s.size:=by omega
     have hksb:((k:Int)==(s.size:Int))=false:=by rw[beq_eq_false_iff_ne];omega
     by_cases h2:s[k]=92
     ·have b2:(((s[k]'hlt).toNat:Int)==92)=true:=byte_eq (n:=92) (by decide) h2
      by_cases hl2:k+1<s.size
      ·have hl2':k+1<s.data.toList.length:=by have:=HZ.out;omega
       have HC2:=hid (show s.data.toList[k+1]'hl2'=s[k+1]from rfl)
       have hks2:(((k:Int)+1)==(s.size:Int))=false:=by rw[beq_eq_false_iff_ne];omega
       have hks2n:¬((k:Int)+1=(s.size:Int)):=by omega
       by_cases h3:oddB s[k+1]=true
       ·have HX:=hid (quo_none (H.out.qi.eodd hl2' (by rw[HC.out];exact h2) (by rw[HC2.out];exact h3)))
        have HB:=hid H.out.bel
        unfold oddB at h3
        simp only[Bool.or_eq_true,decide_eq_true_eq]at h3
        by_cases g1:s[k+1].toNat<32
        ·have d1:decide (((s[k+1]).toNat:Int)<32)=true:=decide_eq_true (by omega)
         clear h1 h2 h3 g1 H
         go_wp2_with fail
         go_step3
         simp+zetaDelta only[Exit.inBlock,Exit.then,Exit.jump]
         exact⟨trivial,rfl,rfl,rfl,HX.out,HB.out⟩
        ·have d1:decide (((s[k+1]).toNat:Int)<32)=false:=decide_eq_false (by omega)
         have d2:decide ((126:Int)<((s[k+1]).toNat:Int))=true:=decide_eq_true (by omega)
         clear h1 h2 h3 g1 H
         go_wp2_with fail
         go_step3
         simp+zetaDelta only[Exit.inBlock,Exit.then,Exit.jump]
         exact⟨trivial,rfl,rfl,rfl,HX.out,HB.out⟩
       ·have HQ:=hid (H.out.qi.esc hl2' (by rw[HC.out];exact h2) (by rw[HC2.out];simpa using h3))
        have hno:¬(s[k+1].toNat<32)∧¬(126<s[k+1].toNat):=by
         unfold oddB at h3
         simp only[Bool.or_eq_true,decide_eq_true_eq,not_or]at h3
         exact h3
        have d1:decide (((s[k+1]).toNat:Int)<32)=false:=decide_eq_false (by omega)
        have d2:decide ((126:Int)<((s[k+1]).toNat:Int))=false:=decide_eq_false (by omega)
        have HWB:=hid (writeByte_run w.heap.size w.heap.size bs s[k+1] wr H.out.bd (by omega) H.out.bel.size)
        have HBW:=hid H.out.bel
        clear h1 h2 h3 hno H
        go_wp2_with (first|(go_at_call 75;refine HWB.out.mono ?_;rintro e w7 ⟨rfl,hbd7,hb7⟩))
        go_roundg (gk-2)
        case measure=>have:=Hk.out;omega
        case rel=>exact⟨k+2,bs++[s[k+1]],by go_num,by have:=Hk.out;omega,by omega,hid ⟨Below.trans HBW.out hb7,hbd7,HQ.out⟩⟩
      ·have HX:=hid (quo_none (H.out.qi.cut hlt' (by rw[HC.out];exact h2) (by have:=HZ.out;omega)))
       have HB:=hid H.out.bel
       have hke:k+1=s.size:=by omega
       have hks2:(((k:Int)+1)==(s.size:Int))=true:=by rw[beq_iff_eq];omega
       have hks2n:((k:Int)+1=(s.size:Int)):=by omega
       clear h1 h2 H hke
       go_wp2_with fail
       go_step3
       simp+zetaDelta only[Exit.inBlock,Exit.then,Exit.jump]
       exact⟨trivial,rfl,rfl,rfl,HX.out,HB.out⟩
     ·have b2:(((s[k]'hlt).toNat:Int)==92)=false:=byte_ne (n:=92) (by decide) h2
      by_cases h3:oddB s[k]=true
      ·have HX:=hid (quo_none (H.out.qi.odd hlt' (by rw[HC.out];exact h1) (by rw[HC.out];exact h2) (by rw[HC.out];exact h3)))
       have HB:=hid H.out.bel
       unfold oddB at h3
       simp only[Bool.or_eq_true,decide_eq_true_eq]at h3
       by_cases g1:s[k].toNat<32
       ·have d1:decide (((s[k]).toNat:Int)<32)=true:=decide_eq_true (by omega)
        clear h1 h2 h3 g1 H
        go_wp2_with fail
        go_step3
        simp+zetaDelta only[Exit.inBlock,Exit.then,Exit.jump]
        exact⟨trivial,rfl,rfl,rfl,HX.out,HB.out⟩
       ·have d1:decide (((s[k]).toNat:Int)<32)=false:=decide_eq_false (by omega)
        have d2:decide ((126:Int)<((s[k]).toNat:Int))=true:=decide_eq_true (by omega)
        clear h1 h2 h3 g1 H
        go_wp2_with fail
        go_step3
        simp+zetaDelta only[Exit.inBlock,Exit.then,Exit.jump]
        exact⟨trivial,rfl,rfl,rfl,HX.out,HB.out⟩
      ·have HQ:=hid (H.out.qi.plain hlt' (by rw[HC.out];exact h1) (by rw[HC.out];exact h2) (by rw[HC.out];simpa using h3))
       have hno:¬(s[k].toNat<32)∧¬(126<s[k].toNat):=by
        unfold oddB at h3
        simp only[Bool.or_eq_true,decide_eq_true_eq,not_or]at h3
        exact h3
       have d1:decide (((s[k]).toNat:Int)<32)=false:=decide_eq_false (by omega)
       have d2:decide ((126:Int)<((s[k]).toNat:Int))=false:=decide_eq_false (by omega)
       have HWB:=hid (writeByte_run w.heap.size w.heap.size bs s[k] wr H.out.bd (by omega) H.out.bel.size)
       have HBW:=hid H.out.bel
       clear h1 h2 h3 hno H
       go_wp2_with (first|(go_at_call 75;refine HWB.out.mono ?_;rintro e w7 ⟨rfl,hbd7,hb7⟩))
       go_roundg (gk-1)
       case measure=>have:=Hk.out;omega
       case rel=>exact⟨k+1,bs++[s[k]],by go_num,by have:=Hk.out;omega,by omega,hid ⟨Below.trans HBW.out hb7,hbd7,HQ.out⟩⟩
   ·have HX:=hid (quo_none (H.out.qi.end_ (by have:=HZ.out;omega)))
    have HB:=hid H.out.bel
    clear H
    go_wp2_with fail
    go_step3
    go_wp2_with fail
    simp+zetaDelta only[Exit.jump]
    go_ret2
    exact⟨by rw[HX.out];rfl,HB.out⟩
 ·rintro a0 w0 ⟨h1,h2,h3,h4,h5⟩
  obtain⟨A,ds⟩:=a0
  dsimp only at h1 h2 h3
  subst h1
  obtain⟨u,hu⟩:∃u:Nat→Value,u=fun i=>A.getD i undef:=⟨_,rfl⟩
  have hA:A=#[u 0,u 1,u 2,u 3,u 4,u 5,u 6,u 7,u 8,u 9,u 10,u 11,u 12,u 13,u 14,u 15,u 16,u 17,u 18,u 19,u 20,u 21,u 22,u 23,u 24,u 25,u 26,u 27,u 28,u 29,u 30,u 31,u 32,u 33,u 34,u 35,u 36,u 37,u 38,u 39,u 40,u 41,u 42,u 43,u 44,u 45,u 46,u 47,u 48,u 49,u 50,u 51,u 52,u 53,u 54]:=by
   rw[hu]
   exact(arr_lit A 55 h3).trans rfl
  rw[show A.getD 0 undef=u 0 by rw[hu]]at h2
  rw[h2]at hA
  clear hu h3
  subst hA
  clear h2
  have HX:=hid h4
  have HB:=hid h5
  clear h4 h5
  generalize u 1=u1
  generalize u 2=u2
  generalize u 3=u3
  generalize u 4=u4
  generalize u 5=u5
  generalize u 6=u6
  generalize u 7=u7
  generalize u 8=u8
  generalize u 9=u9
  generalize u 10=u10
  generalize u 11=u11
  generalize u 12=u12
  generalize u 13=u13
  generalize u 14=u14
  generalize u 15=u15
  generalize u 16=u16
  generalize u 17=u17
  generalize u 18=u18
  generalize u 19=u19
  generalize u 20=u20
  generalize u 21=u21
  generalize u 22=u22
  generalize u 23=u23
  generalize u 24=u24
  generalize u 25=u25
  generalize u 26=u26
  generalize u 27=u27
  generalize u 28=u28
  generalize u 29=u29
  generalize u 30=u30
  generalize u 31=u31
  generalize u 32=u32
  generalize u 33=u33
  generalize u 34=u34
  generalize u 35=u35
  generalize u 36=u36
  generalize u 37=u37
  generalize u 38=u38
  generalize u 39=u39
  generalize u 40=u40
  generalize u 41=u41
  generalize u 42=u42
  generalize u 43=u43
  generalize u 44=u44
  generalize u 45=u45
  generalize u 46=u46
  generalize u 47=u47
  generalize u 48=u48
  generalize u 49=u49
  generalize u 50=u50
  generalize u 51=u51
  generalize u 52=u52
  generalize u 53=u53
  generalize u 54=u54
  go_wp2_with fail
  simp+zetaDelta only[Exit.jump]
  go_ret2
  exact⟨by rw[HX.out];rfl,HB.out⟩
end Go.Proofs.YtmlmkmhkmifnkaaGreatDoor.Ma