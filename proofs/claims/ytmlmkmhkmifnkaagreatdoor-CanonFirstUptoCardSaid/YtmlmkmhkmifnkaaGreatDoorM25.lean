import Derived.Test.YtmlmkmhkmifnkaaGreatDoorM24
set_option maxHeartbeats 16000000
set_option maxRecDepth 1000000
namespace Go.Proofs.YtmlmkmhkmifnkaaGreatDoor.Ma
open Go.RowKit
open Ci (Bel Lay ext_bytes app_data Nt netC netV zeroN zeroN_fits addrQ errQ formQ netC_one net_len range_net splitL)
def rlitQ(s:List UInt8):Option (List UInt8):=
 if isLit s then match addrQ (stripQ (innerQ s))with
  |some n=>if n.six=sixQ' (innerQ s)then some (formQ n)else none
  |none=>none
 else none
theorem named_lit{s:List UInt8}(h:isLit s=true):namedQ s=false:=by
 unfold isLit at h
 simp only[Bool.and_eq_true,beq_iff_eq]at h
 obtain⟨⟨-,h1⟩,-⟩:=h
 cases s with
 |nil=>cases h1
 |cons b l=>
  obtain rfl:b=91:=Option.some.inj h1
  unfold namedQ
  refine some_piece (l:=91::l) (k:=0) lblQ (by simp) (by show(91:UInt8)≠46;decide) fun a ha=> ?_
  have hm:(91:UInt8)∈a:=ha
  unfold lblQ
  have:a.all ldhB=false:=by rw[List.all_eq_false];exact⟨91,hm,by decide⟩
  rw[this];simp
theorem rdom_lit(s:List UInt8):domainQ s=match rlitQ s with
 |some f=>(f,true,0)
 |none=>if !namedQ s then([],false,90)else if 255<s.length then([],false,91)else(lowL s,false,0):=by
 unfold domainQ rlitQ
 cases h:isLit s with
 |false=>rfl
 |true=>
  rw[if_pos rfl,if_pos rfl]
  cases h2:addrQ (stripQ (innerQ s))with
  |none=>simp only[named_lit h];rfl
  |some n=>
   simp only
   split
   ·rfl
   ·simp only[named_lit h];rfl
def litV(o:Option (List UInt8)):Array Value:=#[.string ⟨(o.getD []).toArray⟩,.bool o.isSome]
theorem lit_no{s:ByteArray}(h:¬(2≤s.size∧(∀h0:0<s.size,s[0]=91)∧∀h1:s.size-1<s.size,s[s.size-1]=93)):rlitQ s.data.toList=none:=by
 unfold rlitQ
 rw[if_neg]
 intro hl
 unfold isLit at hl
 simp only[Bool.and_eq_true,beq_iff_eq,decide_eq_true_eq]at hl
 obtain⟨⟨h1,h2⟩,h3⟩:=hl
 have hs:=Lib.size_eq s
 refine h ⟨by omega,fun h0=> ?_,fun h1=> ?_⟩
 ·rw[List.head?_eq_getElem?,List.getElem?_eq_getElem (by omega)]at h2
  exact Option.some.inj h2
 ·rw[List.getLast?_eq_getElem?,List.getElem?_eq_getElem (by omega)]at h3
  have e:s.data.toList[s.data.toList.length-1]'(by omega)=s[s.size-1]:=by
   show _=s.data.toList[s.size-1]'(by omega)
   congr 1
  rw[←e];exact Option.some.inj h3
theorem lit_yes{s:ByteArray}(h2:2≤s.size)(h0:0<s.size)(h1:s.size-1<s.size)(e0:s[0]=91)(e1:s[s.size-1]=93):isLit s.data.toList=true:=by
 have hs:=Lib.size_eq s
 unfold isLit
 rw[List.head?_eq_getElem?,List.getElem?_eq_getElem (by omega),List.getLast?_eq_getElem?,List.getElem?_eq_getElem (by omega)]
 have f0:s.data.toList[0]'(by omega)=s[0]:=rfl
 have f1:s.data.toList[s.data.toList.length-1]'(by omega)=s[s.size-1]:=by
  show _=s.data.toList[s.size-1]'(by omega)
  congr 1
 rw[f0,f1,e0,e1,decide_eq_true (by omega)]
 rfl
theorem inner_ext(s:ByteArray):(s.extract 1 (s.size-1)).data.toList=innerQ s.data.toList:=by
 rw[Lib.extract_data,Lib.size_eq]
 unfold innerQ
 rw[List.drop_take]
theorem lit_of{s:ByteArray}(h:isLit s.data.toList=true)(y:ByteArray)(six:Bool)(h6:sixQ' (innerQ s.data.toList)=six)(hy:y.data.toList=stripQ (innerQ s.data.toList)):
 rlitQ s.data.toList=match addrQ y.data.toList with
  |some n=>if n.six=six then some (formQ n)else none
  |none=>none:=by
 unfold rlitQ
 rw[if_pos h,h6,hy]
theorem show_form{s:List UInt8}{n:Nt}(h:addrQ s=some n):(Ci.showQ n).getD []=formQ n:=by
 unfold Ci.showQ
 rw[if_pos (addr_right h)]
 rfl
theorem rliteral_run(s:ByteArray)(w:World)(hs:s.size≤4194304):Calls Tryz.prog 82 #[.string s] w fun e w'=>e=.returned (.tuple (litV (rlitQ s.data.toList)))∧Bel w w':=by
 have HN0:=hid (lit_no (s:=s))
 obtain⟨r,hr⟩:∃r,r=rlitQ s.data.toList:=⟨_,rfl⟩
 have HR:=hid hr
 rw[←hr]
 clear hr
 have HB0:=hid (Bel.refl w)
 by_cases h2:2≤s.size
 ·have b2:decide ((s.size:Int)<2)=false:=decide_eq_false (by omega)
  have h0:0<s.size:=by omega
  have hlm:s.size-1<s.size:=by omega
  have hix:(1:Int)≤(s.size:Int)∧(s.size:Int)-1<(s.size:Int):=⟨by omega,by omega⟩
  by_cases e0:s[0]=91
  ·have c0:((s[0]'h0).toNat:Int)=91:=by rw[e0];rfl
   by_cases e1:s[s.size-1]=93
   ·have c1:((s[s.size-1]'hlm).toNat:Int)=93:=by rw[e1];rfl
    have HIs:=hid (lit_yes h2 h0 hlm e0 e1)
    have HI:=hid (inner_ext s)
    have hxs:(s.extract 1 (s.size-1)).size+2=s.size:=by rw[ByteArray.size_extract];omega
    have HXS:=hid hxs
    have hsl:(1:Int)≤(s.size:Int)-1∧(s.size:Int)-1≤(s.size:Int):=⟨by omega,by omega⟩
    clear hxs e0 e1
    have hx1:(s.extract 1 (s.size-1)).size≤4194304:=by have:=HXS.out;omega
    generalize hx:s.extract 1 (s.size-1)=x at HI HXS hx1
    have HXL:=hid (Lib.size_eq x)
    by_cases h5:5≤x.size
    ·have b5:decide ((5:Int)≤(x.size:Int))=true:=decide_eq_true (by omega)
     have HL:=(show Hid (∀W,Calls Tryz.prog 38 #[.string (x.extract 0 5)] W fun e w'=>e=.returned (.string ⟨(lowL (x.extract 0 5).data.toList).toArray⟩)∧Bel W w')from fun W=>rlower_run _ W (by rw[ByteArray.size_extract];omega))
     have H6:=hid (show sixQ' (innerQ s.data.toList)=((⟨(lowL (x.extract 0 5).data.toList).toArray⟩:ByteArray).toList==[105,112,118,54,58]) by
      rw[←HI.out,ByteArray.toList_eq,Lib.extract_data,List.drop_zero,Nat.sub_zero]
      unfold sixQ'
      rw[decide_eq_true (by rw[←HXL.out];omega),Bool.true_and]
      rfl)
     generalize (⟨(lowL (x.extract 0 5).data.toList).toArray⟩:ByteArray)=lo at HL H6
     cases hlo:(lo.toList==[105,112,118,54,58])with
     |true=>
      rw[hlo]at H6
      have HY:=hid (lit_of HIs.out (x.extract 5 x.size) true H6.out (by rw[Lib.extract_to_end,HI.out];unfold stripQ;rw[H6.out];rfl))
      have hys:(x.extract 5 x.size).size≤4194304:=by rw[ByteArray.size_extract];omega
      have HN:=hid (addr_fits (x.extract 5 x.size).data.toList)
      have HA:=(show Hid (∀W,Calls Tryz.prog 39 #[.string (x.extract 5 x.size)] W fun e w'=>e=.returned (.tuple #[.agg (netC ((addrQ ((x.extract 5 x.size):ByteArray).data.toList).getD zeroN)).toArray,.int .i64 (errQ (addrQ ((x.extract 5 x.size):ByteArray).data.toList))])∧Bel W w')from fun W=>Ci.raddr_run (x.extract 5 x.size) W (by omega))
      cases ho:addrQ ((x.extract 5 x.size):ByteArray).data.toList with
      |none=>
       rw[ho]at HA HN HY
       have HX:=hid (show r=none from HR.out.trans HY.out)
       have HA:=(show Hid (∀W,Calls Tryz.prog 39 #[.string (x.extract 5 x.size)] W fun e w'=>e=.returned (.tuple #[.agg (netC zeroN).toArray,.int .i64 70])∧Bel W w')from HA.out)
       obtain⟨a,ha⟩:∃a,a=zeroN:=⟨_,rfl⟩
       have HN:=(show Hid (Nt.Fits a)from by rw[ha];exact zeroN_fits)
       rw[←ha]at HA
       have HZ:=hid (net_len a HN.out.len)
       have HLn:=hid (show(netC a).length=(netC zeroN).length by rw[Ci.netC_len a HN.out.len,Ci.netC_len zeroN zeroN_fits.len])
       clear ho ha
       go_enter Tryz.func82,Tryz.ntmps82
       go_wp2_with (first|(go_at_call 38;refine(HL.out _).mono ?_;rintro e w1 ⟨rfl,hb1⟩;have HB1:=hid (HB0.out.trans hb1);clear hb1)|(go_at_call 39;refine(HA.out _).mono ?_;rintro e w2 ⟨rfl,hb2⟩;have HB2:=hid (HB1.out.trans hb2);clear hb2)|((with_reducible refine wpList_store_blk (by with_unfolding_all rfl) 86 (.tmp 7) (.tmp 45) (by with_unfolding_all rfl) w2.heap.size (netC a) (by with_unfolding_all rfl) (by with_unfolding_all rfl) HZ.out (netC_one a) (netC zeroN) _ (heap_alloc_new w2 _) HLn.out ?_);intro w3 hc3 ho3 hs3 hb3;have HB3:=hid (HB2.out.trans (hb3 w2 ((Bel.refl w2).alloc _) (Nat.le_refl _)));have c3:w3.cell? ⟨w2.heap.size,0,none⟩=some (.bool a.six):=(by simp[World.cell?,hc3,netC]);clear ho3 hs3 hb3))
       go_ret2
       exact⟨by rw[HX.out];rfl,HB3.out⟩
      |some a=>
       rw[ho]at HA HN HY
       have HN:=(show Hid (Nt.Fits a)from HN.out)
       have HA:=(show Hid (∀W,Calls Tryz.prog 39 #[.string (x.extract 5 x.size)] W fun e w'=>e=.returned (.tuple #[.agg (netC a).toArray,.int .i64 0])∧Bel W w')from HA.out)
       have HF:=hid (show_form ho)
       have HZ:=hid (net_len a HN.out.len)
       have HLn:=hid (show(netC a).length=(netC zeroN).length by rw[Ci.netC_len a HN.out.len,Ci.netC_len zeroN zeroN_fits.len])
       have HV:=(show Hid (∀W,Calls Tryz.prog 40 #[.agg (netC a).toArray] W fun e w'=>e=.returned (.tuple #[.string ⟨(formQ a).toArray⟩,.int .i64 (Ci.errS a)])∧Bel W w')from fun W=>by rw[←HF.out];exact Ci.rshow_run a HN.out W)
       generalize Ci.errS a=es at HV
       clear ho
       cases h6:a.six with
       |true=>
        have HX:=hid (show r=some (formQ a) by rw[HR.out,HY.out];simp only[h6];rfl)
        go_enter Tryz.func82,Tryz.ntmps82
        go_wp2_with (first|(go_at_call 38;refine(HL.out _).mono ?_;rintro e w1 ⟨rfl,hb1⟩;have HB1:=hid (HB0.out.trans hb1);clear hb1)|(go_at_call 39;refine(HA.out _).mono ?_;rintro e w2 ⟨rfl,hb2⟩;have HB2:=hid (HB1.out.trans hb2);clear hb2)|((with_reducible refine wpList_store_blk (by with_unfolding_all rfl) 86 (.tmp 7) (.tmp 45) (by with_unfolding_all rfl) w2.heap.size (netC a) (by with_unfolding_all rfl) (by with_unfolding_all rfl) HZ.out (netC_one a) (netC zeroN) _ (heap_alloc_new w2 _) HLn.out ?_);intro w3 hc3 ho3 hs3 hb3;have HB3:=hid (HB2.out.trans (hb3 w2 ((Bel.refl w2).alloc _) (Nat.le_refl _)));have c3:w3.cell? ⟨w2.heap.size,0,none⟩=some (.bool a.six):=(by simp[World.cell?,hc3,netC]);clear ho3 hs3 hb3)|((with_reducible refine wpList_load_mid (by with_unfolding_all rfl) 86 (.tmp 7) (by with_unfolding_all rfl) w2.heap.size 0 (by with_unfolding_all rfl) (netC a) _ (range_net hc3) Tryz.underlying86 (by with_unfolding_all rfl) HZ.out ?_))|(go_at_call 40;refine(HV.out _).mono ?_;rintro e w4 ⟨rfl,hb4⟩;have HB4:=hid (HB3.out.trans hb4);clear hb4))
        go_ret2
        exact⟨by rw[HX.out];rfl,HB4.out⟩
       |false=>
        have HX:=hid (show r=none by rw[HR.out,HY.out];simp only[h6];rfl)
        go_enter Tryz.func82,Tryz.ntmps82
        go_wp2_with (first|(go_at_call 38;refine(HL.out _).mono ?_;rintro e w1 ⟨rfl,hb1⟩;have HB1:=hid (HB0.out.trans hb1);clear hb1)|(go_at_call 39;refine(HA.out _).mono ?_;rintro e w2 ⟨rfl,hb2⟩;have HB2:=hid (HB1.out.trans hb2);clear hb2)|((with_reducible refine wpList_store_blk (by with_unfolding_all rfl) 86 (.tmp 7) (.tmp 45) (by with_unfolding_all rfl) w2.heap.size (netC a) (by with_unfolding_all rfl) (by with_unfolding_all rfl) HZ.out (netC_one a) (netC zeroN) _ (heap_alloc_new w2 _) HLn.out ?_);intro w3 hc3 ho3 hs3 hb3;have HB3:=hid (HB2.out.trans (hb3 w2 ((Bel.refl w2).alloc _) (Nat.le_refl _)));have c3:w3.cell? ⟨w2.heap.size,0,none⟩=some (.bool a.six):=(by simp[World.cell?,hc3,netC]);clear ho3 hs3 hb3))
        go_ret2
        exact⟨by rw[HX.out];rfl,HB3.out⟩
     |false=>
      rw[hlo]at H6
      have HY:=hid (lit_of HIs.out x false H6.out (by rw[HI.out];unfold stripQ;rw[H6.out];rfl))
      have HN:=hid (addr_fits x.data.toList)
      have HA:=(show Hid (∀W,Calls Tryz.prog 39 #[.string x] W fun e w'=>e=.returned (.tuple #[.agg (netC ((addrQ (x:ByteArray).data.toList).getD zeroN)).toArray,.int .i64 (errQ (addrQ (x:ByteArray).data.toList))])∧Bel W w')from fun W=>Ci.raddr_run x W (by omega))
      cases ho:addrQ (x:ByteArray).data.toList with
      |none=>
       rw[ho]at HA HN HY
       have HX:=hid (show r=none from HR.out.trans HY.out)
       have HA:=(show Hid (∀W,Calls Tryz.prog 39 #[.string x] W fun e w'=>e=.returned (.tuple #[.agg (netC zeroN).toArray,.int .i64 70])∧Bel W w')from HA.out)
       obtain⟨a,ha⟩:∃a,a=zeroN:=⟨_,rfl⟩
       have HN:=(show Hid (Nt.Fits a)from by rw[ha];exact zeroN_fits)
       rw[←ha]at HA
       have HZ:=hid (net_len a HN.out.len)
       have HLn:=hid (show(netC a).length=(netC zeroN).length by rw[Ci.netC_len a HN.out.len,Ci.netC_len zeroN zeroN_fits.len])
       clear ho ha
       go_enter Tryz.func82,Tryz.ntmps82
       go_wp2_with (first|(go_at_call 38;refine(HL.out _).mono ?_;rintro e w1 ⟨rfl,hb1⟩;have HB1:=hid (HB0.out.trans hb1);clear hb1)|(go_at_call 39;refine(HA.out _).mono ?_;rintro e w2 ⟨rfl,hb2⟩;have HB2:=hid (HB1.out.trans hb2);clear hb2)|((with_reducible refine wpList_store_blk (by with_unfolding_all rfl) 86 (.tmp 7) (.tmp 45) (by with_unfolding_all rfl) w2.heap.size (netC a) (by with_unfolding_all rfl) (by with_unfolding_all rfl) HZ.out (netC_one a) (netC zeroN) _ (heap_alloc_new w2 _) HLn.out ?_);intro w3 hc3 ho3 hs3 hb3;have HB3:=hid (HB2.out.trans (hb3 w2 ((Bel.refl w2).alloc _) (Nat.le_refl _)));have c3:w3.cell? ⟨w2.heap.size,0,none⟩=some (.bool a.six):=(by simp[World.cell?,hc3,netC]);clear ho3 hs3 hb3))
       go_ret2
       exact⟨by rw[HX.out];rfl,HB3.out⟩
      |some a=>
       rw[ho]at HA HN HY
       have HN:=(show Hid (Nt.Fits a)from HN.out)
       have HA:=(show Hid (∀W,Calls Tryz.prog 39 #[.string x] W fun e w'=>e=.returned (.tuple #[.agg (netC a).toArray,.int .i64 0])∧Bel W w')from HA.out)
       have HF:=hid (show_form ho)
       have HZ:=hid (net_len a HN.out.len)
       have HLn:=hid (show(netC a).length=(netC zeroN).length by rw[Ci.netC_len a HN.out.len,Ci.netC_len zeroN zeroN_fits.len])
       have HV:=(show Hid (∀W,Calls Tryz.prog 40 #[.agg (netC a).toArray] W fun e w'=>e=.returned (.tuple #[.string ⟨(formQ a).toArray⟩,.int .i64 (Ci.errS a)])∧Bel W w')from fun W=>by rw[←HF.out];exact Ci.rshow_run a HN.out W)
       generalize Ci.errS a=es at HV
       clear ho
       cases h6:a.six with
       |false=>
        have HX:=hid (show r=some (formQ a) by rw[HR.out,HY.out];simp only[h6];rfl)
        go_enter Tryz.func82,Tryz.ntmps82
        go_wp2_with (first|(go_at_call 38;refine(HL.out _).mono ?_;rintro e w1 ⟨rfl,hb1⟩;have HB1:=hid (HB0.out.trans hb1);clear hb1)|(go_at_call 39;refine(HA.out _).mono ?_;rintro e w2 ⟨rfl,hb2⟩;have HB2:=hid (HB1.out.trans hb2);clear hb2)|((with_reducible refine wpList_store_blk (by with_unfolding_all rfl) 86 (.tmp 7) (.tmp 45) (by with_unfolding_all rfl) w2.heap.size (netC a) (by with_unfolding_all rfl) (by with_unfolding_all rfl) HZ.out (netC_one a) (netC zeroN) _ (heap_alloc_new w2 _) HLn.out ?_);intro w3 hc3 ho3 hs3 hb3;have HB3:=hid (HB2.out.trans (hb3 w2 ((Bel.refl w2).alloc _) (Nat.le_refl _)));have c3:w3.cell? ⟨w2.heap.size,0,none⟩=some (.bool a.six):=(by simp[World.cell?,hc3,netC]);clear ho3 hs3 hb3)|((with_reducible refine wpList_load_mid (by with_unfolding_all rfl) 86 (.tmp 7) (by with_unfolding_all rfl) w2.heap.size 0 (by with_unfolding_all rfl) (netC a) _ (range_net hc3) Tryz.underlying86 (by with_unfolding_all rfl) HZ.out ?_))|(go_at_call 40;refine(HV.out _).mono ?_;rintro e w4 ⟨rfl,hb4⟩;have HB4:=hid (HB3.out.trans hb4);clear hb4))
        go_ret2
        exact⟨by rw[HX.out];rfl,HB4.out⟩
       |true=>
        have HX:=hid (show r=none by rw[HR.out,HY.out];simp only[h6];rfl)
        go_enter Tryz.func82,Tryz.ntmps82
        go_wp2_with (first|(go_at_call 38;refine(HL.out _).mono ?_;rintro e w1 ⟨rfl,hb1⟩;have HB1:=hid (HB0.out.trans hb1);clear hb1)|(go_at_call 39;refine(HA.out _).mono ?_;rintro e w2 ⟨rfl,hb2⟩;have HB2:=hid (HB1.out.trans hb2);clear hb2)|((with_reducible refine wpList_store_blk (by with_unfolding_all rfl) 86 (.tmp 7) (.tmp 45) (by with_unfolding_all rfl) w2.heap.size (netC a) (by with_unfolding_all rfl) (by with_unfolding_all rfl) HZ.out (netC_one a) (netC zeroN) _ (heap_alloc_new w2 _) HLn.out ?_);intro w3 hc3 ho3 hs3 hb3;have HB3:=hid (HB2.out.trans (hb3 w2 ((Bel.refl w2).alloc _) (Nat.le_refl _)));have c3:w3.cell? ⟨w2.heap.size,0,none⟩=some (.bool a.six):=(by simp[World.cell?,hc3,netC]);clear ho3 hs3 hb3))
        go_ret2
        exact⟨by rw[HX.out];rfl,HB3.out⟩
    ·have b5:decide ((5:Int)≤(x.size:Int))=false:=decide_eq_false (by omega)
     have H6:=hid (show sixQ' (innerQ s.data.toList)=false by
      unfold sixQ'
      rw[←HI.out,decide_eq_false (by rw[←HXL.out];omega)];rfl)
     have HY:=hid (lit_of HIs.out x false H6.out (by rw[HI.out];unfold stripQ;rw[H6.out];rfl))
     have HN:=hid (addr_fits x.data.toList)
     have HA:=(show Hid (∀W,Calls Tryz.prog 39 #[.string x] W fun e w'=>e=.returned (.tuple #[.agg (netC ((addrQ (x:ByteArray).data.toList).getD zeroN)).toArray,.int .i64 (errQ (addrQ (x:ByteArray).data.toList))])∧Bel W w')from fun W=>Ci.raddr_run x W (by omega))
     cases ho:addrQ (x:ByteArray).data.toList with
     |none=>
      rw[ho]at HA HN HY
      have HX:=hid (show r=none from HR.out.trans HY.out)
      have HA:=(show Hid (∀W,Calls Tryz.prog 39 #[.string x] W fun e w'=>e=.returned (.tuple #[.agg (netC zeroN).toArray,.int .i64 70])∧Bel W w')from HA.out)
      obtain⟨a,ha⟩:∃a,a=zeroN:=⟨_,rfl⟩
      have HN:=(show Hid (Nt.Fits a)from by rw[ha];exact zeroN_fits)
      rw[←ha]at HA
      have HZ:=hid (net_len a HN.out.len)
      have HLn:=hid (show(netC a).length=(netC zeroN).length by rw[Ci.netC_len a HN.out.len,Ci.netC_len zeroN zeroN_fits.len])
      clear ho ha
      go_enter Tryz.func82,Tryz.ntmps82
      go_wp2_with (first|(go_at_call 39;refine(HA.out _).mono ?_;rintro e w2 ⟨rfl,hb2⟩;have HB2:=hid (HB0.out.trans hb2);clear hb2)|((with_reducible refine wpList_store_blk (by with_unfolding_all rfl) 86 (.tmp 7) (.tmp 45) (by with_unfolding_all rfl) w2.heap.size (netC a) (by with_unfolding_all rfl) (by with_unfolding_all rfl) HZ.out (netC_one a) (netC zeroN) _ (heap_alloc_new w2 _) HLn.out ?_);intro w3 hc3 ho3 hs3 hb3;have HB3:=hid (HB2.out.trans (hb3 w2 ((Bel.refl w2).alloc _) (Nat.le_refl _)));have c3:w3.cell? ⟨w2.heap.size,0,none⟩=some (.bool a.six):=(by simp[World.cell?,hc3,netC]);clear ho3 hs3 hb3))
      go_ret2
      exact⟨by rw[HX.out];rfl,HB3.out⟩
     |some a=>
      rw[ho]at HA HN HY
      have HN:=(show Hid (Nt.Fits a)from HN.out)
      have HA:=(show Hid (∀W,Calls Tryz.prog 39 #[.string x] W fun e w'=>e=.returned (.tuple #[.agg (netC a).toArray,.int .i64 0])∧Bel W w')from HA.out)
      have HF:=hid (show_form ho)
      have HZ:=hid (net_len a HN.out.len)
      have HLn:=hid (show(netC a).length=(netC zeroN).length by rw[Ci.netC_len a HN.out.len,Ci.netC_len zeroN zeroN_fits.len])
      have HV:=(show Hid (∀W,Calls Tryz.prog 40 #[.agg (netC a).toArray] W fun e w'=>e=.returned (.tuple #[.string ⟨(formQ a).toArray⟩,.int .i64 (Ci.errS a)])∧Bel W w')from fun W=>by rw[←HF.out];exact Ci.rshow_run a HN.out W)
      generalize Ci.errS a=es at HV
      clear ho
      cases h6:a.six with
      |false=>
       have HX:=hid (show r=some (formQ a) by rw[HR.out,HY.out];simp only[h6];rfl)
       go_enter Tryz.func82,Tryz.ntmps82
       go_wp2_with (first|(go_at_call 39;refine(HA.out _).mono ?_;rintro e w2 ⟨rfl,hb2⟩;have HB2:=hid (HB0.out.trans hb2);clear hb2)|((with_reducible refine wpList_store_blk (by with_unfolding_all rfl) 86 (.tmp 7) (.tmp 45) (by with_unfolding_all rfl) w2.heap.size (netC a) (by with_unfolding_all rfl) (by with_unfolding_all rfl) HZ.out (netC_one a) (netC zeroN) _ (heap_alloc_new w2 _) HLn.out ?_);intro w3 hc3 ho3 hs3 hb3;have HB3:=hid (HB2.out.trans (hb3 w2 ((Bel.refl w2).alloc _) (Nat.le_refl _)));have c3:w3.cell? ⟨w2.heap.size,0,none⟩=some (.bool a.six):=(by simp[World.cell?,hc3,netC]);clear ho3 hs3 hb3)|((with_reducible refine wpList_load_mid (by with_unfolding_all rfl) 86 (.tmp 7) (by with_unfolding_all rfl) w2.heap.size 0 (by with_unfolding_all rfl) (netC a) _ (range_net hc3) Tryz.underlying86 (by with_unfolding_all rfl) HZ.out ?_))|(go_at_call 40;refine(HV.out _).mono ?_;rintro e w4 ⟨rfl,hb4⟩;have HB4:=hid (HB3.out.trans hb4);clear hb4))
       go_ret2
       exact⟨by rw[HX.out];rfl,HB4.out⟩
      |true=>
       have HX:=hid (show r=none by rw[HR.out,HY.out];simp only[h6];rfl)
       go_enter Tryz.func82,Tryz.ntmps82
       go_wp2_with (first|(go_at_call 39;refine(HA.out _).mono ?_;rintro e w2 ⟨rfl,hb2⟩;have HB2:=hid (HB0.out.trans hb2);clear hb2)|((with_reducible refine wpList_store_blk (by with_unfolding_all rfl) 86 (.tmp 7) (.tmp 45) (by with_unfolding_all rfl) w2.heap.size (netC a) (by with_unfolding_all rfl) (by with_unfolding_all rfl) HZ.out (netC_one a) (netC zeroN) _ (heap_alloc_new w2 _) HLn.out ?_);intro w3 hc3 ho3 hs3 hb3;have HB3:=hid (HB2.out.trans (hb3 w2 ((Bel.refl w2).alloc _) (Nat.le_refl _)));have c3:w3.cell? ⟨w2.heap.size,0,none⟩=some (.bool a.six):=(by simp[World.cell?,hc3,netC]);clear ho3 hs3 hb3))
       go_ret2
       exact⟨by rw[HX.out];rfl,HB3.out⟩
   ·have c1:¬((s[s.size-1]'hlm).toNat:Int)=93:=by have:=byte_ne (n:=93) (by decide) e1;rwa[beq_eq_false_iff_ne]at this
    have HX:=hid (show r=none by rw[HR.out];exact HN0.out fun h=>e1 (h.2.2 hlm))
    clear e0 e1
    go_enter Tryz.func82,Tryz.ntmps82
    go_wp2_with fail
    go_ret2
    exact⟨by rw[HX.out];rfl,HB0.out⟩
  ·have c0:¬((s[0]'h0).toNat:Int)=91:=by have:=byte_ne (n:=91) (by decide) e0;rwa[beq_eq_false_iff_ne]at this
   have HX:=hid (show r=none by rw[HR.out];exact HN0.out fun h=>e0 (h.2.1 h0))
   clear e0
   go_enter Tryz.func82,Tryz.ntmps82
   go_wp2_with fail
   go_ret2
   exact⟨by rw[HX.out];rfl,HB0.out⟩
 ·have b2:decide ((s.size:Int)<2)=true:=decide_eq_true (by omega)
  have HX:=hid (show r=none by rw[HR.out];exact HN0.out fun h=>h2 h.1)
  go_enter Tryz.func82,Tryz.ntmps82
  go_wp2_with fail
  go_ret2
  exact⟨by rw[HX.out];rfl,HB0.out⟩
theorem rdomain_run(s:ByteArray)(w:World)(hs:s.size≤4194304):Calls Tryz.prog 33 #[.string s] w fun e w'=>e=.returned (.tuple #[.string ⟨(domainQ s.data.toList).1.toArray⟩,.bool (domainQ s.data.toList).2.1,.int .i64 (domainQ s.data.toList).2.2])∧Bel w w':=by
 have HL:=(show Hid (∀W,Calls Tryz.prog 82 #[.string s] W fun e w'=>e=.returned (.tuple (litV (rlitQ s.data.toList)))∧Bel W w')from fun W=>rliteral_run s W hs)
 have HN:=(show Hid (∀W,Calls Tryz.prog 41 #[.string s] W fun e w'=>e=.returned (.bool (namedQ s.data.toList))∧w'=W)from fun W=>rname_run s W (by omega))
 have HLo:=(show Hid (∀W,Calls Tryz.prog 38 #[.string s] W fun e w'=>e=.returned (.string ⟨(lowL s.data.toList).toArray⟩)∧Bel W w')from fun W=>rlower_run s W (by omega))
 have HD:=hid (rdom_lit s.data.toList)
 have HSz:=hid (Lib.size_eq s)
 generalize hD:domainQ s.data.toList=D at HD
 clear hD
 cases hl:rlitQ s.data.toList with
 |some f=>
  rw[hl]at HL HD
  have HL:=(show Hid (∀W,Calls Tryz.prog 82 #[.string s] W fun e w'=>e=.returned (.tuple #[.string ⟨f.toArray⟩,.bool true])∧Bel W w')from HL.out)
  have HX:=hid (show D=(f,true,0)from HD.out)
  go_enter Tryz.func33,Tryz.ntmps33
  go_wp2_with (first|(go_at_call 82;refine(HL.out _).mono ?_;rintro e w1 ⟨rfl,hb1⟩;have HB1:=hid hb1;clear hb1))
  go_ret3
  exact⟨by rw[HX.out];rfl,HB1.out⟩
 |none=>
  rw[hl]at HL HD
  have HL:=(show Hid (∀W,Calls Tryz.prog 82 #[.string s] W fun e w'=>e=.returned (.tuple #[.string ⟨#[]⟩,.bool false])∧Bel W w')from HL.out)
  have HD2:=hid (show D=if !namedQ s.data.toList then([],false,90)else if 255<s.data.toList.length then([],false,91)else(lowL s.data.toList,false,0)from HD.out)
  cases hn:namedQ s.data.toList with
  |false=>
   rw[hn]at HN HD2
   have HX:=hid (show D=([],false,90)from HD2.out)
   go_enter Tryz.func33,Tryz.ntmps33
   go_wp2_with (first|(go_at_call 82;refine(HL.out _).mono ?_;rintro e w1 ⟨rfl,hb1⟩;have HB1:=hid hb1;clear hb1)|(go_at_call 41;refine(HN.out _).mono ?_;rintro e w2 ⟨rfl,h2⟩;have h2:=h2.symm;subst h2))
   go_ret3
   exact⟨by rw[HX.out];rfl,HB1.out⟩
  |true=>
   rw[hn]at HN HD2
   by_cases h255:255<s.size
   ·have b1:decide ((255:Int)<(s.size:Int))=true:=decide_eq_true (by omega)
    have HX:=hid (show D=([],false,91) by rw[HD2.out,if_neg (by decide),if_pos (by rw[←HSz.out];exact h255)])
    go_enter Tryz.func33,Tryz.ntmps33
    go_wp2_with (first|(go_at_call 82;refine(HL.out _).mono ?_;rintro e w1 ⟨rfl,hb1⟩;have HB1:=hid hb1;clear hb1)|(go_at_call 41;refine(HN.out _).mono ?_;rintro e w2 ⟨rfl,h2⟩;have h2:=h2.symm;subst h2))
    go_ret3
    exact⟨by rw[HX.out];rfl,HB1.out⟩
   ·have b1:decide ((255:Int)<(s.size:Int))=false:=decide_eq_false (by omega)
    have HX:=hid (show D=(lowL s.data.toList,false,0) by rw[HD2.out,if_neg (by decide),if_neg (by rw[←HSz.out];exact h255)])
    go_enter Tryz.func33,Tryz.ntmps33
    go_wp2_with (first|(go_at_call 82;refine(HL.out _).mono ?_;rintro e w1 ⟨rfl,hb1⟩;have HB1:=hid hb1;clear hb1)|(go_at_call 41;refine(HN.out _).mono ?_;rintro e w2 ⟨rfl,h2⟩;have h2:=h2.symm;subst h2)|(go_at_call 38;refine(HLo.out _).mono ?_;rintro e w3 ⟨rfl,hb3⟩;have HB3:=hid (HB1.out.trans hb3);clear hb3))
    go_ret3
    exact⟨by rw[HX.out];rfl,HB3.out⟩
end Go.Proofs.YtmlmkmhkmifnkaaGreatDoor.Ma