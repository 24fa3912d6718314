import Derived.Test.YtmlmkmhkmifnkaaGreatDoorM22
import Derived.Test.YtmlmkmhkmifnkaaGreatDoorM19
import Derived.Test.YtmlmkmhkmifnkaaGreatDoorM09
set_option maxHeartbeats 16000000
set_option maxRecDepth 1000000
namespace Go.Proofs.YtmlmkmhkmifnkaaGreatDoor.Ci
open Go.RowKit
theorem rshow_run(n:Nt)(hn:n.Fits)(w:World):
 Calls Tryz.prog 40 #[netV n] w fun e w'=>e=.returned (.tuple #[.string ⟨((showQ n).getD []).toArray⟩,.int .i64 (errS n)])∧Bel w w':=by
 have h0:=hid (And.intro ((Bel.refl w).alloc (.cells (netC n).toArray 86)) (heap_alloc_new w (.cells (netC n).toArray 86)))
 have HR:=(show Hid (∀W,Calls Tryz.prog 95 #[.agg (netC n).toArray] W fun e w'=>e=.returned (.bool (rightQ n))∧Bel W w')from fun W=>rright_run n hn W)
 have hZ:=hid (show(Tryz.prog.info? 86).map (·.size)=some (netC n).length by rw[netC_len _ hn.len];exact net_info)
 have hZa:=hid (show(Tryz.prog.info? 84).map (·.size)=some (n.addr.map u8V).length by rw[List.length_map,hn.len];kernel_rfl)
 have HN:=hid hn
 unfold netV
 clear hn
 go_enter Tryz.func40,Tryz.ntmps40
 go_wp2_with (first
  | (refine wpList_load_mid rfl 86 (.tmp 1) rfl w.heap.size 0 rfl (netC n) _ ?_ Tryz.underlying86 rfl hZ.out ?_;exact range_of h0.out.2 fun j v hv=>by simpa using hv))
 generalize w.alloc (.cells (netC n).toArray 86)=w1 at h0⊢
 refine(HR.out _).mono ?_
 rintro e w2 ⟨rfl,hb2⟩
 have h2:=hid (And.intro (h0.out.1.trans hb2) (hb2.heap h0.out.2))
 clear h0 hb2 HR
 cases hr:rightQ n with
 |false=>
  have HQ:=hid (show showQ n=none∧errS n=70 from⟨by unfold showQ;rw[hr];rfl,by unfold errS;rw[hr];rfl⟩)
  clear hr
  go_wp2_with fail
  go_ret2
  exact⟨by rw[HQ.out.1,HQ.out.2];rfl,h2.out.1⟩
 |true=>
  have HQE:=hid (show showQ n=some (formQ n)∧errS n=0 from⟨by unfold showQ;rw[hr];rfl,by unfold errS;rw[hr];rfl⟩)
  have HQ:=hid (show Ending.returned (.tuple #[.string ⟨((showQ n).getD []).toArray⟩,.int .i64 (errS n)])=Ending.returned (.tuple #[.string ⟨(formQ n).toArray⟩,.int .i64 0]) by rw[HQE.out.1,HQE.out.2];rfl)
  have hb:=rightQ_bits hr
  have hle:=hid (show n.bits≤(sizeQ n.six:Nat) by unfold rightQ at hr;simp only[Bool.and_eq_true,decide_eq_true_eq]at hr;exact hr.1.2)
  have cz:w2.cell? ⟨w.heap.size,0,none⟩=some (.bool n.six):=by simp[World.cell?,h2.out.2,netC]
  clear hr HQE
  cases h6:n.six with
  |true=>
   have HL:=(show Hid (∀W,Calls Tryz.prog 96 #[.agg (n.addr.map u8V).toArray] W fun e w'=>e=.returned (.string (longT n.addr))∧Bel W w')from fun W=>form6_run n.addr HN.out.len HN.out.by_ W)
   have szT:=longT_size n.addr HN.out.len HN.out.by_
   go_wp2_with (first
    | (refine wpList_load_mid rfl 84 (.tmp 13) rfl w.heap.size 2 rfl (n.addr.map u8V) _ ?_ Tryz.underlying84 rfl hZa.out ?_;exact range_of h2.out.2 fun j v hv=>by simpa[netC,Nat.add_comm]using hv))
   refine(HL.out _).mono ?_
   rintro e w3 ⟨rfl,hb3⟩
   have h3:=hid (And.intro (h2.out.1.trans hb3) (hb3.heap h2.out.2))
   clear h2 hb3 HL cz
   go_upto_region 13 with(fail)
   have c0:∀p:Aft w3,p.wd.cell? ⟨w.heap.size,0,none⟩=some (.bool true):=fun p=>by rw[←h6];exact p.cell h3.out.2 (netC_six n)
   have c1:∀p:Aft w3,p.wd.cell? ⟨w.heap.size,1,none⟩=some (.int .i64 n.bits):=fun p=>p.cell h3.out.2 (netC_bits n)
   have HT:=hid (show(longT n.addr).data.toList=addrT n by unfold addrT;rw[h6];rfl)
   have HSZ:=(show Hid (∀W,Calls Tryz.prog 98 #[.bool true] W fun e w'=>e=.returned (.int .i64 (sizeQ true:Nat))∧Bel W w')from fun W=>rsize_run true W)
   have H6:=hid h6
   clear h6
   by_cases hlt:n.bits<(sizeQ true:Nat)
   ·have d1:(n.bits==(sizeQ true:Nat))=false:=by rw[beq_eq_false_iff_ne];omega
    have HI:=(show Hid (∀W,Calls Tryz.prog 97 #[.int .i64 n.bits] W fun e w'=>e=.returned (.string (decT n.bits.toNat))∧Bel W w')from fun W=>by
     have:=digits_run n.bits.toNat (by omega) W
     rw[show((n.bits.toNat:Nat):Int)=n.bits by omega]at this
     exact this)
    have sd:=decT_size n.bits.toNat (by omega)
    have ad1:∀W:World,(Op.stringOp .add (longT n.addr) ⟨#[47]⟩).run Tryz.prog W=.ok (.string ((longT n.addr)++⟨#[47]⟩)) W:=fun W=>run_string_add_sum W _ _ (by show _+1≤_;omega)
    have ad2:∀W:World,(Op.stringOp .add ((longT n.addr)++⟨#[47]⟩) (decT n.bits.toNat)).run Tryz.prog W=.ok (.string ((longT n.addr)++⟨#[47]⟩++decT n.bits.toNat)) W:=fun W=>run_string_add_sum W _ _ (by rw[ByteArray.size_append];show _+1+_≤_;omega)
    have HF:=hid (show formQ n=addrT n++47::Lib.decDigits n.bits.toNat by unfold formQ;rw[H6.out,if_pos hlt])
    clear hlt sd szT hb
    refine wp_region_aft (by kernel_rfl) (by kernel_rfl) ?_
    repeat (go_big_quiet_step (first
     | (go_at_call 98;exact Calls.aft (HSZ.out _))))
    refine wpQuiet_nil ?_
    rintro _ ⟨p,rfl⟩
    go_wp2_with fail
    refine(HI.out _).mono ?_
    rintro e w9 ⟨rfl,hb9⟩
    go_wp2_with fail
    go_ret2
    refine⟨?_,h3.out.1.trans (p.bel.trans hb9)⟩
    rw[HQ.out,HF.out,←HT.out]
    have:(longT n.addr)++⟨#[47]⟩++decT n.bits.toNat=⟨((longT n.addr).data.toList++47::Lib.decDigits n.bits.toNat).toArray⟩:=ext_bytes (by rw[app_data,app_data];show _++[47]++Lib.decDigits _=_++47::Lib.decDigits _;simp)
    rw[←this]
    rfl
   ·have d1:(n.bits==(sizeQ true:Nat))=true:=by rw[beq_iff_eq];have:=hle.out;rw[H6.out]at this;omega
    have HF:=hid (show formQ n=addrT n by unfold formQ;rw[H6.out,if_neg hlt])
    clear hlt szT hb
    refine wp_region_aft (by kernel_rfl) (by kernel_rfl) ?_
    repeat (go_big_quiet_step (first
     | (go_at_call 98;exact Calls.aft (HSZ.out _))))
    refine wpQuiet_nil ?_
    rintro _ ⟨p,rfl⟩
    go_wp2_with fail
    go_ret2
    refine⟨?_,h3.out.1.trans p.bel⟩
    rw[HQ.out,HF.out,←HT.out]
    rfl
  |false=>
   go_wp2_with fail
   clear cz
   go_loopg [5,6] 4 (fun gg v4 v18 wr=>∃k:Nat,v4=.string (dotT (n.addr.take k))∧v18=.int .i64 k∧k+gg=4∧Hid (Bel w wr∧wr.heap[w.heap.size]?=some (.cells (netC n).toArray 86 (0,0))))
   case atStart=>exact⟨0,rfl,rfl,by omega,h2⟩
   case round=>
    clear h2
    obtain⟨k,rfl,rfl,hk,h2⟩:=hrel
    have Hk:=hid hk
    have hkn:k≤4:=by omega
    clear hk
    have hln:=HN.out.len
    by_cases hlt:k<4
    ·have hk16:k<n.addr.length:=by omega
     have c0:wr.cell? ⟨w.heap.size,2+k,none⟩=some (.int .u8 (n.addr[k]:Int)):=by
      simp[World.cell?,h2.out.2,netC,Nat.add_comm 2 k,hk16,u8V]
     have hx:=HN.out.by_ _ (List.getElem_mem hk16)
     have htk:n.addr.take (k+1)=n.addr.take k++[n.addr[k]]:=List.take_succ_eq_append_getElem hk16
     have sz:=dotT_size (n.addr.take k) (fun x hx=>HN.out.by_ x (List.mem_of_mem_take hx))
     rw[List.length_take,Nat.min_eq_left (by omega:k≤n.addr.length)]at sz
     generalize n.addr[k]=x at c0 hx htk
     have HI:=(show Hid (∀W,Calls Tryz.prog 97 #[.int .i64 (x:Int)] W fun e w'=>e=.returned (.string (decT x))∧Bel W w')from fun W=>digits_run x (by omega) W)
     have sd:=decT_size x (by omega)
     rcases Nat.eq_zero_or_pos k with rfl|hpos
     ·have hn1:dotT (n.addr.take (0+1))=decT x:=by rw[htk,List.take_zero];exact dotT_one x
      have hn0:dotT (n.addr.take 0)=⟨#[]⟩:=by rw[List.take_zero];rfl
      have ad1:∀W:World,(Op.stringOp .add ⟨#[]⟩ (decT x)).run Tryz.prog W=.ok (.string (⟨#[]⟩++decT x)) W:=fun W=>run_string_add_sum W _ _ (by show 0+_≤_;omega)
      have he:(⟨#[]⟩:ByteArray)++decT x=decT x:=ext_bytes (by rw[app_data];rfl)
      have HE:=hid (he.trans hn1.symm)
      rw[hn0]
      clear hn1 hn0 htk sd sz he hk16 hln
      go_wp2_with fail
      refine(HI.out _).mono ?_
      rintro e w3 ⟨rfl,hb3⟩
      have h3:=hid (And.intro (h2.out.1.trans hb3) (hb3.heap h2.out.2))
      clear h2 hb3 HI
      go_wp2_with fail
      go_roundg (gk-1)
      case measure=>have:=Hk.out;omega
      case rel=>exact⟨0+1,by rw[HE.out],by go_num,by have:=Hk.out;omega,h3⟩
     ·have hne:n.addr.take k≠[]:=by
       intro e
       have:=congrArg List.length e
       rw[List.length_take]at this
       simp only[List.length_nil]at this
       omega
      have hn1:dotT (n.addr.take k)++dot++decT x=dotT (n.addr.take (k+1)):=by rw[htk];exact dotT_snoc _ hne x
      have ad0:∀W:World,(Op.stringOp .add (dotT (n.addr.take k)) ⟨#[46]⟩).run Tryz.prog W=.ok (.string (dotT (n.addr.take k)++⟨#[46]⟩)) W:=fun W=>run_string_add_sum W _ _ (by show _+1≤_;omega)
      have ad1:∀W:World,(Op.stringOp .add (dotT (n.addr.take k)++⟨#[46]⟩) (decT x)).run Tryz.prog W=.ok (.string (dotT (n.addr.take k)++⟨#[46]⟩++decT x)) W:=fun W=>run_string_add_sum W _ _ (by rw[ByteArray.size_append];show _+1+_≤_;omega)
      have HE:=hid hn1
      clear hn1 htk sd sz hk16 hln hne
      go_wp2_with fail
      refine(HI.out _).mono ?_
      rintro e w3 ⟨rfl,hb3⟩
      have h3:=hid (And.intro (h2.out.1.trans hb3) (hb3.heap h2.out.2))
      clear h2 hb3 HI
      go_wp2_with fail
      go_roundg (gk-1)
      case measure=>have:=Hk.out;omega
      case rel=>exact⟨k+1,by rw[←HE.out];rfl,by go_num,by have:=Hk.out;omega,h3⟩
    ·obtain rfl:k=4:=by omega
     have szT:=dotT_size (n.addr.take 4) (fun x hx=>HN.out.by_ x (List.mem_of_mem_take hx))
     rw[List.length_take,Nat.min_eq_left (by omega:4≤n.addr.length)]at szT
     clear hln
     go_upto_region 13 with(fail)
     have c0:∀p:Aft wr,p.wd.cell? ⟨w.heap.size,0,none⟩=some (.bool false):=fun p=>by rw[←h6];exact p.cell h2.out.2 (netC_six n)
     have c1:∀p:Aft wr,p.wd.cell? ⟨w.heap.size,1,none⟩=some (.int .i64 n.bits):=fun p=>p.cell h2.out.2 (netC_bits n)
     have HT:=hid (show(dotT (n.addr.take 4)).data.toList=addrT n by unfold addrT;rw[h6];rfl)
     have HSZ:=(show Hid (∀W,Calls Tryz.prog 98 #[.bool false] W fun e w'=>e=.returned (.int .i64 (sizeQ false:Nat))∧Bel W w')from fun W=>rsize_run false W)
     have H6:=hid h6
     clear h6
     by_cases hlt:n.bits<(sizeQ false:Nat)
     ·have d1:(n.bits==(sizeQ false:Nat))=false:=by rw[beq_eq_false_iff_ne];omega
      have HI:=(show Hid (∀W,Calls Tryz.prog 97 #[.int .i64 n.bits] W fun e w'=>e=.returned (.string (decT n.bits.toNat))∧Bel W w')from fun W=>by
       have:=digits_run n.bits.toNat (by omega) W
       rw[show((n.bits.toNat:Nat):Int)=n.bits by omega]at this
       exact this)
      have sd:=decT_size n.bits.toNat (by omega)
      have ad1:∀W:World,(Op.stringOp .add (dotT (n.addr.take 4)) ⟨#[47]⟩).run Tryz.prog W=.ok (.string ((dotT (n.addr.take 4))++⟨#[47]⟩)) W:=fun W=>run_string_add_sum W _ _ (by show _+1≤_;omega)
      have ad2:∀W:World,(Op.stringOp .add ((dotT (n.addr.take 4))++⟨#[47]⟩) (decT n.bits.toNat)).run Tryz.prog W=.ok (.string ((dotT (n.addr.take 4))++⟨#[47]⟩++decT n.bits.toNat)) W:=fun W=>run_string_add_sum W _ _ (by rw[ByteArray.size_append];show _+1+_≤_;omega)
      have HF:=hid (show formQ n=addrT n++47::Lib.decDigits n.bits.toNat by unfold formQ;rw[H6.out,if_pos hlt])
      clear hlt sd szT hb
      refine wp_region_aft (by kernel_rfl) (by kernel_rfl) ?_
      repeat (go_big_quiet_step (first
       | (go_at_call 98;exact Calls.aft (HSZ.out _))))
      refine wpQuiet_nil ?_
      rintro _ ⟨p,rfl⟩
      go_wp2_with fail
      refine(HI.out _).mono ?_
      rintro e w9 ⟨rfl,hb9⟩
      go_wp2_with fail
      go_ret2
      refine⟨?_,h2.out.1.trans (p.bel.trans hb9)⟩
      rw[HQ.out,HF.out,←HT.out]
      have:(dotT (n.addr.take 4))++⟨#[47]⟩++decT n.bits.toNat=⟨((dotT (n.addr.take 4)).data.toList++47::Lib.decDigits n.bits.toNat).toArray⟩:=ext_bytes (by rw[app_data,app_data];show _++[47]++Lib.decDigits _=_++47::Lib.decDigits _;simp)
      rw[←this]
      rfl
     ·have d1:(n.bits==(sizeQ false:Nat))=true:=by rw[beq_iff_eq];have:=hle.out;rw[H6.out]at this;omega
      have HF:=hid (show formQ n=addrT n by unfold formQ;rw[H6.out,if_neg hlt])
      clear hlt szT hb
      refine wp_region_aft (by kernel_rfl) (by kernel_rfl) ?_
      repeat (go_big_quiet_step (first
       | (go_at_call 98;exact Calls.aft (HSZ.out _))))
      refine wpQuiet_nil ?_
      rintro _ ⟨p,rfl⟩
      go_wp2_with fail
      go_ret2
      refine⟨?_,h2.out.1.trans p.bel⟩
      rw[HQ.out,HF.out,←HT.out]
      rfl
end Go.Proofs.YtmlmkmhkmifnkaaGreatDoor.Ci
namespace Go.Proofs.YtmlmkmhkmifnkaaGreatDoor.Ma
open Go.RowKit
open Ci (Bel Lay ext_bytes app_data Nt netC netV zeroN zeroN_fits addrQ errQ netC_one net_len)
theorem rform_run(n:Bool)(l d:ByteArray)(t:Bool)(w:World)(hl:l.size≤4194304)(hd:d.size≤4194304):
 Calls Tryz.prog 43 #[.agg #[.bool n,.string l,.string d,.bool t]] w fun e w'=>e=.returned (.string ⟨(shownP (pOf n l d t)).toArray⟩)∧Bel w w':=by
 have H0:=hid (And.intro ((Bel.refl w).alloc (.cells #[.bool n,.string l,.string d,.bool t] 26)) (heap_alloc_new w (.cells #[.bool n,.string l,.string d,.bool t] 26)))
 have hlen:=form_len l.data.toList
 have hs':=Lib.size_eq l
 have hF:(⟨(formP l.data.toList).toArray⟩:ByteArray).size=(formP l.data.toList).length:=by rw[Lib.size_eq]
 have HF:=(show Hid (∀W,Calls Tryz.prog 42 #[.string l] W fun e w'=>e=.returned (.string ⟨(formP l.data.toList).toArray⟩)∧Bel W w')from fun W=>rlocal_run l W hl)
 have HS:=hid (show shownP (pOf n l d t)=if n then[]else if !t&&d.data.toList.isEmpty then formP l.data.toList else formP l.data.toList++[64]++domP ⟨n,l.data.toList,d.data.toList,t⟩from rfl)
 have HDm:=hid (show domP ⟨n,l.data.toList,d.data.toList,t⟩=if t then[91]++(if((addrQ d.data.toList).getD zeroN).six then IPv6 else[])++d.data.toList++[93]else d.data.toList from by
  unfold domP sixP
  cases h:addrQ d.data.toList with
  |none=>rfl
  |some k=>rfl)
 generalize shownP (pOf n l d t)=r at HS
 generalize domP ⟨n,l.data.toList,d.data.toList,t⟩=dm at HS HDm
 have HA:=(show Hid (∀W,Calls Tryz.prog 39 #[.string d] W fun e w'=>e=.returned (.tuple #[.agg (netC ((addrQ d.data.toList).getD zeroN)).toArray,.int .i64 (errQ (addrQ d.data.toList))])∧Bel W w')from fun W=>Ci.raddr_run d W (by omega))
 have HN:=hid (addr_fits d.data.toList)
 generalize (addrQ d.data.toList).getD zeroN=a at HA HN HDm
 generalize errQ (addrQ d.data.toList)=ea at HA
 have hFl:(⟨(formP l.data.toList).toArray⟩:ByteArray).size≤20000000:=by rw[hF];omega
 have HX:=hid (show(⟨(formP l.data.toList).toArray⟩:ByteArray).data.toList=formP l.data.toList from rfl)
 generalize (⟨(formP l.data.toList).toArray⟩:ByteArray)=fl at HF hFl HX
 rw[←HX.out]at HS
 have HP0:=hid H0.out.2
 clear hlen hs' hF HX hl
 cases n with
 |true=>
  have HX:=hid (show r=[]from HS.out)
  go_enter Tryz.func43,Tryz.ntmps43
  go_wp2_with fail
  go_ret
  exact⟨by rw[HX.out];rfl,H0.out.1⟩
 |false=>
  cases t with
  |true=>
   have HX:=hid (show r=fl.data.toList++[64]++([91]++(if a.six then IPv6 else[])++d.data.toList++[93]) by
    rw[HS.out,HDm.out];rfl)
   clear HS HDm
   have HZ:=hid (net_len a HN.out.len)
   have HL:=hid (show(netC a).length=(netC zeroN).length by rw[Ci.netC_len a HN.out.len,Ci.netC_len zeroN zeroN_fits.len])
   cases hemp:d.toList.isEmpty<;>cases h6:a.six
   ·rw[h6]at HX
    have a1:∀W:World,(Op.stringOp .add fl ⟨#[64,91]⟩).run Tryz.prog W=.ok (.string (fl++⟨#[64,91]⟩)) W:=fun W=>run_string_add_sum W _ _ (by show fl.size+2≤_;omega)
    have a2:∀W:World,(Op.stringOp .add (fl++⟨#[64,91]⟩) d).run Tryz.prog W=.ok (.string ((fl++⟨#[64,91]⟩)++d)) W:=fun W=>run_string_add_sum W _ _ (by rw[ByteArray.size_append];show fl.size+2+d.size≤_;omega)
    have a3:∀W:World,(Op.stringOp .add ((fl++⟨#[64,91]⟩)++d) ⟨#[93]⟩).run Tryz.prog W=.ok (.string (((fl++⟨#[64,91]⟩)++d)++⟨#[93]⟩)) W:=fun W=>run_string_add_sum W _ _ (by rw[ByteArray.size_append,ByteArray.size_append];show fl.size+2+d.size+1≤_;omega)
    go_enter Tryz.func43,Tryz.ntmps43
    go_wp2_with (first|(go_at_call 42;refine(HF.out _).mono ?_;rintro e w1 ⟨rfl,hb1⟩;have hp1:=hb1.heap HP0.out;have HB1:=hid (H0.out.1.trans hb1);have q2:w1.cell? ⟨w.heap.size,2,none⟩=some (.string d):=(by simp[World.cell?,hp1]);have q3:w1.cell? ⟨w.heap.size,3,none⟩=some (.bool true):=(by simp[World.cell?,hp1]))|(go_at_call 39;refine(HA.out _).mono ?_;rintro e w2 ⟨rfl,hb2⟩;have hp2:=hb2.heap hp1)|(refine wpList_store_blk rfl 86 (.tmp 4) (.tmp 34) rfl w2.heap.size (netC a) rfl rfl HZ.out (netC_one a) (netC zeroN) _ (heap_alloc_new w2 _) HL.out ?_;intro w3 hc3 ho3 hs3 hb3;have HB3:=hid (hb3 w2 ((Bel.refl w2).alloc _) (Nat.le_refl _));have hp3:=HB3.out.heap hp2;have c3:w3.cell? ⟨w2.heap.size,0,none⟩=some (.bool false):=(by simp[World.cell?,hc3,netC,h6]);have r2:w3.cell? ⟨w.heap.size,2,none⟩=some (.string d):=(by simp[World.cell?,hp3]);clear ho3 hs3 hb3))
    go_ret
    refine⟨?_,HB1.out.trans (hb2.trans HB3.out)⟩
    refine congrArg Ending.returned (congrArg Value.string (ext_bytes ?_))
    rw[app_data,app_data,app_data,HX.out]
    simp
   ·rw[h6]at HX
    have a1:∀W:World,(Op.stringOp .add fl ⟨#[64,91,73,80,118,54,58]⟩).run Tryz.prog W=.ok (.string (fl++⟨#[64,91,73,80,118,54,58]⟩)) W:=fun W=>run_string_add_sum W _ _ (by show fl.size+7≤_;omega)
    have a2:∀W:World,(Op.stringOp .add (fl++⟨#[64,91,73,80,118,54,58]⟩) d).run Tryz.prog W=.ok (.string ((fl++⟨#[64,91,73,80,118,54,58]⟩)++d)) W:=fun W=>run_string_add_sum W _ _ (by rw[ByteArray.size_append];show fl.size+7+d.size≤_;omega)
    have a3:∀W:World,(Op.stringOp .add ((fl++⟨#[64,91,73,80,118,54,58]⟩)++d) ⟨#[93]⟩).run Tryz.prog W=.ok (.string (((fl++⟨#[64,91,73,80,118,54,58]⟩)++d)++⟨#[93]⟩)) W:=fun W=>run_string_add_sum W _ _ (by rw[ByteArray.size_append,ByteArray.size_append];show fl.size+7+d.size+1≤_;omega)
    go_enter Tryz.func43,Tryz.ntmps43
    go_wp2_with (first|(go_at_call 42;refine(HF.out _).mono ?_;rintro e w1 ⟨rfl,hb1⟩;have hp1:=hb1.heap HP0.out;have HB1:=hid (H0.out.1.trans hb1);have q2:w1.cell? ⟨w.heap.size,2,none⟩=some (.string d):=(by simp[World.cell?,hp1]);have q3:w1.cell? ⟨w.heap.size,3,none⟩=some (.bool true):=(by simp[World.cell?,hp1]))|(go_at_call 39;refine(HA.out _).mono ?_;rintro e w2 ⟨rfl,hb2⟩;have hp2:=hb2.heap hp1)|(refine wpList_store_blk rfl 86 (.tmp 4) (.tmp 34) rfl w2.heap.size (netC a) rfl rfl HZ.out (netC_one a) (netC zeroN) _ (heap_alloc_new w2 _) HL.out ?_;intro w3 hc3 ho3 hs3 hb3;have HB3:=hid (hb3 w2 ((Bel.refl w2).alloc _) (Nat.le_refl _));have hp3:=HB3.out.heap hp2;have c3:w3.cell? ⟨w2.heap.size,0,none⟩=some (.bool true):=(by simp[World.cell?,hc3,netC,h6]);have r2:w3.cell? ⟨w.heap.size,2,none⟩=some (.string d):=(by simp[World.cell?,hp3]);clear ho3 hs3 hb3))
    go_ret
    refine⟨?_,HB1.out.trans (hb2.trans HB3.out)⟩
    refine congrArg Ending.returned (congrArg Value.string (ext_bytes ?_))
    rw[app_data,app_data,app_data,HX.out]
    simp[IPv6]
   ·rw[h6]at HX
    have a1:∀W:World,(Op.stringOp .add fl ⟨#[64,91]⟩).run Tryz.prog W=.ok (.string (fl++⟨#[64,91]⟩)) W:=fun W=>run_string_add_sum W _ _ (by show fl.size+2≤_;omega)
    have a2:∀W:World,(Op.stringOp .add (fl++⟨#[64,91]⟩) d).run Tryz.prog W=.ok (.string ((fl++⟨#[64,91]⟩)++d)) W:=fun W=>run_string_add_sum W _ _ (by rw[ByteArray.size_append];show fl.size+2+d.size≤_;omega)
    have a3:∀W:World,(Op.stringOp .add ((fl++⟨#[64,91]⟩)++d) ⟨#[93]⟩).run Tryz.prog W=.ok (.string (((fl++⟨#[64,91]⟩)++d)++⟨#[93]⟩)) W:=fun W=>run_string_add_sum W _ _ (by rw[ByteArray.size_append,ByteArray.size_append];show fl.size+2+d.size+1≤_;omega)
    go_enter Tryz.func43,Tryz.ntmps43
    go_wp2_with (first|(go_at_call 42;refine(HF.out _).mono ?_;rintro e w1 ⟨rfl,hb1⟩;have hp1:=hb1.heap HP0.out;have HB1:=hid (H0.out.1.trans hb1);have q2:w1.cell? ⟨w.heap.size,2,none⟩=some (.string d):=(by simp[World.cell?,hp1]);have q3:w1.cell? ⟨w.heap.size,3,none⟩=some (.bool true):=(by simp[World.cell?,hp1]))|(go_at_call 39;refine(HA.out _).mono ?_;rintro e w2 ⟨rfl,hb2⟩;have hp2:=hb2.heap hp1)|(refine wpList_store_blk rfl 86 (.tmp 4) (.tmp 34) rfl w2.heap.size (netC a) rfl rfl HZ.out (netC_one a) (netC zeroN) _ (heap_alloc_new w2 _) HL.out ?_;intro w3 hc3 ho3 hs3 hb3;have HB3:=hid (hb3 w2 ((Bel.refl w2).alloc _) (Nat.le_refl _));have hp3:=HB3.out.heap hp2;have c3:w3.cell? ⟨w2.heap.size,0,none⟩=some (.bool false):=(by simp[World.cell?,hc3,netC,h6]);have r2:w3.cell? ⟨w.heap.size,2,none⟩=some (.string d):=(by simp[World.cell?,hp3]);clear ho3 hs3 hb3))
    go_ret
    refine⟨?_,HB1.out.trans (hb2.trans HB3.out)⟩
    refine congrArg Ending.returned (congrArg Value.string (ext_bytes ?_))
    rw[app_data,app_data,app_data,HX.out]
    simp
   ·rw[h6]at HX
    have a1:∀W:World,(Op.stringOp .add fl ⟨#[64,91,73,80,118,54,58]⟩).run Tryz.prog W=.ok (.string (fl++⟨#[64,91,73,80,118,54,58]⟩)) W:=fun W=>run_string_add_sum W _ _ (by show fl.size+7≤_;omega)
    have a2:∀W:World,(Op.stringOp .add (fl++⟨#[64,91,73,80,118,54,58]⟩) d).run Tryz.prog W=.ok (.string ((fl++⟨#[64,91,73,80,118,54,58]⟩)++d)) W:=fun W=>run_string_add_sum W _ _ (by rw[ByteArray.size_append];show fl.size+7+d.size≤_;omega)
    have a3:∀W:World,(Op.stringOp .add ((fl++⟨#[64,91,73,80,118,54,58]⟩)++d) ⟨#[93]⟩).run Tryz.prog W=.ok (.string (((fl++⟨#[64,91,73,80,118,54,58]⟩)++d)++⟨#[93]⟩)) W:=fun W=>run_string_add_sum W _ _ (by rw[ByteArray.size_append,ByteArray.size_append];show fl.size+7+d.size+1≤_;omega)
    go_enter Tryz.func43,Tryz.ntmps43
    go_wp2_with (first|(go_at_call 42;refine(HF.out _).mono ?_;rintro e w1 ⟨rfl,hb1⟩;have hp1:=hb1.heap HP0.out;have HB1:=hid (H0.out.1.trans hb1);have q2:w1.cell? ⟨w.heap.size,2,none⟩=some (.string d):=(by simp[World.cell?,hp1]);have q3:w1.cell? ⟨w.heap.size,3,none⟩=some (.bool true):=(by simp[World.cell?,hp1]))|(go_at_call 39;refine(HA.out _).mono ?_;rintro e w2 ⟨rfl,hb2⟩;have hp2:=hb2.heap hp1)|(refine wpList_store_blk rfl 86 (.tmp 4) (.tmp 34) rfl w2.heap.size (netC a) rfl rfl HZ.out (netC_one a) (netC zeroN) _ (heap_alloc_new w2 _) HL.out ?_;intro w3 hc3 ho3 hs3 hb3;have HB3:=hid (hb3 w2 ((Bel.refl w2).alloc _) (Nat.le_refl _));have hp3:=HB3.out.heap hp2;have c3:w3.cell? ⟨w2.heap.size,0,none⟩=some (.bool true):=(by simp[World.cell?,hc3,netC,h6]);have r2:w3.cell? ⟨w.heap.size,2,none⟩=some (.string d):=(by simp[World.cell?,hp3]);clear ho3 hs3 hb3))
    go_ret
    refine⟨?_,HB1.out.trans (hb2.trans HB3.out)⟩
    refine congrArg Ending.returned (congrArg Value.string (ext_bytes ?_))
    rw[app_data,app_data,app_data,HX.out]
    simp[IPv6]
  |false=>
   cases hemp:d.toList.isEmpty with
   |true=>
    have HX:=hid (show r=fl.data.toList by
     rw[emp_iff]at hemp
     rw[HS.out,hemp];rfl)
    clear HS HDm
    go_enter Tryz.func43,Tryz.ntmps43
    go_wp2_with (first|(go_at_call 42;refine(HF.out _).mono ?_;rintro e w1 ⟨rfl,hb1⟩;have hp1:=hb1.heap HP0.out;have HB1:=hid (H0.out.1.trans hb1);have q2:w1.cell? ⟨w.heap.size,2,none⟩=some (.string d):=(by simp[World.cell?,hp1]);have q3:w1.cell? ⟨w.heap.size,3,none⟩=some (.bool false):=(by simp[World.cell?,hp1])))
    go_ret
    exact⟨by rw[HX.out];rfl,HB1.out⟩
   |false=>
    have HX:=hid (show r=fl.data.toList++[64]++d.data.toList by
     rw[emp_iff]at hemp
     rw[HS.out,HDm.out,hemp];rfl)
    have a1:∀W:World,(Op.stringOp .add fl ⟨#[64]⟩).run Tryz.prog W=.ok (.string (fl++⟨#[64]⟩)) W:=fun W=>run_string_add_sum W _ _ (by show fl.size+1≤_;omega)
    have a2:∀W:World,(Op.stringOp .add (fl++⟨#[64]⟩) d).run Tryz.prog W=.ok (.string ((fl++⟨#[64]⟩)++d)) W:=fun W=>run_string_add_sum W _ _ (by rw[ByteArray.size_append];show fl.size+1+d.size≤_;omega)
    clear HS HDm
    go_enter Tryz.func43,Tryz.ntmps43
    go_wp2_with (first|(go_at_call 42;refine(HF.out _).mono ?_;rintro e w1 ⟨rfl,hb1⟩;have hp1:=hb1.heap HP0.out;have HB1:=hid (H0.out.1.trans hb1);have q2:w1.cell? ⟨w.heap.size,2,none⟩=some (.string d):=(by simp[World.cell?,hp1]);have q3:w1.cell? ⟨w.heap.size,3,none⟩=some (.bool false):=(by simp[World.cell?,hp1])))
    go_ret
    refine⟨?_,HB1.out⟩
    refine congrArg Ending.returned (congrArg Value.string (ext_bytes ?_))
    rw[app_data,app_data,HX.out]
end Go.Proofs.YtmlmkmhkmifnkaaGreatDoor.Ma