import Derived.Test.YtmlmkmhkmifnkaaGreatDoorM23
set_option maxHeartbeats 16000000
set_option maxRecDepth 1000000
namespace Go.Proofs.YtmlmkmhkmifnkaaGreatDoor.Ma
open Go.RowKit
open Ci (Bel Lay ext_bytes app_data Nt netC netV zeroN zeroN_fits addrQ errQ netC_one net_len range_net)
theorem any_step{α:Type}(p:α→Bool)(l:List α)(k:Nat)(hk:k<l.length)(h:(l.take k).any p=false):(l.take (k+1)).any p=p l[k]:=by
 rw[List.take_succ_eq_append_getElem hk,List.any_append,h]
 simp
theorem any_true{α:Type}(p:α→Bool)(l:List α)(k:Nat)(hk:k<l.length)(h:p l[k]=true):l.any p=true:=by
 rw[List.any_eq_true]
 exact⟨l[k],List.getElem_mem hk,h⟩
theorem odd_two(b:UInt8):oddB b=(decide ((b.toNat:Int)<32)||decide ((126:Int)<(b.toNat:Int))):=by
 unfold oddB
 congr 1<;>(congr 1;exact propext ⟨fun h=>by omega,fun h=>by omega⟩)
theorem right_plain(l d:ByteArray)(t m:Bool)(hm:mayQ (pOf false l d t)=m):rightP (pOf false l d t)=if !m then 90 else if 64<(⟨(formP l.data.toList).toArray⟩:ByteArray).size∨(!t)∧255<d.size∨254<(⟨(shownP (pOf false l d t)).toArray⟩:ByteArray).size then 91 else 0:=by
 unfold rightP
 rw[hm,Lib.size_eq d,Lib.size_eq ⟨(formP l.data.toList).toArray⟩,Lib.size_eq ⟨(shownP (pOf false l d t)).toArray⟩]
 cases m with
 |false=>rfl
 |true=>
  have e:(pOf false l d t).null=false:=rfl
  rw[e]
  simp only[Bool.not_true,Bool.false_eq_true,if_false]
  refine ite_congr (propext ⟨fun h=> ?_,fun h=> ?_⟩) (fun _=>rfl) (fun _=>rfl)
  ·exact h.imp id (Or.imp id fun h=>by have:256<(shownP (pOf false l d t)).length+2:=h;show 254<(shownP (pOf false l d t)).length;omega)
  ·exact h.imp id (Or.imp id fun h=>by have:254<(shownP (pOf false l d t)).length:=h;show 256<(shownP (pOf false l d t)).length+2;omega)
theorem may_false{l:List UInt8}{d:List UInt8}{t:Bool}(h:l.isEmpty=true∨l.any oddB=true):mayQ ⟨false,l,d,t⟩=false:=by
 unfold mayQ
 rw[if_neg Bool.false_ne_true]
 simp only
 rw[if_pos]
 rcases h with h|h<;>simp[h]
theorem tests_plain {f d s:Nat} {r:Int} (t:Bool) {c1 c2 c3:Bool} (g1:decide ((64:Int)<(f:Int))=c1) (g2:decide ((255:Int)<(d:Int))=c2) (g3:decide ((254:Int)<(s:Int))=c3)
 (h:r=if !true then 90 else if 64<f∨(!t)∧255<d∨254<s then 91 else 0):r=if(c1||((!t&&c2)||c3))then 91 else 0:=by
 rw[h,if_neg (by decide),←g1,←g2,←g3]
 have e:(64<f∨(!t)=true∧255<d∨254<s)↔((decide ((64:Int)<(f:Int))||((!t&&decide ((255:Int)<(d:Int)))||decide ((254:Int)<(s:Int))))=true):=by
  simp only[Bool.or_eq_true,Bool.and_eq_true,decide_eq_true_eq]
  constructor
  ·rintro(h|⟨h1,h2⟩|h)
   ·exact .inl (by omega)
   ·exact .inr (.inl ⟨h1,by omega⟩)
   ·exact .inr (.inr (by omega))
  ·rintro(h|⟨h1,h2⟩|h)
   ·exact .inl (by omega)
   ·exact .inr (.inl ⟨h1,by omega⟩)
   ·exact .inr (.inr (by omega))
 by_cases hc:(64<f∨(!t)=true∧255<d∨254<s)
 ·rw[if_pos hc,if_pos (e.1 hc)]
 ·rw[if_neg hc,if_neg fun k=>hc (e.2 k)]
theorem rright_run(n:Bool)(l d:ByteArray)(t:Bool)(w:World)(hl:l.size≤4194304)(hd:d.size≤4194304):
 Calls Tryz.prog 17 #[.agg #[.bool n,.string l,.string d,.bool t]] w fun e w'=>e=.returned (.int .i64 (rightP (pOf n l d t)))∧Bel w w':=by
 have H0:=hid (And.intro ((Bel.refl w).alloc (.cells #[.bool n,.string l,.string d,.bool t] 26)) (heap_alloc_new w (.cells #[.bool n,.string l,.string d,.bool t] 26)))
 cases n with
 |true=>
  have he:=fun W=>eq_pt true l d t true ⟨#[]⟩ ⟨#[]⟩ false W
  have hq:decide (true=true∧l=⟨#[]⟩∧d=⟨#[]⟩∧t=false)=mayQ (pOf true l d t):=by
   rw[show mayQ (pOf true l d t)=(decide (l=⟨#[]⟩)&&(decide (d=⟨#[]⟩)&& !t))from may_null l d t]
   cases t<;>simp
  rw[hq]at he
  have HR:=hid (show rightP (pOf true l d t)=if !mayQ (pOf true l d t)then 90 else 0 from rfl)
  clear hq
  cases hm:mayQ (pOf true l d t)with
  |true=>
   rw[hm]at he HR
   clear hm
   go_enter Tryz.func17,Tryz.ntmps17
   go_wp2_with (first|(refine wpList_load_mid rfl 26 (.tmp 1) rfl w.heap.size 0 rfl [.bool true,.string l,.string d,.bool t] _ (range_pt H0.out.2) Tryz.underlying26 rfl pt_size ?_))
   go_ret
   exact⟨by rw[HR.out];rfl,H0.out.1⟩
  |false=>
   rw[hm]at he HR
   clear hm
   go_enter Tryz.func17,Tryz.ntmps17
   go_wp2_with (first|(refine wpList_load_mid rfl 26 (.tmp 1) rfl w.heap.size 0 rfl [.bool true,.string l,.string d,.bool t] _ (range_pt H0.out.2) Tryz.underlying26 rfl pt_size ?_))
   go_ret
   exact⟨by rw[HR.out];rfl,H0.out.1⟩
 |false=>
  have hll:l.data.toList.length=l.size:=by rw[Lib.size_eq]
  have HL:=hid hll
  clear hll
  have HMF:=hid (fun h=>may_false (l:=l.data.toList) (d:=d.data.toList) (t:=t) h)
  have HRP:=hid (fun m hm=>right_plain l d t m hm)
  have HF:=(show Hid (∀W,Calls Tryz.prog 42 #[.string l] W fun e w'=>e=.returned (.string ⟨(formP l.data.toList).toArray⟩)∧Bel W w')from fun W=>rlocal_run l W hl)
  have HSh:=(show Hid (∀W,Calls Tryz.prog 43 #[.agg #[.bool false,.string l,.string d,.bool t]] W fun e w'=>e=.returned (.string ⟨(shownP (pOf false l d t)).toArray⟩)∧Bel W w')from fun W=>rform_run false l d t W hl hd)
  have HLo:=(show Hid (∀W,Calls Tryz.prog 38 #[.string d] W fun e w'=>e=.returned (.string ⟨(lowL d.data.toList).toArray⟩)∧Bel W w')from fun W=>rlower_run d W (by omega))
  generalize (⟨(formP l.data.toList).toArray⟩:ByteArray)=fl at HF HRP
  generalize (⟨(shownP (pOf false l d t)).toArray⟩:ByteArray)=sh at HSh HRP
  generalize hr:rightP (pOf false l d t)=r at HRP
  clear hr
  have HP0:=hid H0.out.2
  have HB0:=hid H0.out.1
  have q1:(w.alloc (.cells #[.bool false,.string l,.string d,.bool t] 26)).cell? ⟨w.heap.size,1,none⟩=some (.string l):=by rw[Lib.cell_of_heap HP0.out];rfl
  have p2:(w.alloc (.cells #[.bool false,.string l,.string d,.bool t] 26)).cell? ⟨w.heap.size,2,none⟩=some (.string d):=by rw[Lib.cell_of_heap HP0.out];rfl
  go_enter Tryz.func17,Tryz.ntmps17
  go_wp2_with fail
  generalize w.alloc (.cells #[.bool false,.string l,.string d,.bool t] 26)=w0 at HP0 HB0 q1 p2⊢
  clear H0
  go_loopg [3] l.size (fun gg v3 wr=>∃k:Nat,v3=.int .i64 k∧k+gg=l.size∧Hid (wr=w0∧(l.data.toList.take k).any oddB=false))
  case atStart=>exact⟨0,rfl,by omega,hid ⟨rfl,rfl⟩⟩
  case round=>
   obtain⟨k,rfl,hk,H⟩:=hrel
   have HK:=hid hk
   have hkn:k≤l.size:=by omega
   clear hk
   obtain rfl:wr=w0:=H.out.1
   by_cases hlt:k<l.size
   ·have hlt':k<l.data.toList.length:=by rw[HL.out];exact hlt
    have HC:=hid (show l.data.toList[k]'hlt'=l[k]from rfl)
    have HO:=hid (odd_two l[k])
    have HN:=hid (any_step oddB l.data.toList k hlt' H.out.2)
    have HA:=hid (fun h=>any_true oddB l.data.toList k hlt' h)
    cases h1:decide (((l[k]'hlt).toNat:Int)<32)with
    |true=>
     have HX:=hid (show r=90 by
      rw[HRP.out false (HMF.out (.inr (HA.out (by rw[HC.out,HO.out,h1];rfl))))];rfl)
     go_wp2_with fail
     go_ret
     exact⟨by rw[HX.out];rfl,HB0.out⟩
    |false=>
     cases h2:decide ((126:Int)<((l[k]'hlt).toNat:Int))with
     |true=>
      have HX:=hid (show r=90 by
       rw[HRP.out false (HMF.out (.inr (HA.out (by rw[HC.out,HO.out,h1,h2];rfl))))];rfl)
      go_wp2_with fail
      go_ret
      exact⟨by rw[HX.out];rfl,HB0.out⟩
     |false=>
      have HY:=hid (show(l.data.toList.take (k+1)).any oddB=false by rw[HN.out,HC.out,HO.out,h1,h2];rfl)
      go_wp2_with fail
      go_roundg (gk-1)
      case measure=>have:=HK.out;omega
      case rel=>exact⟨k+1,by go_num,by have:=HK.out;omega,hid ⟨rfl,HY.out⟩⟩
   ·obtain rfl:k=l.size:=by omega
    have HAny:=hid (show l.data.toList.any oddB=false by have:=H.out.2;rwa[List.take_of_length_le (by rw[HL.out];exact Nat.le_refl _)]at this)
    clear H HK hkn hlt
    cases hemp:decide ((0:Int)<(l.size:Int))with
    |false=>
     have hempN:decide (0<l.size)=false:=decide_eq_false (by have:=of_decide_eq_false hemp;omega)
     have h0:l.data.toList.isEmpty=true:=by
      rw[List.isEmpty_iff_length_eq_zero,HL.out]
      have:=of_decide_eq_false hemp
      omega
     have HX:=hid (show r=90 by rw[HRP.out false (HMF.out (.inl h0))];rfl)
     clear h0
     cases t with
     |true=>
      have HA:=(show Hid (∀W,Calls Tryz.prog 39 #[.string d] W fun e w'=>e=.returned (.tuple #[.agg (netC ((addrQ d.data.toList).getD zeroN)).toArray,.int .i64 (errQ (addrQ d.data.toList))])∧Bel W w')from fun W=>Ci.raddr_run d W (by omega))
      have HN:=hid (addr_fits d.data.toList)
      generalize (addrQ d.data.toList).getD zeroN=a at HA HN
      have HV:=(show Hid (∀W,Calls Tryz.prog 40 #[.agg (netC a).toArray] W fun e w'=>e=.returned (.tuple #[.string ⟨((Ci.showQ a).getD []).toArray⟩,.int .i64 (Ci.errS a)])∧Bel W w')from fun W=>Ci.rshow_run a HN.out W)
      have HZ:=hid (net_len a HN.out.len)
      have HLn:=hid (show(netC a).length=(netC zeroN).length by rw[Ci.netC_len a HN.out.len,Ci.netC_len zeroN zeroN_fits.len])
      generalize (⟨((Ci.showQ a).getD []).toArray⟩:ByteArray)=v at HV
      generalize Ci.errS a=es at HV
      generalize errQ (addrQ d.data.toList)=ea at HA
      cases he:(ea==0)<;>cases hv:(v.toList==d.toList)<;>
      ·go_wp2_with (first|(go_at_call 38;refine(HLo.out _).mono ?_;rintro e w1 ⟨rfl,hb1⟩;have hp1:=hb1.heap HP0.out;have HB1:=hid (HB0.out.trans hb1);have q0:w1.cell? ⟨w.heap.size,0,none⟩=some (.bool false):=(by rw[Lib.cell_of_heap hp1];rfl);have q1':w1.cell? ⟨w.heap.size,1,none⟩=some (.string l):=(by rw[Lib.cell_of_heap hp1];rfl);have q2:w1.cell? ⟨w.heap.size,2,none⟩=some (.string d):=(by rw[Lib.cell_of_heap hp1];rfl);have q3:w1.cell? ⟨w.heap.size,3,none⟩=some (.bool true):=(by rw[Lib.cell_of_heap hp1];rfl);clear hb1)|(go_at_call 39;refine(HA.out _).mono ?_;rintro e w2 ⟨rfl,hb2⟩;have hp2:=hb2.heap hp1;have HB2:=hid (HB1.out.trans hb2);clear hb2)|(with_reducible refine wpList_store_blk (by with_unfolding_all rfl) 86 (.tmp 6) (.tmp 62) (by with_unfolding_all rfl) w2.heap.size (netC a) (by with_unfolding_all rfl) (by with_unfolding_all rfl) HZ.out (netC_one a) (netC zeroN) _ (heap_alloc_new w2 _) HLn.out ?_;intro w3 hc3 ho3 hs3 hb3;have hp3:=(hb3 w2 ((Bel.refl w2).alloc _) (Nat.le_refl _)).heap hp2;have HB3:=hid (HB2.out.trans (hb3 w2 ((Bel.refl w2).alloc _) (Nat.le_refl _)));clear ho3 hs3 hb3)|(with_reducible refine wpList_load_mid (by with_unfolding_all rfl) 86 (.tmp 6) (by with_unfolding_all rfl) w2.heap.size 0 (by with_unfolding_all rfl) (netC a) _ (range_net hc3) Tryz.underlying86 (by with_unfolding_all rfl) HZ.out ?_)|(go_at_call 40;refine(HV.out _).mono ?_;rintro e w4 ⟨rfl,hb4⟩;have hp4:=hb4.heap hp3;have HB4:=hid (HB3.out.trans hb4);have q0:w4.cell? ⟨w.heap.size,0,none⟩=some (.bool false):=(by rw[Lib.cell_of_heap hp4];rfl);have q1':w4.cell? ⟨w.heap.size,1,none⟩=some (.string l):=(by rw[Lib.cell_of_heap hp4];rfl);have q2:w4.cell? ⟨w.heap.size,2,none⟩=some (.string d):=(by rw[Lib.cell_of_heap hp4];rfl);have q3:w4.cell? ⟨w.heap.size,3,none⟩=some (.bool true):=(by rw[Lib.cell_of_heap hp4];rfl);clear hb4))
       go_ret
       exact⟨by rw[HX.out];rfl,HB4.out⟩
     |false=>
      cases hde:(d.toList==[])with
      |true=>
       have hpm:(l.toList==[112,111,115,116,109,97,115,116,101,114])=false:=by
        rw[beq_eq_false_iff_ne];intro e
        have:=congrArg List.length e
        rw[ByteArray.toList_eq,HL.out]at this
        have h0:=of_decide_eq_false hemp
        simp at this;omega
       go_wp2_with (first|(go_at_call 38;refine(HLo.out _).mono ?_;rintro e w1 ⟨rfl,hb1⟩;have hp1:=hb1.heap HP0.out;have HB1:=hid (HB0.out.trans hb1);have q0:w1.cell? ⟨w.heap.size,0,none⟩=some (.bool false):=(by rw[Lib.cell_of_heap hp1];rfl);have q1':w1.cell? ⟨w.heap.size,1,none⟩=some (.string l):=(by rw[Lib.cell_of_heap hp1];rfl);have q2:w1.cell? ⟨w.heap.size,2,none⟩=some (.string d):=(by rw[Lib.cell_of_heap hp1];rfl);have q3:w1.cell? ⟨w.heap.size,3,none⟩=some (.bool false):=(by rw[Lib.cell_of_heap hp1];rfl);clear hb1))
       go_ret
       exact⟨by rw[HX.out];rfl,HB1.out⟩
      |false=>
       have HNm:=(show Hid (∀W,Calls Tryz.prog 41 #[.string d] W fun e w'=>e=.returned (.bool (namedQ d.data.toList))∧w'=W)from fun W=>rname_run d W (by omega))
       go_wp2_with (first|(go_at_call 38;refine(HLo.out _).mono ?_;rintro e w1 ⟨rfl,hb1⟩;have hp1:=hb1.heap HP0.out;have HB1:=hid (HB0.out.trans hb1);have q0:w1.cell? ⟨w.heap.size,0,none⟩=some (.bool false):=(by rw[Lib.cell_of_heap hp1];rfl);have q1':w1.cell? ⟨w.heap.size,1,none⟩=some (.string l):=(by rw[Lib.cell_of_heap hp1];rfl);have q2:w1.cell? ⟨w.heap.size,2,none⟩=some (.string d):=(by rw[Lib.cell_of_heap hp1];rfl);have q3:w1.cell? ⟨w.heap.size,3,none⟩=some (.bool false):=(by rw[Lib.cell_of_heap hp1];rfl);clear hb1)|(go_at_call 41;refine(HNm.out _).mono ?_;rintro e w2 ⟨rfl,h2⟩;have h2:=h2.symm;subst h2))
       go_ret
       exact⟨by rw[HX.out];rfl,HB1.out⟩
    |true=>
     have hempN:decide (0<l.size)=true:=decide_eq_true (by have:=of_decide_eq_true hemp;omega)
     have hlo:(l.data.toList.isEmpty||l.data.toList.any oddB)=false:=by
      rw[HAny.out,Bool.or_false,←Bool.not_eq_true,List.isEmpty_iff_length_eq_zero,HL.out]
      have:=of_decide_eq_true hemp
      omega
     have HLO:=hid hlo
     clear hlo
     cases t with
     |true=>
      have HX0:=hid (may_lit l d HLO.out)
      have HA:=(show Hid (∀W,Calls Tryz.prog 39 #[.string d] W fun e w'=>e=.returned (.tuple #[.agg (netC ((addrQ d.data.toList).getD zeroN)).toArray,.int .i64 (errQ (addrQ d.data.toList))])∧Bel W w')from fun W=>Ci.raddr_run d W (by omega))
      have HN:=hid (addr_fits d.data.toList)
      generalize (addrQ d.data.toList).getD zeroN=a at HA HN HX0
      have HV:=(show Hid (∀W,Calls Tryz.prog 40 #[.agg (netC a).toArray] W fun e w'=>e=.returned (.tuple #[.string ⟨((Ci.showQ a).getD []).toArray⟩,.int .i64 (Ci.errS a)])∧Bel W w')from fun W=>Ci.rshow_run a HN.out W)
      have HZ:=hid (net_len a HN.out.len)
      have HLn:=hid (show(netC a).length=(netC zeroN).length by rw[Ci.netC_len a HN.out.len,Ci.netC_len zeroN zeroN_fits.len])
      generalize (⟨((Ci.showQ a).getD []).toArray⟩:ByteArray)=v at HV HX0
      generalize Ci.errS a=es at HV
      generalize errQ (addrQ d.data.toList)=ea at HA HX0
      cases he:(ea==0)with
      |false=>
       have HX:=hid (show r=90 by rw[HRP.out false (HX0.out.trans (by rw[he];rfl))];rfl)
       go_wp2_with (first|(go_at_call 38;refine(HLo.out _).mono ?_;rintro e w1 ⟨rfl,hb1⟩;have hp1:=hb1.heap HP0.out;have HB1:=hid (HB0.out.trans hb1);have q0:w1.cell? ⟨w.heap.size,0,none⟩=some (.bool false):=(by rw[Lib.cell_of_heap hp1];rfl);have q1':w1.cell? ⟨w.heap.size,1,none⟩=some (.string l):=(by rw[Lib.cell_of_heap hp1];rfl);have q2:w1.cell? ⟨w.heap.size,2,none⟩=some (.string d):=(by rw[Lib.cell_of_heap hp1];rfl);have q3:w1.cell? ⟨w.heap.size,3,none⟩=some (.bool true):=(by rw[Lib.cell_of_heap hp1];rfl);clear hb1)|(go_at_call 39;refine(HA.out _).mono ?_;rintro e w2 ⟨rfl,hb2⟩;have hp2:=hb2.heap hp1;have HB2:=hid (HB1.out.trans hb2);clear hb2)|(with_reducible refine wpList_store_blk (by with_unfolding_all rfl) 86 (.tmp 6) (.tmp 62) (by with_unfolding_all rfl) w2.heap.size (netC a) (by with_unfolding_all rfl) (by with_unfolding_all rfl) HZ.out (netC_one a) (netC zeroN) _ (heap_alloc_new w2 _) HLn.out ?_;intro w3 hc3 ho3 hs3 hb3;have hp3:=(hb3 w2 ((Bel.refl w2).alloc _) (Nat.le_refl _)).heap hp2;have HB3:=hid (HB2.out.trans (hb3 w2 ((Bel.refl w2).alloc _) (Nat.le_refl _)));clear ho3 hs3 hb3)|(with_reducible refine wpList_load_mid (by with_unfolding_all rfl) 86 (.tmp 6) (by with_unfolding_all rfl) w2.heap.size 0 (by with_unfolding_all rfl) (netC a) _ (range_net hc3) Tryz.underlying86 (by with_unfolding_all rfl) HZ.out ?_)|(go_at_call 40;refine(HV.out _).mono ?_;rintro e w4 ⟨rfl,hb4⟩;have hp4:=hb4.heap hp3;have HB4:=hid (HB3.out.trans hb4);have q0:w4.cell? ⟨w.heap.size,0,none⟩=some (.bool false):=(by rw[Lib.cell_of_heap hp4];rfl);have q1':w4.cell? ⟨w.heap.size,1,none⟩=some (.string l):=(by rw[Lib.cell_of_heap hp4];rfl);have q2:w4.cell? ⟨w.heap.size,2,none⟩=some (.string d):=(by rw[Lib.cell_of_heap hp4];rfl);have q3:w4.cell? ⟨w.heap.size,3,none⟩=some (.bool true):=(by rw[Lib.cell_of_heap hp4];rfl);clear hb4))
       go_ret
       exact⟨by rw[HX.out];rfl,HB4.out⟩
      |true=>
       cases hv:(v.toList==d.toList)with
       |false=>
        have HX:=hid (show r=90 by rw[HRP.out false (HX0.out.trans (by rw[he,hv];rfl))];rfl)
        go_wp2_with (first|(go_at_call 38;refine(HLo.out _).mono ?_;rintro e w1 ⟨rfl,hb1⟩;have hp1:=hb1.heap HP0.out;have HB1:=hid (HB0.out.trans hb1);have q0:w1.cell? ⟨w.heap.size,0,none⟩=some (.bool false):=(by rw[Lib.cell_of_heap hp1];rfl);have q1':w1.cell? ⟨w.heap.size,1,none⟩=some (.string l):=(by rw[Lib.cell_of_heap hp1];rfl);have q2:w1.cell? ⟨w.heap.size,2,none⟩=some (.string d):=(by rw[Lib.cell_of_heap hp1];rfl);have q3:w1.cell? ⟨w.heap.size,3,none⟩=some (.bool true):=(by rw[Lib.cell_of_heap hp1];rfl);clear hb1)|(go_at_call 39;refine(HA.out _).mono ?_;rintro e w2 ⟨rfl,hb2⟩;have hp2:=hb2.heap hp1;have HB2:=hid (HB1.out.trans hb2);clear hb2)|(with_reducible refine wpList_store_blk (by with_unfolding_all rfl) 86 (.tmp 6) (.tmp 62) (by with_unfolding_all rfl) w2.heap.size (netC a) (by with_unfolding_all rfl) (by with_unfolding_all rfl) HZ.out (netC_one a) (netC zeroN) _ (heap_alloc_new w2 _) HLn.out ?_;intro w3 hc3 ho3 hs3 hb3;have hp3:=(hb3 w2 ((Bel.refl w2).alloc _) (Nat.le_refl _)).heap hp2;have HB3:=hid (HB2.out.trans (hb3 w2 ((Bel.refl w2).alloc _) (Nat.le_refl _)));clear ho3 hs3 hb3)|(with_reducible refine wpList_load_mid (by with_unfolding_all rfl) 86 (.tmp 6) (by with_unfolding_all rfl) w2.heap.size 0 (by with_unfolding_all rfl) (netC a) _ (range_net hc3) Tryz.underlying86 (by with_unfolding_all rfl) HZ.out ?_)|(go_at_call 40;refine(HV.out _).mono ?_;rintro e w4 ⟨rfl,hb4⟩;have hp4:=hb4.heap hp3;have HB4:=hid (HB3.out.trans hb4);have q0:w4.cell? ⟨w.heap.size,0,none⟩=some (.bool false):=(by rw[Lib.cell_of_heap hp4];rfl);have q1':w4.cell? ⟨w.heap.size,1,none⟩=some (.string l):=(by rw[Lib.cell_of_heap hp4];rfl);have q2:w4.cell? ⟨w.heap.size,2,none⟩=some (.string d):=(by rw[Lib.cell_of_heap hp4];rfl);have q3:w4.cell? ⟨w.heap.size,3,none⟩=some (.bool true):=(by rw[Lib.cell_of_heap hp4];rfl);clear hb4))
        go_ret
        exact⟨by rw[HX.out];rfl,HB4.out⟩
       |true=>
        have HM:=hid (show mayQ (pOf false l d true)=true from HX0.out.trans (by rw[he,hv];rfl))
        have HT:=hid (HRP.out true HM.out)
        cases g1:decide ((64:Int)<(fl.size:Int))<;>cases g2:decide ((255:Int)<(d.size:Int))<;>cases g3:decide ((254:Int)<(sh.size:Int))<;>
        ·have HX:=hid (tests_plain true g1 g2 g3 HT.out)
         go_wp2_with (first|(go_at_call 38;refine(HLo.out _).mono ?_;rintro e w1 ⟨rfl,hb1⟩;have hp1:=hb1.heap HP0.out;have HB1:=hid (HB0.out.trans hb1);have q0:w1.cell? ⟨w.heap.size,0,none⟩=some (.bool false):=(by rw[Lib.cell_of_heap hp1];rfl);have q1':w1.cell? ⟨w.heap.size,1,none⟩=some (.string l):=(by rw[Lib.cell_of_heap hp1];rfl);have q2:w1.cell? ⟨w.heap.size,2,none⟩=some (.string d):=(by rw[Lib.cell_of_heap hp1];rfl);have q3:w1.cell? ⟨w.heap.size,3,none⟩=some (.bool true):=(by rw[Lib.cell_of_heap hp1];rfl);clear hb1)|(go_at_call 39;refine(HA.out _).mono ?_;rintro e w2 ⟨rfl,hb2⟩;have hp2:=hb2.heap hp1;have HB2:=hid (HB1.out.trans hb2);clear hb2)|(with_reducible refine wpList_store_blk (by with_unfolding_all rfl) 86 (.tmp 6) (.tmp 62) (by with_unfolding_all rfl) w2.heap.size (netC a) (by with_unfolding_all rfl) (by with_unfolding_all rfl) HZ.out (netC_one a) (netC zeroN) _ (heap_alloc_new w2 _) HLn.out ?_;intro w3 hc3 ho3 hs3 hb3;have hp3:=(hb3 w2 ((Bel.refl w2).alloc _) (Nat.le_refl _)).heap hp2;have HB3:=hid (HB2.out.trans (hb3 w2 ((Bel.refl w2).alloc _) (Nat.le_refl _)));clear ho3 hs3 hb3)|(with_reducible refine wpList_load_mid (by with_unfolding_all rfl) 86 (.tmp 6) (by with_unfolding_all rfl) w2.heap.size 0 (by with_unfolding_all rfl) (netC a) _ (range_net hc3) Tryz.underlying86 (by with_unfolding_all rfl) HZ.out ?_)|(go_at_call 40;refine(HV.out _).mono ?_;rintro e w4 ⟨rfl,hb4⟩;have hp4:=hb4.heap hp3;have HB4:=hid (HB3.out.trans hb4);have q0:w4.cell? ⟨w.heap.size,0,none⟩=some (.bool false):=(by rw[Lib.cell_of_heap hp4];rfl);have q1':w4.cell? ⟨w.heap.size,1,none⟩=some (.string l):=(by rw[Lib.cell_of_heap hp4];rfl);have q2:w4.cell? ⟨w.heap.size,2,none⟩=some (.string d):=(by rw[Lib.cell_of_heap hp4];rfl);have q3:w4.cell? ⟨w.heap.size,3,none⟩=some (.bool true):=(by rw[Lib.cell_of_heap hp4];rfl);clear hb4)|(go_at_call 42;refine(HF.out _).mono ?_;rintro e w5 ⟨rfl,hb5⟩;have hp5:=hb5.heap hp4;have HB5:=hid (HB4.out.trans hb5);have r0:w5.cell? ⟨w.heap.size,0,none⟩=some (.bool false):=(by rw[Lib.cell_of_heap hp5];rfl);have r1:w5.cell? ⟨w.heap.size,1,none⟩=some (.string l):=(by rw[Lib.cell_of_heap hp5];rfl);have r2:w5.cell? ⟨w.heap.size,2,none⟩=some (.string d):=(by rw[Lib.cell_of_heap hp5];rfl);have r3:w5.cell? ⟨w.heap.size,3,none⟩=some (.bool true):=(by rw[Lib.cell_of_heap hp5];rfl);clear hb5)|(go_at_call 43;refine(HSh.out _).mono ?_;rintro e w6 ⟨rfl,hb6⟩;have HB6:=hid (HB5.out.trans hb6);clear hb6))
         go_ret
         first|exact⟨by rw[HX.out];rfl,HB6.out⟩|exact⟨by rw[HX.out];rfl,HB5.out⟩
     |false=>
      have HM0:=hid (show mayQ ⟨false,l.data.toList,d.data.toList,false⟩=if d.data.toList.isEmpty then l.data.toList==pmL else namedQ d.data.toList&&lowL d.data.toList==d.data.toList by
       unfold mayQ
       rw[if_neg Bool.false_ne_true]
       simp only
       rw[HLO.out,if_neg Bool.false_ne_true,if_neg Bool.false_ne_true])
      cases hde:(d.toList==[])with
      |true=>
       have h0:d.data.toList.isEmpty=true:=by rw[←ByteArray.toList_eq];have:=beq_iff_eq.1 hde;rw[this];rfl
       cases hpm:(l.toList==[112,111,115,116,109,97,115,116,101,114])with
       |false=>
        have HX:=hid (show r=90 by rw[HRP.out false (HM0.out.trans (by rw[h0,if_pos rfl,←ByteArray.toList_eq];exact hpm))];rfl)
        clear h0
        go_wp2_with (first|(go_at_call 38;refine(HLo.out _).mono ?_;rintro e w1 ⟨rfl,hb1⟩;have hp1:=hb1.heap HP0.out;have HB1:=hid (HB0.out.trans hb1);have q0:w1.cell? ⟨w.heap.size,0,none⟩=some (.bool false):=(by rw[Lib.cell_of_heap hp1];rfl);have q1':w1.cell? ⟨w.heap.size,1,none⟩=some (.string l):=(by rw[Lib.cell_of_heap hp1];rfl);have q2:w1.cell? ⟨w.heap.size,2,none⟩=some (.string d):=(by rw[Lib.cell_of_heap hp1];rfl);have q3:w1.cell? ⟨w.heap.size,3,none⟩=some (.bool false):=(by rw[Lib.cell_of_heap hp1];rfl);clear hb1))
        go_ret
        exact⟨by rw[HX.out];rfl,HB1.out⟩
       |true=>
        have HM:=hid (show mayQ (pOf false l d false)=true from HM0.out.trans (by rw[h0,if_pos rfl,←ByteArray.toList_eq];exact hpm))
        clear h0
        have HT:=hid (HRP.out true HM.out)
        cases g1:decide ((64:Int)<(fl.size:Int))<;>cases g2:decide ((255:Int)<(d.size:Int))<;>cases g3:decide ((254:Int)<(sh.size:Int))<;>
        ·have HX:=hid (tests_plain false g1 g2 g3 HT.out)
         go_wp2_with (first|(go_at_call 38;refine(HLo.out _).mono ?_;rintro e w1 ⟨rfl,hb1⟩;have hp1:=hb1.heap HP0.out;have HB1:=hid (HB0.out.trans hb1);have q0:w1.cell? ⟨w.heap.size,0,none⟩=some (.bool false):=(by rw[Lib.cell_of_heap hp1];rfl);have q1':w1.cell? ⟨w.heap.size,1,none⟩=some (.string l):=(by rw[Lib.cell_of_heap hp1];rfl);have q2:w1.cell? ⟨w.heap.size,2,none⟩=some (.string d):=(by rw[Lib.cell_of_heap hp1];rfl);have q3:w1.cell? ⟨w.heap.size,3,none⟩=some (.bool false):=(by rw[Lib.cell_of_heap hp1];rfl);clear hb1)|(go_at_call 42;refine(HF.out _).mono ?_;rintro e w5 ⟨rfl,hb5⟩;have hp5:=hb5.heap hp1;have HB5:=hid (HB1.out.trans hb5);have r0:w5.cell? ⟨w.heap.size,0,none⟩=some (.bool false):=(by rw[Lib.cell_of_heap hp5];rfl);have r1:w5.cell? ⟨w.heap.size,1,none⟩=some (.string l):=(by rw[Lib.cell_of_heap hp5];rfl);have r2:w5.cell? ⟨w.heap.size,2,none⟩=some (.string d):=(by rw[Lib.cell_of_heap hp5];rfl);have r3:w5.cell? ⟨w.heap.size,3,none⟩=some (.bool false):=(by rw[Lib.cell_of_heap hp5];rfl);clear hb5)|(go_at_call 43;refine(HSh.out _).mono ?_;rintro e w6 ⟨rfl,hb6⟩;have HB6:=hid (HB5.out.trans hb6);clear hb6))
         go_ret
         first|exact⟨by rw[HX.out];rfl,HB6.out⟩|exact⟨by rw[HX.out];rfl,HB5.out⟩
      |false=>
       have h0:d.data.toList.isEmpty=false:=by
        rw[←ByteArray.toList_eq];have:=beq_eq_false_iff_ne.1 hde
        cases hx:d.toList with
        |nil=>exact absurd hx this
        |cons=>rfl
       have HNm:=(show Hid (∀W,Calls Tryz.prog 41 #[.string d] W fun e w'=>e=.returned (.bool (namedQ d.data.toList))∧w'=W)from fun W=>rname_run d W (by omega))
       have HM1:=hid (show mayQ (pOf false l d false)=(namedQ d.data.toList&&((⟨(lowL d.data.toList).toArray⟩:ByteArray).toList==d.toList))from HM0.out.trans (by rw[h0,if_neg Bool.false_ne_true,ByteArray.toList_eq,ByteArray.toList_eq]))
       generalize (⟨(lowL d.data.toList).toArray⟩:ByteArray)=lo at HLo HM1
       clear h0
       cases hn:namedQ d.data.toList with
       |false=>
        have HX:=hid (show r=90 by rw[HRP.out false (HM1.out.trans (by rw[hn];rfl))];rfl)
        rw[hn]at HNm
        go_wp2_with (first|(go_at_call 38;refine(HLo.out _).mono ?_;rintro e w1 ⟨rfl,hb1⟩;have hp1:=hb1.heap HP0.out;have HB1:=hid (HB0.out.trans hb1);have q0:w1.cell? ⟨w.heap.size,0,none⟩=some (.bool false):=(by rw[Lib.cell_of_heap hp1];rfl);have q1':w1.cell? ⟨w.heap.size,1,none⟩=some (.string l):=(by rw[Lib.cell_of_heap hp1];rfl);have q2:w1.cell? ⟨w.heap.size,2,none⟩=some (.string d):=(by rw[Lib.cell_of_heap hp1];rfl);have q3:w1.cell? ⟨w.heap.size,3,none⟩=some (.bool false):=(by rw[Lib.cell_of_heap hp1];rfl);clear hb1)|(go_at_call 41;refine(HNm.out _).mono ?_;rintro e w2 ⟨rfl,h2⟩;have h2:=h2.symm;subst h2))
        go_ret
        exact⟨by rw[HX.out];rfl,HB1.out⟩
       |true=>
        rw[hn]at HNm
        cases hlw:(lo.toList==d.toList)with
        |false=>
         have HX:=hid (show r=90 by rw[HRP.out false (HM1.out.trans (by rw[hn,hlw];rfl))];rfl)
         go_wp2_with (first|(go_at_call 38;refine(HLo.out _).mono ?_;rintro e w1 ⟨rfl,hb1⟩;have hp1:=hb1.heap HP0.out;have HB1:=hid (HB0.out.trans hb1);have q0:w1.cell? ⟨w.heap.size,0,none⟩=some (.bool false):=(by rw[Lib.cell_of_heap hp1];rfl);have q1':w1.cell? ⟨w.heap.size,1,none⟩=some (.string l):=(by rw[Lib.cell_of_heap hp1];rfl);have q2:w1.cell? ⟨w.heap.size,2,none⟩=some (.string d):=(by rw[Lib.cell_of_heap hp1];rfl);have q3:w1.cell? ⟨w.heap.size,3,none⟩=some (.bool false):=(by rw[Lib.cell_of_heap hp1];rfl);clear hb1)|(go_at_call 41;refine(HNm.out _).mono ?_;rintro e w2 ⟨rfl,h2⟩;have h2:=h2.symm;subst h2))
         go_ret
         exact⟨by rw[HX.out];rfl,HB1.out⟩
        |true=>
         have HM:=hid (show mayQ (pOf false l d false)=true from HM1.out.trans (by rw[hn,hlw];rfl))
         have HT:=hid (HRP.out true HM.out)
         cases g1:decide ((64:Int)<(fl.size:Int))<;>cases g2:decide ((255:Int)<(d.size:Int))<;>cases g3:decide ((254:Int)<(sh.size:Int))<;>
         ·have HX:=hid (tests_plain false g1 g2 g3 HT.out)
          go_wp2_with (first|(go_at_call 38;refine(HLo.out _).mono ?_;rintro e w1 ⟨rfl,hb1⟩;have hp1:=hb1.heap HP0.out;have HB1:=hid (HB0.out.trans hb1);have q0:w1.cell? ⟨w.heap.size,0,none⟩=some (.bool false):=(by rw[Lib.cell_of_heap hp1];rfl);have q1':w1.cell? ⟨w.heap.size,1,none⟩=some (.string l):=(by rw[Lib.cell_of_heap hp1];rfl);have q2:w1.cell? ⟨w.heap.size,2,none⟩=some (.string d):=(by rw[Lib.cell_of_heap hp1];rfl);have q3:w1.cell? ⟨w.heap.size,3,none⟩=some (.bool false):=(by rw[Lib.cell_of_heap hp1];rfl);clear hb1)|(go_at_call 41;refine(HNm.out _).mono ?_;rintro e w2 ⟨rfl,h2⟩;have h2:=h2.symm;subst h2)|(go_at_call 42;refine(HF.out _).mono ?_;rintro e w5 ⟨rfl,hb5⟩;have hp5:=hb5.heap hp1;have HB5:=hid (HB1.out.trans hb5);have r0:w5.cell? ⟨w.heap.size,0,none⟩=some (.bool false):=(by rw[Lib.cell_of_heap hp5];rfl);have r1:w5.cell? ⟨w.heap.size,1,none⟩=some (.string l):=(by rw[Lib.cell_of_heap hp5];rfl);have r2:w5.cell? ⟨w.heap.size,2,none⟩=some (.string d):=(by rw[Lib.cell_of_heap hp5];rfl);have r3:w5.cell? ⟨w.heap.size,3,none⟩=some (.bool false):=(by rw[Lib.cell_of_heap hp5];rfl);clear hb5)|(go_at_call 43;refine(HSh.out _).mono ?_;rintro e w6 ⟨rfl,hb6⟩;have HB6:=hid (HB5.out.trans hb6);clear hb6))
          go_ret
          first|exact⟨by rw[HX.out];rfl,HB6.out⟩|exact⟨by rw[HX.out];rfl,HB5.out⟩
end Go.Proofs.YtmlmkmhkmifnkaaGreatDoor.Ma