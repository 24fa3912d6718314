import Derived.Test.YtmlmkmhkmifnkaaGreatDoorM30
import Derived.Laws.AppendOwnNone
import Derived.Lib.TrimU
set_option maxHeartbeats 16000000
set_option maxRecDepth 1000000
namespace Go.Proofs.YtmlmkmhkmifnkaaGreatDoor.Tb
open Go.RowKit
open Ci (Bel hid own_bel row_shape own_base addr_add)
open Ma (lowL wpList_store_blk)
theorem flt_size:(Tryz.prog.info? 62).map (·.size)=some 2:=by kernel_rfl
theorem rl_size:(Tryz.prog.info? 147).map (·.size)=some 3:=by kernel_rfl
theorem REns.place{W:World}{x:Option Addr}{es:List En}(h:REns W x es):∀k (hk:k<es.length),∃b o,x=some ⟨b,o,none⟩∧W.cell? ⟨b,o+k*2,none⟩=some (.string ⟨es[k].key.toArray⟩):=fun k hk=>by
 obtain⟨b,e,h1,-⟩:=h.cell hk
 exact⟨b,0,e,by rw[Nat.zero_add];exact h1⟩
theorem RTab.put {base tb:Nat} {W w7:World} {v v':Value} {es:List En} {e:En} (h:RTab base W tb v es) (hf:foundB es e.key=false) (hn:es.length≠2000) (hblk:w7.heap[tb]?=some (.cells #[v'] 80 (0,0)))
 (hrow:w7.ownsRow base 82 2 v' (es.length+1) (enCs (es.take (rank es e.key))++enC e++enCs (es.drop (rank es e.key)))):RTab base w7 tb v' (es.take (rank es e.key)++e::es.drop (rank es e.key)):=by
 have hl:=ins_length es e (rank es e.key) (rank_le es e.key)
 have hnum:=h.num
 refine⟨hblk,?_,?_,by rw[hl];omega⟩
 ·rw[hl,enCs_app,show enCs (e::es.drop (rank es e.key))=enC e++enCs (es.drop (rank es e.key))from rfl,←List.append_assoc]
  exact hrow
 ·have:=ins_srt es e h.srt (by rw[←found_has _ _ h.srt];exact hf)
  rw[←put_ins es e h.srt]at this
  exact this
theorem rtparse_run(s:ByteArray)(w:World):Calls Tryz.prog 34 #[.string s] w (RParsePost s.data.toList w):=by
 have hsz:=Lib.size_eq s
 have hfa:=heap_alloc_new w (.cells #[.int .i64 0,.int .i64 0] 62)
 by_cases hl:262144<s.size
 ·have b1:decide ((262144:Int)<(s.size:Int))=true:=decide_eq_true (by omega)
  have HN:=hid (show tparse s.data.toList=none by rw[tparse_ref,if_pos (by rw[←hsz];exact hl)])
  have HB0:=hid ((Bel.refl w).alloc (.cells #[.int .i64 0,.int .i64 0] 62))
  clear hl hsz
  go_enter Tryz.func34,Tryz.ntmps34
  go_wp2_with (first|((with_reducible refine wpList_store_blk (by with_unfolding_all rfl) 62 (.tmp 3) (.tmp 18) (by with_unfolding_all rfl) w.heap.size [.int .i64 60,.int .i64 262144] (by with_unfolding_all rfl) (by with_unfolding_all rfl) (by with_unfolding_all exact flt_size) (by with_unfolding_all simp[Value.oneCell']) [.int .i64 0,.int .i64 0] _ (by with_unfolding_all exact hfa) (by with_unfolding_all rfl) ?_);intro w9 hc9 ho9 hs9 hb9;have HB9:=hid (hb9 w HB0.out (Nat.le_refl _));have HC9:=hid hc9;clear ho9 hs9 hb9 hc9))
  have hl2:=load_flt (cs:=[.int .i64 60,.int .i64 262144]) HC9.out rfl
  exact bodyPost_ret (v:=.tuple #[.pointer none,.agg ([.int .i64 60,.int .i64 262144]:List Value).toArray]) (by simp[results,Tryz.results34,asAddr,hl2,Act.put]) rfl (rparse_none HN.out (by decide) HB9.out)
 ·have b1:decide ((262144:Int)<(s.size:Int))=false:=decide_eq_false (by omega)
  obtain⟨w0,hw0⟩:∃w0,w0=w.alloc (.cells #[.int .i64 0,.int .i64 0] 62):=⟨_,rfl⟩
  have HL:=hid (rlines_run s w0 (by omega))
  have HB0:=hid (show Bel w w0 by rw[hw0];exact(Bel.refl w).alloc _)
  have HSZ:=hid hsz
  have HNL:=hid (show¬262144<s.data.toList.length by rw[←hsz];exact hl)
  have HRB:=hid (rs_b s.data.toList).1
  have HRA:=hid (rs_b s.data.toList).2
  have hs18:s.size≤262144:=by omega
  have HFA:=hid (show w0.heap[w.heap.size]?=some (.cells #[.int .i64 0,.int .i64 0] 62 (0,0)) by rw[hw0];exact hfa)
  clear hl hsz hfa
  go_enter Tryz.func34,Tryz.ntmps34
  go_wp2_with (first|((try rw[←hw0]);go_at_call 83;refine HL.out.mono ?_;rintro e w1 ⟨v4,v5,M,rfl,hb1,hm1,he1,hi1⟩;obtain⟨x5,c5,rfl,-,-⟩:=row_shape hi1;obtain⟨x4,c4,rfl,-,-⟩:=row_shape hm1.row;have HB1:=hid hb1;have HM1:=hid hm1;have HE1:=hid he1;have HI1:=hid hi1;clear hb1 hm1 he1 hi1))
  have hnb:(rsAll s.data.toList).bads.length≤600000:=by
   have h2:=HRB.out.nb
   have h3:=HRA.out
   rw[←HSZ.out]at h2 h3
   omega
  have hmm:M.length≤262145:=by
   have h1:M.length=(rsAll s.data.toList).out.length:=by rw[←HE1.out,List.length_map]
   have h2:=HRB.out.cnt
   have h3:=HRA.out
   rw[←HSZ.out]at h3
   omega
  generalize hbn:(rsAll s.data.toList).bads.length=nb at hnb
  have HBN:=hid hbn
  clear hbn
  go_loopg [6,7,8] nb (fun gg v6 v7 v8 wr=>∃(i:Nat) (at_ code:Int),v6=.int .i64 at_∧v7=.int .i64 code∧v8=.int .i64 i∧i+gg=nb∧Hid (wr=w1∧((i=0∧code=0∧at_=(s.size:Int)+1)∨(0<i∧code=61))))
  case atStart=>exact⟨0,_,0,rfl,rfl,rfl,by omega,hid ⟨rfl,.inl ⟨rfl,rfl,rfl⟩⟩⟩
  case round=>
   obtain⟨i,at_,code,rfl,rfl,rfl,hi,H⟩:=hrel
   have Hi:=hid hi
   have hin:i≤nb:=by omega
   have ew:=H.out.1.symm
   subst ew
   clear hi
   by_cases hlt:i<nb
   ·have hlb:i<(rsAll s.data.toList).bads.length:=by rw[HBN.out];exact hlt
    obtain⟨g,hxg,c0⟩:∃g,x5=some ⟨g,0,none⟩∧w1.cell? ⟨g,i,none⟩=some (.int .i64 (((rsAll s.data.toList).bads[i]:Nat):Int)):=by
     have h:=HI1.out
     unfold IntRow at h
     rcases h.2 with⟨-,h0⟩|⟨g,cap,cur,e,-⟩
     ·omega
     ·obtain⟨rfl,-,rfl⟩:=Value.slice.inj e
      refine⟨g,rfl,?_⟩
      rw[World.ownsRow.cellAt h i (by omega)]
      unfold intsV
      rw[List.getElem?_map,List.getElem?_eq_getElem hlb];rfl
    subst hxg
    have hble:=HRB.out.bads _ (List.getElem_mem hlb)
    rw[←HSZ.out]at hble
    generalize (rsAll s.data.toList).bads[i]=b at c0 hble
    by_cases hb:(b:Int)<at_
    ·have b2:decide ((b:Int)<at_)=true:=decide_eq_true hb
     go_wp2_with fail
     go_roundg (gk-1)
     case measure=>have:=Hi.out;omega
     case rel=>exact⟨i+1,b,61,rfl,rfl,by go_num,by have:=Hi.out;omega,hid ⟨rfl,.inr ⟨by omega,rfl⟩⟩⟩
    ·have b2:decide ((b:Int)<at_)=false:=decide_eq_false hb
     have HNx:=hid (show 0<i∧code=61 from by
      rcases H.out.2 with⟨-,-,h3⟩|h3
      ·omega
      ·exact h3)
     go_wp2_with fail
     go_roundg (gk-1)
     case measure=>have:=Hi.out;omega
     case rel=>exact⟨i+1,at_,code,rfl,rfl,by go_num,by have:=Hi.out;omega,hid ⟨rfl,.inr ⟨by omega,HNx.out.2⟩⟩⟩
   ·obtain rfl:i=nb:=by omega
    have HPM:=hid (show PM s.data.toList ((rsAll s.data.toList).out.drop 0) [] code at_ from by
     rw[List.drop_zero]
     rcases H.out.2 with⟨h1,rfl,rfl⟩|⟨h1,rfl⟩
     ·have:(rsAll s.data.toList).bads=[]:=List.eq_nil_of_length_eq_zero (by rw[HBN.out];exact h1)
      rw[HSZ.out]
      exact PM.zero _ this
     ·refine PM.one _ _ (fun e=> ?_) _
      have:=HBN.out
      rw[e]at this
      simp at this
      omega)
    clear H
    have HT0:=hid (show RTab w1.heap.size (w1.alloc (.cells #[.slice none 0 0] 80)) w1.heap.size (.slice none 0 0) []from⟨heap_alloc_new w1 _,World.ownsRow_nil _ _ _ _,trivial,Nat.zero_le _⟩)
    have HBT:=hid ((Bel.refl w1).alloc (.cells #[.slice none 0 0] 80))
    obtain⟨at0,ha0⟩:∃a,a=at_:=⟨_,rfl⟩
    obtain⟨code0,hc0⟩:∃a,a=code:=⟨_,rfl⟩
    subst ha0 hc0
    obtain⟨W2,hW2⟩:∃W2,W2=w1.alloc (.cells #[.slice none 0 0] 80):=⟨_,rfl⟩
    rw[←hW2]at HT0 HBT
    go_wp2_with fail
    first|rw[←hW2]|skip
    clear hW2
    generalize hMl:M.length=m at hmm
    have HMl:=hid hMl
    clear hMl
    go_loopg [6,7,10] m (fun gg v6 v7 v10 wr=>∃(i:Nat) (at_ code:Int) (v:Value) (es:List En),v6=.int .i64 at_∧v7=.int .i64 code∧v10=.int .i64 i∧i+gg=m∧Hid (Bel w1 wr∧RTab w1.heap.size wr w1.heap.size v es∧PM s.data.toList ((rsAll s.data.toList).out.drop i) es code at_))
    case atStart=>exact⟨0,at0,code0,_,[],rfl,rfl,rfl,by omega,hid ⟨HBT.out,HT0.out,HPM.out⟩⟩
    case round=>
     clear HT0 HBT HPM
     obtain⟨i,at_,code,v,es,rfl,rfl,rfl,hi,H⟩:=hrel
     have Hi:=hid hi
     have hin:i≤m:=by omega
     clear hi
     by_cases hlt:i<m
     ·have hlM:i<M.length:=by rw[HMl.out];exact hlt
      have hlo:i<(rsAll s.data.toList).out.length:=by rw[←HE1.out,List.length_map];exact hlM
      have hMo:M[i].1=(rsAll s.data.toList).out[i]:=by
       have:(M.map (·.1))[i]'(by rw[List.length_map];exact hlM)=(rsAll s.data.toList).out[i]:=by
        have e:=HE1.out
        simp only[e]
       rw[←this,List.getElem_map]
      have HMr:=hid (HM1.out.next H.out.1)
      obtain⟨g,cg,hv4,hcells⟩:=HMr.out.place hlM
      obtain⟨rfl,-,rfl⟩:=Value.slice.inj hv4
      clear hv4
      have hpcs:=HMr.out.pcs M[i] (List.getElem_mem hlM)
      have hdrop:(rsAll s.data.toList).out.drop i=M[i].1::(rsAll s.data.toList).out.drop (i+1):=by rw[List.drop_eq_getElem_cons hlo,hMo]
      have hin2:M[i].1∈(rsAll s.data.toList).out:=by rw[hMo];exact List.getElem_mem hlo
      have hsat:=HRB.out.at_ _ hin2
      have hskey:=HRB.out.key _ hin2
      have hspcs:=HRB.out.pcs _ hin2
      have hsnum:=HRB.out.num _ hin2
      have hra:=HRA.out
      rw[←HSZ.out]at hsat hskey hspcs hra
      have HPM:=hid H.out.2.2
      rw[hdrop]at HPM
      obtain⟨y,hy⟩:∃y,y=M[i]:=⟨_,rfl⟩
      rw[←hy]at hcells hpcs hsat hskey hspcs hsnum HPM
      clear hdrop hin2 hMo hlo hlM hy
      obtain⟨⟨lat,lkey,lpcs⟩,lv⟩:=y
      simp only at hcells hpcs hsat hskey hspcs hsnum HPM
      obtain⟨xp,cp,rfl,-,-⟩:=row_shape hpcs
      have ca:wr.cell? ⟨g,i*3,none⟩=some (.int .i64 (lat:Int)):=hcells 0 _ rfl
      have HRng:=hid (show wr.rangeAt g (i*3) [.int .i64 (lat:Int),.string ⟨lkey.toArray⟩,.slice xp lpcs.length cp]from fun j u hu=>hcells j u hu)
      by_cases hat:(lat:Int)<at_
      ·have b2:decide ((lat:Int)<at_)=true:=decide_eq_true hat
       obtain⟨y,hy⟩:∃y,y=entR ⟨lat,lkey,lpcs⟩:=⟨_,rfl⟩
       have HEn:=(show Hid (Calls Tryz.prog 84 #[.agg #[.int .i64 (lat:Int),.string ⟨lkey.toArray⟩,.slice xp lpcs.length cp]] wr fun e w'=>e=.returned (.agg (enC y).toArray)∧Bel wr w')from by
        rw[hy]
        exact rentry_run lat ⟨lkey.toArray⟩ xp lpcs.length cp w0.heap.size lpcs wr (by rw[Lib.size_eq];show lkey.length≤_;omega) rfl (by omega) (fun p hp=>by have:=hspcs p hp;omega) hpcs)
       obtain⟨kb,hkb⟩:∃kb:ByteArray,kb=⟨y.key.toArray⟩:=⟨_,rfl⟩
       obtain⟨vb,hvb⟩:∃vb:ByteArray,vb=⟨y.val.toArray⟩:=⟨_,rfl⟩
       have HEn:=(show Hid (Calls Tryz.prog 84 #[.agg #[.int .i64 (lat:Int),.string ⟨lkey.toArray⟩,.slice xp lpcs.length cp]] wr fun e w'=>e=.returned (.agg #[.string kb,.string vb])∧Bel wr w')from by rw[hkb,hvb];exact HEn.out)
       have HT:=hid H.out.2.1
       obtain⟨xv,cv,rfl,-,-⟩:=row_shape HT.out.row
       have HPlc:=(show Hid (∀W,Bel wr W→Calls Tryz.prog 85 #[.pointer (some ⟨w1.heap.size,0,none⟩),.string kb] W fun e w'=>e=.returned (.tuple #[.int .i64 (rank es y.key:Nat),.bool (foundB es y.key)])∧Bel W w')from fun W hW=>by
        have hkd:kb.data.toList=y.key:=by rw[hkb]
        rw[←hkd]
        exact rplace_run w1.heap.size xv es cv kb W (hW.heap HT.out.blk) (rens_of_row (own_bel HT.out.row hW)).place HT.out.srt HT.out.num)
       have HBW:=hid H.out.1
       have hkz:kb.size=y.key.length:=by rw[hkb];exact Lib.size_eq _
       have hvz:vb.size=y.val.length:=by rw[hvb];exact Lib.size_eq _
       have HVB:=hid (show vb.toList=y.val by rw[ByteArray.toList_eq,hvb])
       have HY:=hid hy
       have hes:=HT.out.num
       have HGa:=hid ca
       have HEC:=hid (show enC y=[.string kb,.string vb]from by rw[hkb,hvb];rfl)
       clear hy H hkb hvb
       by_cases q1:320<y.key.length
       ·have b3:decide ((320:Int)<(kb.size:Int))=true:=decide_eq_true (by omega)
        have HNo:=hid (HPM.out.no HNL.out HT.out.srt (.inl (show okE (entR ⟨lat,lkey,lpcs⟩)=false from by rw[←HY.out];unfold okE;rw[decide_eq_true q1];rfl)))
        go_wp2_with (first|(refine wpList_load_mid rfl 147 (.tmp 62) rfl g (i*3) rfl [.int .i64 (lat:Int),.string ⟨lkey.toArray⟩,.slice xp lpcs.length cp] _ HRng.out Tryz.underlying147 rfl rl_size ?_)|(go_at_call 84;refine HEn.out.mono ?_;rintro _ w2 ⟨rfl,hb2⟩;have HB2:=hid hb2;clear hb2)|(refine wpList_store_blk rfl 82 (.tmp 11) (.tmp 64) rfl w2.heap.size [.string kb,.string vb] rfl rfl ren_size (by simp[Value.oneCell']) [.string ⟨#[]⟩,.string ⟨#[]⟩] _ (heap_alloc_new w2 _) rfl ?_;intro w3 hc3 ho3 hs3 hb3;have HB3:=hid (hb3 w2 ((Bel.refl w2).alloc _) (Nat.le_refl _));have HC3:=hid hc3;have j0:w3.cell? ⟨w2.heap.size,0,none⟩=some (.string kb):=(by rw[Lib.cell_of_heap hc3];rfl);clear hc3 ho3 hs3 hb3)|(go_at_call 85;refine(HPlc.out w3 (HB2.out.trans HB3.out)).mono ?_;rintro _ w4 ⟨rfl,hb4⟩;have HB4:=hid hb4;have HX4:=hid (hb4.heap HC3.out);have HW4:=hid (HB2.out.trans (HB3.out.trans hb4));have k0:w4.cell? ⟨w2.heap.size,0,none⟩=some (.string kb):=(by rw[Lib.cell_of_heap HX4.out];rfl);have k1:w4.cell? ⟨w2.heap.size,1,none⟩=some (.string vb):=(by rw[Lib.cell_of_heap HX4.out];rfl);have k2:w4.cell? ⟨g,i*3,none⟩=some (.int .i64 (lat:Int)):=(bel_cell HW4.out (cell_lt HGa.out)).trans HGa.out;have HT4:=hid (HT.out.next HW4.out);have k3:w4.cell? ⟨w1.heap.size,0,none⟩=some (.slice xv es.length cv):=(by rw[Lib.cell_of_heap HT4.out.blk];rfl);clear hb4))
        go_roundg (gk-1)
        case measure=>have:=Hi.out;omega
        case rel=>exact⟨i+1,lat,61,_,es,rfl,rfl,by go_num,by have:=Hi.out;omega,hid ⟨HBW.out.trans HW4.out,HT4.out,.inr ⟨by decide,HNo.out⟩⟩⟩
       ·have b3:decide ((320:Int)<(kb.size:Int))=false:=decide_eq_false (by omega)
        by_cases q2:y.val=[]
        ·have b4:(vb.toList==[])=true:=by rw[HVB.out,q2];rfl
         have b4':vb.toList=[]:=by rw[HVB.out,q2]
         have HNo:=hid (HPM.out.no HNL.out HT.out.srt (.inl (show okE (entR ⟨lat,lkey,lpcs⟩)=false from by rw[←HY.out];unfold okE;rw[q2];simp)))
         go_wp2_with (first|(refine wpList_load_mid rfl 147 (.tmp 62) rfl g (i*3) rfl [.int .i64 (lat:Int),.string ⟨lkey.toArray⟩,.slice xp lpcs.length cp] _ HRng.out Tryz.underlying147 rfl rl_size ?_)|(go_at_call 84;refine HEn.out.mono ?_;rintro _ w2 ⟨rfl,hb2⟩;have HB2:=hid hb2;clear hb2)|(refine wpList_store_blk rfl 82 (.tmp 11) (.tmp 64) rfl w2.heap.size [.string kb,.string vb] rfl rfl ren_size (by simp[Value.oneCell']) [.string ⟨#[]⟩,.string ⟨#[]⟩] _ (heap_alloc_new w2 _) rfl ?_;intro w3 hc3 ho3 hs3 hb3;have HB3:=hid (hb3 w2 ((Bel.refl w2).alloc _) (Nat.le_refl _));have HC3:=hid hc3;have j0:w3.cell? ⟨w2.heap.size,0,none⟩=some (.string kb):=(by rw[Lib.cell_of_heap hc3];rfl);clear hc3 ho3 hs3 hb3)|(go_at_call 85;refine(HPlc.out w3 (HB2.out.trans HB3.out)).mono ?_;rintro _ w4 ⟨rfl,hb4⟩;have HB4:=hid hb4;have HX4:=hid (hb4.heap HC3.out);have HW4:=hid (HB2.out.trans (HB3.out.trans hb4));have k0:w4.cell? ⟨w2.heap.size,0,none⟩=some (.string kb):=(by rw[Lib.cell_of_heap HX4.out];rfl);have k1:w4.cell? ⟨w2.heap.size,1,none⟩=some (.string vb):=(by rw[Lib.cell_of_heap HX4.out];rfl);have k2:w4.cell? ⟨g,i*3,none⟩=some (.int .i64 (lat:Int)):=(bel_cell HW4.out (cell_lt HGa.out)).trans HGa.out;have HT4:=hid (HT.out.next HW4.out);have k3:w4.cell? ⟨w1.heap.size,0,none⟩=some (.slice xv es.length cv):=(by rw[Lib.cell_of_heap HT4.out.blk];rfl);clear hb4))
         go_roundg (gk-1)
         case measure=>have:=Hi.out;omega
         case rel=>exact⟨i+1,lat,61,_,es,rfl,rfl,by go_num,by have:=Hi.out;omega,hid ⟨HBW.out.trans HW4.out,HT4.out,.inr ⟨by decide,HNo.out⟩⟩⟩
        ·have b4':¬vb.toList=[]:=by rw[HVB.out];exact q2
         have b4:(vb.toList==[])=false:=by simpa using b4'
         by_cases q3:1000<y.val.length
         ·have b5:decide ((1000:Int)<(vb.size:Int))=true:=decide_eq_true (by omega)
          have HNo:=hid (HPM.out.no HNL.out HT.out.srt (.inl (show okE (entR ⟨lat,lkey,lpcs⟩)=false from by rw[←HY.out];unfold okE;rw[decide_eq_true q3];simp)))
          go_wp2_with (first|(refine wpList_load_mid rfl 147 (.tmp 62) rfl g (i*3) rfl [.int .i64 (lat:Int),.string ⟨lkey.toArray⟩,.slice xp lpcs.length cp] _ HRng.out Tryz.underlying147 rfl rl_size ?_)|(go_at_call 84;refine HEn.out.mono ?_;rintro _ w2 ⟨rfl,hb2⟩;have HB2:=hid hb2;clear hb2)|(refine wpList_store_blk rfl 82 (.tmp 11) (.tmp 64) rfl w2.heap.size [.string kb,.string vb] rfl rfl ren_size (by simp[Value.oneCell']) [.string ⟨#[]⟩,.string ⟨#[]⟩] _ (heap_alloc_new w2 _) rfl ?_;intro w3 hc3 ho3 hs3 hb3;have HB3:=hid (hb3 w2 ((Bel.refl w2).alloc _) (Nat.le_refl _));have HC3:=hid hc3;have j0:w3.cell? ⟨w2.heap.size,0,none⟩=some (.string kb):=(by rw[Lib.cell_of_heap hc3];rfl);clear hc3 ho3 hs3 hb3)|(go_at_call 85;refine(HPlc.out w3 (HB2.out.trans HB3.out)).mono ?_;rintro _ w4 ⟨rfl,hb4⟩;have HB4:=hid hb4;have HX4:=hid (hb4.heap HC3.out);have HW4:=hid (HB2.out.trans (HB3.out.trans hb4));have k0:w4.cell? ⟨w2.heap.size,0,none⟩=some (.string kb):=(by rw[Lib.cell_of_heap HX4.out];rfl);have k1:w4.cell? ⟨w2.heap.size,1,none⟩=some (.string vb):=(by rw[Lib.cell_of_heap HX4.out];rfl);have k2:w4.cell? ⟨g,i*3,none⟩=some (.int .i64 (lat:Int)):=(bel_cell HW4.out (cell_lt HGa.out)).trans HGa.out;have HT4:=hid (HT.out.next HW4.out);have k3:w4.cell? ⟨w1.heap.size,0,none⟩=some (.slice xv es.length cv):=(by rw[Lib.cell_of_heap HT4.out.blk];rfl);clear hb4))
          go_roundg (gk-1)
          case measure=>have:=Hi.out;omega
          case rel=>exact⟨i+1,lat,61,_,es,rfl,rfl,by go_num,by have:=Hi.out;omega,hid ⟨HBW.out.trans HW4.out,HT4.out,.inr ⟨by decide,HNo.out⟩⟩⟩
         ·have b5:decide ((1000:Int)<(vb.size:Int))=false:=decide_eq_false (by omega)
          have HOk:=hid (show okE y=true from by
           unfold okE
           rw[decide_eq_false q1,decide_eq_false q3]
           cases hx:y.val with
           |nil=>exact absurd hx q2
           |cons b l=>rfl)
          cases q4:foundB es y.key with
          |true=>
           rw[q4]at HPlc
           have HNo:=hid (HPM.out.no HNL.out HT.out.srt (.inr (.inl (by rw[←HY.out];exact q4))))
           go_wp2_with (first|(refine wpList_load_mid rfl 147 (.tmp 62) rfl g (i*3) rfl [.int .i64 (lat:Int),.string ⟨lkey.toArray⟩,.slice xp lpcs.length cp] _ HRng.out Tryz.underlying147 rfl rl_size ?_)|(go_at_call 84;refine HEn.out.mono ?_;rintro _ w2 ⟨rfl,hb2⟩;have HB2:=hid hb2;clear hb2)|(refine wpList_store_blk rfl 82 (.tmp 11) (.tmp 64) rfl w2.heap.size [.string kb,.string vb] rfl rfl ren_size (by simp[Value.oneCell']) [.string ⟨#[]⟩,.string ⟨#[]⟩] _ (heap_alloc_new w2 _) rfl ?_;intro w3 hc3 ho3 hs3 hb3;have HB3:=hid (hb3 w2 ((Bel.refl w2).alloc _) (Nat.le_refl _));have HC3:=hid hc3;have j0:w3.cell? ⟨w2.heap.size,0,none⟩=some (.string kb):=(by rw[Lib.cell_of_heap hc3];rfl);clear hc3 ho3 hs3 hb3)|(go_at_call 85;refine(HPlc.out w3 (HB2.out.trans HB3.out)).mono ?_;rintro _ w4 ⟨rfl,hb4⟩;have HB4:=hid hb4;have HX4:=hid (hb4.heap HC3.out);have HW4:=hid (HB2.out.trans (HB3.out.trans hb4));have k0:w4.cell? ⟨w2.heap.size,0,none⟩=some (.string kb):=(by rw[Lib.cell_of_heap HX4.out];rfl);have k1:w4.cell? ⟨w2.heap.size,1,none⟩=some (.string vb):=(by rw[Lib.cell_of_heap HX4.out];rfl);have k2:w4.cell? ⟨g,i*3,none⟩=some (.int .i64 (lat:Int)):=(bel_cell HW4.out (cell_lt HGa.out)).trans HGa.out;have HT4:=hid (HT.out.next HW4.out);have k3:w4.cell? ⟨w1.heap.size,0,none⟩=some (.slice xv es.length cv):=(by rw[Lib.cell_of_heap HT4.out.blk];rfl);clear hb4))
           go_roundg (gk-1)
           case measure=>have:=Hi.out;omega
           case rel=>exact⟨i+1,lat,63,_,es,rfl,rfl,by go_num,by have:=Hi.out;omega,hid ⟨HBW.out.trans HW4.out,HT4.out,.inr ⟨by decide,HNo.out⟩⟩⟩
          |false=>
           rw[q4]at HPlc
           have HQ4:=hid q4
           clear q4
           by_cases q5:es.length=2000
           ·have b6:decide ((2000:Int)≤(es.length:Int))=true:=decide_eq_true (by omega)
            have HNo:=hid (HPM.out.no HNL.out HT.out.srt (.inr (.inr q5)))
            go_wp2_with (first|(refine wpList_load_mid rfl 147 (.tmp 62) rfl g (i*3) rfl [.int .i64 (lat:Int),.string ⟨lkey.toArray⟩,.slice xp lpcs.length cp] _ HRng.out Tryz.underlying147 rfl rl_size ?_)|(go_at_call 84;refine HEn.out.mono ?_;rintro _ w2 ⟨rfl,hb2⟩;have HB2:=hid hb2;clear hb2)|(refine wpList_store_blk rfl 82 (.tmp 11) (.tmp 64) rfl w2.heap.size [.string kb,.string vb] rfl rfl ren_size (by simp[Value.oneCell']) [.string ⟨#[]⟩,.string ⟨#[]⟩] _ (heap_alloc_new w2 _) rfl ?_;intro w3 hc3 ho3 hs3 hb3;have HB3:=hid (hb3 w2 ((Bel.refl w2).alloc _) (Nat.le_refl _));have HC3:=hid hc3;have j0:w3.cell? ⟨w2.heap.size,0,none⟩=some (.string kb):=(by rw[Lib.cell_of_heap hc3];rfl);clear hc3 ho3 hs3 hb3)|(go_at_call 85;refine(HPlc.out w3 (HB2.out.trans HB3.out)).mono ?_;rintro _ w4 ⟨rfl,hb4⟩;have HB4:=hid hb4;have HX4:=hid (hb4.heap HC3.out);have HW4:=hid (HB2.out.trans (HB3.out.trans hb4));have k0:w4.cell? ⟨w2.heap.size,0,none⟩=some (.string kb):=(by rw[Lib.cell_of_heap HX4.out];rfl);have k1:w4.cell? ⟨w2.heap.size,1,none⟩=some (.string vb):=(by rw[Lib.cell_of_heap HX4.out];rfl);have k2:w4.cell? ⟨g,i*3,none⟩=some (.int .i64 (lat:Int)):=(bel_cell HW4.out (cell_lt HGa.out)).trans HGa.out;have HT4:=hid (HT.out.next HW4.out);have k3:w4.cell? ⟨w1.heap.size,0,none⟩=some (.slice xv es.length cv):=(by rw[Lib.cell_of_heap HT4.out.blk];rfl);clear hb4))
            go_roundg (gk-1)
            case measure=>have:=Hi.out;omega
            case rel=>exact⟨i+1,lat,62,_,es,rfl,rfl,by go_num,by have:=Hi.out;omega,hid ⟨HBW.out.trans HW4.out,HT4.out,.inr ⟨by decide,HNo.out⟩⟩⟩
           ·have b6:decide ((2000:Int)≤(es.length:Int))=false:=decide_eq_false (by omega)
            have HPN:=hid (show PM s.data.toList ((rsAll s.data.toList).out.drop (i+1)) (es.take (rank es y.key)++y::es.drop (rank es y.key)) code at_ from by
             have:=HPM.out.ok HT.out.srt (by rw[←HY.out];exact HOk.out) (by rw[←HY.out];exact HQ4.out) q5
             rw[←HY.out]at this
             exact this)
            have HPut:=hid (fun w7 v'=>RTab.put (base:=w1.heap.size) (tb:=w1.heap.size) (w7:=w7) (v':=v') HT.out HQ4.out q5)
            have hkn:=rank_le es y.key
            obtain⟨i0,hi0,hz0,hz1,hz2⟩:=info_parts ren_infos
            have htk1:=enCs_take es (rank es y.key)
            have htd1:=enCs_drop es (rank es y.key)
            have HTK:=hid htk1
            have HTD:=hid htd1
            have hl1:(enCs (es.take (rank es y.key))).length=rank es y.key*2:=by rw[enCs_len,List.length_take,Nat.min_eq_left hkn]
            have hl2:(enCs (es.drop (rank es y.key))).length=(es.length-rank es y.key)*2:=by rw[enCs_len,List.length_drop]
            clear htk1 htd1
            rcases HT.out.row.2 with⟨hv,h0⟩|⟨g2,cap,cur,hv,hbg,hh,hnc,hcm,hcs,htk⟩
            ·obtain⟨rfl,-,rfl⟩:=Value.slice.inj hv
             obtain rfl:=List.eq_nil_of_length_eq_zero h0
             have hr0:rank ([]:List En) y.key=0:=rfl
             rw[hr0]at HPlc HPN HPut
             clear hl1 hl2 HTK HTD hkn
             have HX1:=(show Hid (∀u∈([.string kb,.string vb]:List Value).toArray.toList,u.oneCell'=true)from hid (by intro u hu;simp at hu;rcases hu with rfl|rfl<;>rfl))
             go_wp2_with (first|(refine wpList_load_mid rfl 147 (.tmp 62) rfl g (i*3) rfl [.int .i64 (lat:Int),.string ⟨lkey.toArray⟩,.slice xp lpcs.length cp] _ HRng.out Tryz.underlying147 rfl rl_size ?_)|(go_at_call 84;refine HEn.out.mono ?_;rintro _ w2 ⟨rfl,hb2⟩;have HB2:=hid hb2;clear hb2)|(refine wpList_store_blk rfl 82 (.tmp 11) (.tmp 64) rfl w2.heap.size [.string kb,.string vb] rfl rfl ren_size (by simp[Value.oneCell']) [.string ⟨#[]⟩,.string ⟨#[]⟩] _ (heap_alloc_new w2 _) rfl ?_;intro w3 hc3 ho3 hs3 hb3;have HB3:=hid (hb3 w2 ((Bel.refl w2).alloc _) (Nat.le_refl _));have HC3:=hid hc3;have j0:w3.cell? ⟨w2.heap.size,0,none⟩=some (.string kb):=(by rw[Lib.cell_of_heap hc3];rfl);clear hc3 ho3 hs3 hb3)|(go_at_call 85;refine(HPlc.out w3 (HB2.out.trans HB3.out)).mono ?_;rintro _ w4 ⟨rfl,hb4⟩;have HB4:=hid hb4;have HX4:=hid (hb4.heap HC3.out);have HW4:=hid (HB2.out.trans (HB3.out.trans hb4));have k0:w4.cell? ⟨w2.heap.size,0,none⟩=some (.string kb):=(by rw[Lib.cell_of_heap HX4.out];rfl);have k1:w4.cell? ⟨w2.heap.size,1,none⟩=some (.string vb):=(by rw[Lib.cell_of_heap HX4.out];rfl);have k2:w4.cell? ⟨g,i*3,none⟩=some (.int .i64 (lat:Int)):=(bel_cell HW4.out (cell_lt HGa.out)).trans HGa.out;have HT4:=hid (HT.out.next HW4.out);have k3:w4.cell? ⟨w1.heap.size,0,none⟩=some (.slice none 0 0):=(by rw[Lib.cell_of_heap HT4.out.blk];rfl);clear hb4)|(refine wpList_load_mid rfl 82 (.tmp 11) rfl w2.heap.size 0 rfl [.string kb,.string vb] _ (Ci.range_of HX4.out fun j v hv=>by rw[Nat.zero_add];exact hv) Tryz.underlying82 rfl ren_size ?_)|(at_builtin;(refine wpList_push_at (W:=w4) rfl (.tmp 80) (.tmp 82) 78 rfl 82 (.agg #[.string ⟨#[]⟩,.string ⟨#[]⟩]) 2 32 Tryz.underlying78 ren_infos rfl (by decide) w4.heap.size (.slice none 0 0) 0 _ (by rfl) (World.ownsRow_nil _ _ _ _) (Nat.le_refl _) ([.string kb,.string vb]:List Value).toArray (by rfl) (by rfl) HX1.out (by unfold maxLen;omega) (by omega) ?_);intro v6 w6 hown6 hg6 _;obtain⟨x6,c6,rfl,-,-⟩:=row_shape hown6;have HO6:=hid hown6;have HB6:=hid (Ci.Bel.grown (v:=.slice none 0 0) (e:=82) (size:=2) ((Bel.refl w4).alloc _) hg6 (World.ownsRow_nil _ _ _ _));have kk:w6.cell? ⟨w1.heap.size,0,none⟩=some (.slice none 0 0):=(by rw[Lib.cell_of_heap (HB6.out.heap HT4.out.blk)];rfl);have kf:w6.frozen? ⟨w1.heap.size,0,none⟩=false:=Lib.frozen_of_heap (HB6.out.heap HT4.out.blk) 0;clear hown6 hg6)|(at_builtin;refine wpList_append_own_none rfl (.tmp 85) (.tmp 91) 78 rfl w4.heap.size 82 i0 2 Tryz.underlying78 hi0 (.slice x6 (0+1) c6) 1 _ (by rfl) HO6.out (by rfl) ?_))
             have hb6:=HB6.out.heap HT4.out.blk
             have hlt4:w1.heap.size<w4.heap.size:=(Array.getElem?_eq_some_iff.1 HT4.out.blk).1
             have HRT:=hid (HPut.out (w6.setCell ⟨w1.heap.size,0,none⟩ (.slice x6 1 c6)) (.slice x6 1 c6) (heap_setCell_same _ _ _ _ _ _ hb6) (own_base (own_keep (show w6.ownsRow w4.heap.size 82 2 (.slice x6 1 c6) (0+1) _ from by rw[HEC.out];exact HO6.out) fun r hr=>heap_setCell_other _ _ _ _ fun e=>by have h1:=(own_lt HO6.out hr).1;have e:r=w1.heap.size:=e;omega) (by omega)))
             go_roundg (gk-1)
             case measure=>have:=Hi.out;omega
             case rel=>exact⟨i+1,at_,code,_,_,rfl,rfl,by go_num,by have:=Hi.out;omega,hid ⟨((HBW.out.trans HW4.out).trans HB6.out).setCell (Nat.le_refl _) _,HRT.out,HPN.out⟩⟩
            ·obtain⟨rfl,-,rfl⟩:=Value.slice.inj hv
             have hbw:=(Array.getElem?_eq_some_iff.1 hh).1
             have HSrc:=hid (show∀W,Bel wr W→∀j u,(enCs es)[j]?=some u→W.cell? ⟨g2,j,none⟩=some u from fun W hW j u hj=>by
              rw[Lib.cell_of_heap (hW.heap hh)]
              rw[←htk,List.getElem?_take]at hj
              split at hj
              ·simpa using hj
              ·cases hj)
             rw[HTK.out]at HTK
             generalize hr:rank es y.key=k at HPlc HPN HPut hkn hl1 hl2
             have HR:=hid hr
             have HN1:=hid (show∀W,Bel wr W→∀j u,(enCs (es.take k))[j]?=some u→W.cell? ((⟨g2,0,none⟩:Addr).add j)=some u from fun W hW j u hj=>by
              rw[addr_add,Nat.zero_add]
              refine HSrc.out W hW j u ?_
              rw[←enCs_take,List.getElem?_take]at hj
              split at hj
              ·exact hj
              ·cases hj)
             have HN2:=hid (show∀W,Bel wr W→∀j u,(enCs (es.drop k))[j]?=some u→W.cell? ((⟨g2,k*2,none⟩:Addr).add j)=some u from fun W hW j u hj=>by
              rw[addr_add]
              refine HSrc.out W hW _ u ?_
              rw[←enCs_drop,List.getElem?_drop]at hj
              exact hj)
             clear hr HTK HTD htk hcs hh
             have HE1:=(show Hid (∀u∈enCs (es.take k),u.oneCell'=true)from hid (enCs_one _))
             have HE2:=(show Hid (∀u∈enCs (es.drop k),u.oneCell'=true)from hid (enCs_one _))
             have HX1:=(show Hid (∀u∈([.string kb,.string vb]:List Value).toArray.toList,u.oneCell'=true)from hid (by intro u hu;simp at hu;rcases hu with rfl|rfl<;>rfl))
             have hcapm:cv≤9223372036854775807:=by unfold maxLen at hcm;omega
             have hkc:k≤cv:=Nat.le_trans hkn hnc
             by_cases hck:k<cv
             ·have q7:¬cv=k:=by omega
              have q8:¬cv≤k:=by omega
              have q9:¬cv-k=0:=by omega
              go_wp2_with (first|(refine wpList_load_mid rfl 147 (.tmp 62) rfl g (i*3) rfl [.int .i64 (lat:Int),.string ⟨lkey.toArray⟩,.slice xp lpcs.length cp] _ HRng.out Tryz.underlying147 rfl rl_size ?_)|(go_at_call 84;refine HEn.out.mono ?_;rintro _ w2 ⟨rfl,hb2⟩;have HB2:=hid hb2;clear hb2)|(refine wpList_store_blk rfl 82 (.tmp 11) (.tmp 64) rfl w2.heap.size [.string kb,.string vb] rfl rfl ren_size (by simp[Value.oneCell']) [.string ⟨#[]⟩,.string ⟨#[]⟩] _ (heap_alloc_new w2 _) rfl ?_;intro w3 hc3 ho3 hs3 hb3;have HB3:=hid (hb3 w2 ((Bel.refl w2).alloc _) (Nat.le_refl _));have HC3:=hid hc3;have j0:w3.cell? ⟨w2.heap.size,0,none⟩=some (.string kb):=(by rw[Lib.cell_of_heap hc3];rfl);clear hc3 ho3 hs3 hb3)|(go_at_call 85;refine(HPlc.out w3 (HB2.out.trans HB3.out)).mono ?_;rintro _ w4 ⟨rfl,hb4⟩;have HB4:=hid hb4;have HX4:=hid (hb4.heap HC3.out);have HW4:=hid (HB2.out.trans (HB3.out.trans hb4));have k0:w4.cell? ⟨w2.heap.size,0,none⟩=some (.string kb):=(by rw[Lib.cell_of_heap HX4.out];rfl);have k1:w4.cell? ⟨w2.heap.size,1,none⟩=some (.string vb):=(by rw[Lib.cell_of_heap HX4.out];rfl);have k2:w4.cell? ⟨g,i*3,none⟩=some (.int .i64 (lat:Int)):=(bel_cell HW4.out (cell_lt HGa.out)).trans HGa.out;have HT4:=hid (HT.out.next HW4.out);have k3:w4.cell? ⟨w1.heap.size,0,none⟩=some (.slice (some ⟨g2,0,none⟩) es.length cv):=(by rw[Lib.cell_of_heap HT4.out.blk];rfl);clear hb4)|(at_builtin;refine wpList_append_own _ rfl (.tmp 72) (.tmp 78) 78 rfl w4.heap.size 82 i0 _ 2 32 Tryz.underlying78 hi0 hz0 hz1 hz2 rfl (by decide) (.slice none 0 0) 0 [] (by rfl) (World.ownsRow_nil _ _ _ _) ⟨g2,0,none⟩ k cv (enCs (es.take k)) (by rfl) hl1 (HN1.out w4 HW4.out) HE1.out (by unfold maxLen;omega) (by omega) (Nat.le_refl _) ?_;intro v5 w5 hown5 hg5 _;rw[Nat.zero_add,List.nil_append]at hown5;obtain⟨x5',c5',rfl,-,-⟩:=row_shape hown5;have HO5:=hid hown5;have HB5:=hid (Ci.Bel.grown (v:=.slice none 0 0) (e:=82) (size:=2) (Bel.refl w4) hg5 (World.ownsRow_nil _ _ _ _));clear hown5 hg5)|(refine wpList_load_mid rfl 82 (.tmp 11) rfl w2.heap.size 0 rfl [.string kb,.string vb] _ (Ci.range_of (HB5.out.heap HX4.out) fun j v hv=>by rw[Nat.zero_add];exact hv) Tryz.underlying82 rfl ren_size ?_)|(at_builtin;(refine wpList_push_at (W:=w5) rfl (.tmp 80) (.tmp 82) 78 rfl 82 (.agg #[.string ⟨#[]⟩,.string ⟨#[]⟩]) 2 32 Tryz.underlying78 ren_infos rfl (by decide) w4.heap.size (.slice x5' k c5') k _ (by rfl) HO5.out HB5.out.size ([.string kb,.string vb]:List Value).toArray (by rfl) (by rfl) HX1.out (by unfold maxLen;omega) (by omega) ?_);intro v6 w6 hown6 hg6 _;obtain⟨x6,c6,rfl,-,-⟩:=row_shape hown6;have HO6:=hid hown6;have HB6:=hid (Ci.Bel.grown (HB5.out.alloc _) hg6 (HO5.out.alloc _));have kk:w6.cell? ⟨w1.heap.size,0,none⟩=some (.slice (some ⟨g2,0,none⟩) es.length cv):=(by rw[Lib.cell_of_heap (HB6.out.heap HT4.out.blk)];rfl);have kf:w6.frozen? ⟨w1.heap.size,0,none⟩=false:=Lib.frozen_of_heap (HB6.out.heap HT4.out.blk) 0;clear hown6 hg6)|(at_builtin;refine wpList_append_own _ rfl (.tmp 85) (.tmp 91) 78 rfl w4.heap.size 82 i0 _ 2 32 Tryz.underlying78 hi0 hz0 hz1 hz2 rfl (by decide) (.slice x6 (k+1) c6) (k+1) _ (by rfl) HO6.out ⟨g2,k*2,none⟩ (es.length-k) (cv-k) (enCs (es.drop k)) (by rfl) hl2 (HN2.out w6 (HW4.out.trans HB6.out)) HE2.out (by unfold maxLen;omega) (by omega) HB6.out.size ?_;intro v7 w7 hown7 hg7 _;rw[show k+1+(es.length-k)=es.length+1 by omega]at hown7;obtain⟨x7,c7,rfl,-,-⟩:=row_shape hown7;have HO7:=hid hown7;have HB7:=hid (Ci.Bel.grown HB6.out hg7 HO6.out);have ku:w7.cell? ⟨w1.heap.size,0,none⟩=some (.slice (some ⟨g2,0,none⟩) es.length cv):=(by rw[Lib.cell_of_heap (HB7.out.heap HT4.out.blk)];rfl);have kw:w7.frozen? ⟨w1.heap.size,0,none⟩=false:=Lib.frozen_of_heap (HB7.out.heap HT4.out.blk) 0;clear hown7 hg7))
              have hb7:=HB7.out.heap HT4.out.blk
              have hlt4:w1.heap.size<w4.heap.size:=(Array.getElem?_eq_some_iff.1 HT4.out.blk).1
              have HRT:=hid (HPut.out (w7.setCell ⟨w1.heap.size,0,none⟩ (.slice x7 (es.length+1) c7)) (.slice x7 (es.length+1) c7) (heap_setCell_same _ _ _ _ _ _ hb7) (own_base (own_keep (show w7.ownsRow w4.heap.size 82 2 (.slice x7 (es.length+1) c7) (es.length+1) _ from by rw[HEC.out];exact HO7.out) fun r hr=>heap_setCell_other _ _ _ _ fun e=>by have h1:=(own_lt HO7.out hr).1;have e:r=w1.heap.size:=e;omega) (by omega)))
              go_roundg (gk-1)
              case measure=>have:=Hi.out;omega
              case rel=>exact⟨i+1,at_,code,_,_,rfl,rfl,by go_num,by have:=Hi.out;omega,hid ⟨((HBW.out.trans HW4.out).trans HB7.out).setCell (Nat.le_refl _) _,HRT.out,HPN.out⟩⟩
             ·have hkn2:es.length=k:=by omega
              have hcv:k=cv:=by omega
              subst hcv
              go_wp2_with (first|(refine wpList_load_mid rfl 147 (.tmp 62) rfl g (i*3) rfl [.int .i64 (lat:Int),.string ⟨lkey.toArray⟩,.slice xp lpcs.length cp] _ HRng.out Tryz.underlying147 rfl rl_size ?_)|(go_at_call 84;refine HEn.out.mono ?_;rintro _ w2 ⟨rfl,hb2⟩;have HB2:=hid hb2;clear hb2)|(refine wpList_store_blk rfl 82 (.tmp 11) (.tmp 64) rfl w2.heap.size [.string kb,.string vb] rfl rfl ren_size (by simp[Value.oneCell']) [.string ⟨#[]⟩,.string ⟨#[]⟩] _ (heap_alloc_new w2 _) rfl ?_;intro w3 hc3 ho3 hs3 hb3;have HB3:=hid (hb3 w2 ((Bel.refl w2).alloc _) (Nat.le_refl _));have HC3:=hid hc3;have j0:w3.cell? ⟨w2.heap.size,0,none⟩=some (.string kb):=(by rw[Lib.cell_of_heap hc3];rfl);clear hc3 ho3 hs3 hb3)|(go_at_call 85;refine(HPlc.out w3 (HB2.out.trans HB3.out)).mono ?_;rintro _ w4 ⟨rfl,hb4⟩;have HB4:=hid hb4;have HX4:=hid (hb4.heap HC3.out);have HW4:=hid (HB2.out.trans (HB3.out.trans hb4));have k0:w4.cell? ⟨w2.heap.size,0,none⟩=some (.string kb):=(by rw[Lib.cell_of_heap HX4.out];rfl);have k1:w4.cell? ⟨w2.heap.size,1,none⟩=some (.string vb):=(by rw[Lib.cell_of_heap HX4.out];rfl);have k2:w4.cell? ⟨g,i*3,none⟩=some (.int .i64 (lat:Int)):=(bel_cell HW4.out (cell_lt HGa.out)).trans HGa.out;have HT4:=hid (HT.out.next HW4.out);have k3:w4.cell? ⟨w1.heap.size,0,none⟩=some (.slice (some ⟨g2,0,none⟩) k k):=(by rw[Lib.cell_of_heap HT4.out.blk,hkn2];rfl);clear hb4)|(at_builtin;refine wpList_append_own _ rfl (.tmp 72) (.tmp 78) 78 rfl w4.heap.size 82 i0 _ 2 32 Tryz.underlying78 hi0 hz0 hz1 hz2 rfl (by decide) (.slice none 0 0) 0 [] (by rfl) (World.ownsRow_nil _ _ _ _) ⟨g2,0,none⟩ k k (enCs (es.take k)) (by rfl) hl1 (HN1.out w4 HW4.out) HE1.out (by unfold maxLen;omega) (by omega) (Nat.le_refl _) ?_;intro v5 w5 hown5 hg5 _;rw[Nat.zero_add,List.nil_append]at hown5;obtain⟨x5',c5',rfl,-,-⟩:=row_shape hown5;have HO5:=hid hown5;have HB5:=hid (Ci.Bel.grown (v:=.slice none 0 0) (e:=82) (size:=2) (Bel.refl w4) hg5 (World.ownsRow_nil _ _ _ _));clear hown5 hg5)|(refine wpList_load_mid rfl 82 (.tmp 11) rfl w2.heap.size 0 rfl [.string kb,.string vb] _ (Ci.range_of (HB5.out.heap HX4.out) fun j v hv=>by rw[Nat.zero_add];exact hv) Tryz.underlying82 rfl ren_size ?_)|(at_builtin;(refine wpList_push_at (W:=w5) rfl (.tmp 80) (.tmp 82) 78 rfl 82 (.agg #[.string ⟨#[]⟩,.string ⟨#[]⟩]) 2 32 Tryz.underlying78 ren_infos rfl (by decide) w4.heap.size (.slice x5' k c5') k _ (by rfl) HO5.out HB5.out.size ([.string kb,.string vb]:List Value).toArray (by rfl) (by rfl) HX1.out (by unfold maxLen;omega) (by omega) ?_);intro v6 w6 hown6 hg6 _;obtain⟨x6,c6,rfl,-,-⟩:=row_shape hown6;have HO6:=hid hown6;have HB6:=hid (Ci.Bel.grown (HB5.out.alloc _) hg6 (HO5.out.alloc _));have kk:w6.cell? ⟨w1.heap.size,0,none⟩=some (.slice (some ⟨g2,0,none⟩) k k):=(by rw[Lib.cell_of_heap (HB6.out.heap HT4.out.blk),hkn2];rfl);have kf:w6.frozen? ⟨w1.heap.size,0,none⟩=false:=Lib.frozen_of_heap (HB6.out.heap HT4.out.blk) 0;clear hown6 hg6)|(at_builtin;refine wpList_append_own _ rfl (.tmp 85) (.tmp 91) 78 rfl w4.heap.size 82 i0 _ 2 32 Tryz.underlying78 hi0 hz0 hz1 hz2 rfl (by decide) (.slice x6 (k+1) c6) (k+1) _ (by rfl) HO6.out ⟨g2,0,none⟩ 0 0 [] (by rfl) rfl (fun j u hu=>by simp at hu) (fun u hu=>by simp at hu) (by unfold maxLen;omega) (by omega) HB6.out.size ?_;intro v7 w7 hown7 hg7 _;rw[Nat.add_zero,List.append_nil]at hown7;obtain⟨x7,c7,rfl,-,-⟩:=row_shape hown7;have HO7:=hid hown7;have HB7:=hid (Ci.Bel.grown HB6.out hg7 HO6.out);have ku:w7.cell? ⟨w1.heap.size,0,none⟩=some (.slice (some ⟨g2,0,none⟩) k k):=(by rw[Lib.cell_of_heap (HB7.out.heap HT4.out.blk),hkn2];rfl);have kw:w7.frozen? ⟨w1.heap.size,0,none⟩=false:=Lib.frozen_of_heap (HB7.out.heap HT4.out.blk) 0;clear hown7 hg7))
              have hb7:=HB7.out.heap HT4.out.blk
              have hlt4:w1.heap.size<w4.heap.size:=(Array.getElem?_eq_some_iff.1 HT4.out.blk).1
              have HRT:=hid (HPut.out (w7.setCell ⟨w1.heap.size,0,none⟩ (.slice x7 (k+1) c7)) (.slice x7 (k+1) c7) (heap_setCell_same _ _ _ _ _ _ hb7) (own_base (own_keep (show w7.ownsRow w4.heap.size 82 2 (.slice x7 (k+1) c7) (es.length+1) _ from by rw[HEC.out,show es.drop k=[]from by rw[←hkn2];exact List.drop_length,show enCs ([]:List En)=[]from rfl,List.append_nil,hkn2];exact HO7.out) fun r hr=>heap_setCell_other _ _ _ _ fun e=>by have h1:=(own_lt HO7.out hr).1;have e:r=w1.heap.size:=e;omega) (by omega)))
              go_roundg (gk-1)
              case measure=>have:=Hi.out;omega
              case rel=>exact⟨i+1,at_,code,_,_,rfl,rfl,by go_num,by have:=Hi.out;omega,hid ⟨((HBW.out.trans HW4.out).trans HB7.out).setCell (Nat.le_refl _) _,HRT.out,HPN.out⟩⟩
      ·have b2:decide ((lat:Int)<at_)=false:=decide_eq_false hat
       have hcne:code≠0:=fun e=>by
        have:=HPM.out.at_eq e
        rw[←HSZ.out]at this
        omega
       have HBW:=hid H.out.1
       clear H
       have HNo:=hid (HPM.out.bad hcne)
       have bc:(code==0)=false:=by simpa using hcne
       have HF:=hid ((HB1.out.trans HBW.out).heap HFA.out)
       have HBL:=hid ((HB0.out.trans HB1.out).trans HBW.out)
       go_wp2_with (first|(refine wpList_store_blk rfl 62 (.tmp 3) (.tmp 129) rfl w.heap.size [.int .i64 code,.int .i64 at_] rfl rfl flt_size (by simp[Value.oneCell']) [.int .i64 0,.int .i64 0] _ HF.out rfl ?_;intro w9 hc9 ho9 hs9 hb9;have HB9:=hid (hb9 w HBL.out (Nat.le_refl _));have HC9:=hid hc9;clear ho9 hs9 hb9 hc9))
       have hl2:=load_flt (cs:=[.int .i64 code,.int .i64 at_]) HC9.out rfl
       exact bodyPost_ret (v:=.tuple #[.pointer none,.agg ([.int .i64 code,.int .i64 at_]:List Value).toArray]) (by simp[results,Tryz.results34,asAddr,hl2]) rfl (rparse_none HNo.out hcne HB9.out)
     ·obtain rfl:i=m:=by omega
      have HPM:=hid H.out.2.2
      have HBW:=hid H.out.1
      have HT:=hid H.out.2.1
      rw[show(rsAll s.data.toList).out.drop i=[]from by rw[←HE1.out,←HMl.out];simp]at HPM
      clear H
      by_cases hcne:code=0
      ·subst hcne
       have HSm:=hid (HPM.out.good HNL.out rfl)
       have HF:=hid ((HB1.out.trans HBW.out).heap HFA.out)
       have HBL:=hid ((HB0.out.trans HB1.out).trans HBW.out)
       have hlt1:w.heap.size<w1.heap.size:=(Array.getElem?_eq_some_iff.1 (HB1.out.heap HFA.out)).1
       go_wp2_with (first|(refine wpList_store_blk rfl 62 (.tmp 3) (.tmp 131) rfl w.heap.size [.int .i64 0,.int .i64 0] rfl rfl flt_size (by simp[Value.oneCell']) [.int .i64 0,.int .i64 0] _ HF.out rfl ?_;intro w9 hc9 ho9 hs9 hb9;have HB9:=hid (hb9 w HBL.out (Nat.le_refl _));have HC9:=hid hc9;have HO9:=hid ho9;clear ho9 hs9 hb9 hc9))
       have hl2:=load_flt (cs:=[.int .i64 0,.int .i64 0]) HC9.out rfl
       refine bodyPost_ret (v:=.tuple #[.pointer (some ⟨w1.heap.size,0,none⟩),.agg ([.int .i64 0,.int .i64 0]:List Value).toArray]) (by simp[results,Tryz.results34,asAddr,hl2,Act.put]) rfl (rparse_some HSm.out HB9.out ?_)
       exact RTab.done (base:=w1.heap.size) (v:=v) ⟨(HO9.out _ (by omega)).trans HT.out.blk,own_keep HT.out.row fun r hr=>HO9.out r (by have:=(own_lt HT.out.row hr).1;omega),HT.out.srt,HT.out.num⟩
      ·have hcne:code≠0:=hcne
       have HNo:=hid (HPM.out.bad hcne)
       have bc:(code==0)=false:=by simpa using hcne
       have HF:=hid ((HB1.out.trans HBW.out).heap HFA.out)
       have HBL:=hid ((HB0.out.trans HB1.out).trans HBW.out)
       go_wp2_with (first|(refine wpList_store_blk rfl 62 (.tmp 3) (.tmp 129) rfl w.heap.size [.int .i64 code,.int .i64 at_] rfl rfl flt_size (by simp[Value.oneCell']) [.int .i64 0,.int .i64 0] _ HF.out rfl ?_;intro w9 hc9 ho9 hs9 hb9;have HB9:=hid (hb9 w HBL.out (Nat.le_refl _));have HC9:=hid hc9;clear ho9 hs9 hb9 hc9))
       have hl2:=load_flt (cs:=[.int .i64 code,.int .i64 at_]) HC9.out rfl
       exact bodyPost_ret (v:=.tuple #[.pointer none,.agg ([.int .i64 code,.int .i64 at_]:List Value).toArray]) (by simp[results,Tryz.results34,asAddr,hl2,Act.put]) rfl (rparse_none HNo.out hcne HB9.out)
end Go.Proofs.YtmlmkmhkmifnkaaGreatDoor.Tb
namespace Go.Proofs.YtmlmkmhkmifnkaaGreatDoor.Tb
open Go.RowKit
open Ma (lowB lowL)
open Ci (splitL)
theorem low_high(b:UInt8)(l:List UInt8)(hb:128≤b.toNat):∃x∈(if 0≤lowI ((Lib.decodeL (b::l)).1:Int)then Lib.encodeRune (lowI ((Lib.decodeL (b::l)).1:Int))else[]),128≤x.toNat:=by
 by_cases hv:(Lib.decodeL (b::l)).1=65533∧(Lib.decodeL (b::l)).2=1
 ·rw[hv.1]
  refine⟨239,by decide+kernel,by decide⟩
 ·have he:=Lib.encode_decode (b::l) (by simp) hv
  have hw:=Lib.decodeL_width (b::l)
  generalize (Lib.decodeL (b::l)).1=r at he⊢
  generalize (Lib.decodeL (b::l)).2=n at he hw
  obtain⟨m,rfl⟩:∃m,n=m+1:=⟨n-1,by omega⟩
  rw[List.take_succ_cons]at he
  by_cases h:65≤r∧r≤90
  ·have h1:Lib.encodeRune (r:Int)=[((r:Int).toNat).toUInt8]:=by
    unfold Lib.encodeRune
    rw[Lib.encodeRuneZ_one (by omega) (by omega)];rfl
   rw[h1]at he
   have h2:((r:Int).toNat).toUInt8=b:=(List.cons.inj he).1
   rw[←h2]at hb
   have:(((r:Int).toNat).toUInt8).toNat=r:=by
    rw[Int.toNat_natCast]
    show r%256=r
    omega
   omega
  ·have h2:lowI (r:Int)=(r:Int):=by unfold lowI;rw[if_neg (by omega)]
   rw[h2,if_pos (by omega),he]
   exact⟨b,List.mem_cons_self ..,hb⟩
theorem low_keeps_high:∀(n:Nat) (k:List UInt8),k.length≤n→(∃x∈k,128≤x.toNat)→∃x∈lowR k,128≤x.toNat
 |0,k,hl,h=>by
  obtain⟨x,hx,-⟩:=h
  have:k=[]:=List.eq_nil_of_length_eq_zero (by omega)
  rw[this]at hx;cases hx
 |n+1,[],_,h=>by obtain⟨x,hx,-⟩:=h;cases hx
 |n+1,b::l,hl,h=>by
  unfold lowR
  rw[Lib.mapD_step _ _ (by simp)]
  by_cases hb:b.toNat<128
  ·rw[Lib.decodeL_ascii b l hb]
   obtain⟨x,hx,hx2⟩:=h
   rcases List.mem_cons.1 hx with rfl|hx
   ·omega
   ·obtain⟨y,hy,hy2⟩:=low_keeps_high n l (by rw[List.length_cons]at hl;omega) ⟨x,hx,hx2⟩
    exact⟨y,List.mem_append_right _ hy,hy2⟩
  ·obtain⟨x,hx,hx2⟩:=low_high b l (by omega)
   exact⟨x,List.mem_append_left _ hx,hx2⟩
theorem lowB_high{b:UInt8}(h:128≤b.toNat):lowB b=b:=by unfold Ma.lowB;rw[if_neg (by omega)]
theorem lowL_high{k:List UInt8}(h:∃x∈k,128≤x.toNat):∃x∈lowL k,128≤x.toNat:=by
 obtain⟨x,hx,hx2⟩:=h
 refine⟨x,?_,hx2⟩
 unfold Ma.lowL
 exact List.mem_map.2 ⟨x,hx,lowB_high hx2⟩
def Asc(es:List En):Prop:=∀e∈es,∀b∈e.key,b.toNat<128
theorem has_high{es:List En}(ha:Asc es){k:List UInt8}(h:∃x∈k,128≤x.toNat):hasK es k=false:=by
 unfold hasK
 rw[List.any_eq_false]
 intro e he hk
 have hk:e.key=k:=by simpa using hk
 obtain⟨x,hx,hx2⟩:=h
 rw[←hk]at hx
 have:=ha e he x hx
 omega
def exactL(es:List En)(k:List UInt8):Option (List UInt8):=if foundB es (lowL k)then(es[rank es (lowL k)]?).map (·.val)else none
theorem exact_low{es:List En}(hs:Srt es)(ha:Asc es)(k:List UInt8):exactQ es k=exactL es k:=by
 by_cases h:∀b∈k,b.toNat<128
 ·unfold exactQ exactL
  rw[lowR_ascii k h]
 ·have h2:∃x∈k,128≤x.toNat:=by
   refine Classical.byContradiction fun f=>h fun b hb=> ?_
   refine Classical.byContradiction fun g=>f ⟨b,hb,by omega⟩
  unfold exactQ exactL
  rw[found_has _ _ hs,found_has _ _ hs,has_high ha (low_keeps_high _ k (Nat.le_refl _) h2),has_high ha (lowL_high h2)]
  rfl
theorem lowB_asc{b:UInt8}(h:b.toNat<128):(lowB b).toNat<128:=by
 unfold Ma.lowB
 split
 ·rename_i h2
  rw[UInt8.toNat_add]
  show(b.toNat+32)%256<128
  omega
 ·exact h
theorem ins_in:∀{es:List En} {e x:En},x∈ins es e→x=e∨x∈es
 |[],e,x,h=>.inl (List.mem_singleton.1 h)
 |y::r,e,x,h=>by
  unfold ins at h
  split at h
  ·rcases List.mem_cons.1 h with rfl|h
   ·exact .inr (List.mem_cons_self ..)
   ·rcases ins_in h with f|f
    ·exact .inl f
    ·exact .inr (List.mem_cons_of_mem _ f)
  ·rcases List.mem_cons.1 h with rfl|h
   ·exact .inl rfl
   ·exact .inr h
theorem pG_asc:∀(L es ts:List En),pG L es=some ts→Asc L→Asc es→Asc ts
 |[],es,ts,h,_,ha=>by cases h;exact ha
 |e::r,es,ts,h,hL,ha=>by
  unfold pG at h
  split at h
  ·refine pG_asc r _ ts h (fun x hx=>hL x (List.mem_cons_of_mem _ hx)) fun x hx=> ?_
   rcases ins_in hx with rfl|hx
   ·exact hL _ (List.mem_cons_self ..)
   ·exact ha x hx
  ·cases h
theorem pG_srt:∀(L es ts:List En),pG L es=some ts→Srt es→Srt ts
 |[],es,ts,h,ha=>by cases h;exact ha
 |e::r,es,ts,h,ha=>by
  unfold pG at h
  split at h
  ·rename_i hc
   refine pG_srt r _ ts h (ins_srt es e ha ?_)
   simp only[Bool.and_eq_true,Bool.not_eq_true']at hc
   exact hc.1.2
  ·cases h
theorem tparse_asc{s:List UInt8}{es:List En}(h:tparse s=some es):Asc es∧Srt es:=by
 rw[tparse_ref]at h
 split at h
 ·cases h
 ·split at h
  ·cases h
  ·rename_i hb
   have hb:(rsAll s).bads=[]:=Classical.byContradiction hb
   refine⟨pG_asc _ _ _ h ?_ (fun e he=>(by cases he)),pG_srt _ _ _ h trivial⟩
   have hg:∀b∈s,badB b=false:=(bads_nil s 0).1 (bads_grow _ _ hb)
   have hk:∀l∈(rsAll s).out,∀b∈l.key,b.toNat<128:=rs_keys (P:=fun b=>b.toNat<128) (splitL 10 s) ⟨0,[],badsOf s 0⟩ (fun p hp b hb=>good_small7 (hg b (split_sub s p hp b hb))) (fun l hl=>by cases hl)
   intro e he b hb2
   obtain⟨l,hl,rfl⟩:=List.mem_map.1 he
   have hb2:b∈lowL (l.key.take (keyN l.key)):=hb2
   unfold Ma.lowL at hb2
   obtain⟨c,hc,rfl⟩:=List.mem_map.1 hb2
   exact lowB_asc (hk l hl c (List.mem_of_mem_take hc))
end Go.Proofs.YtmlmkmhkmifnkaaGreatDoor.Tb