import Derived.Test.YtmlmkmhkmifnkaaGreatDoorK23
import Derived.Test.YtmlmkmhkmifnkaaGreatDoorK24
import Derived.Laws.AppendOwnNone
set_option maxHeartbeats 16000000
set_option maxRecDepth 1000000
namespace Go.Proofs.YtmlmkmhkmifnkaaGreatDoor.Tb
open Go.RowKit
open Ci (Bel hid own_bel row_shape own_base addr_add Aft wp_region_aft quiet_load_aft Lay)
open Ma (Pt ptC ptC_one ptC_range pt_size Pts)
theorem pequal_run(x1 x2:Option Addr)(l1 l2:List Pt)(c1 c2:Nat)(w:World)(h1:Pts w x1 l1)(h2:Pts w x2 l2)(hn:l1.length≤9223372036854775807):
 Calls Tryz.prog 48 #[.slice x1 l1.length c1,.slice x2 l2.length c2] w fun e w'=>e=.returned (.bool (decide (l1=l2)))∧Bel w w':=by
 have H1:=hid h1
 have H2:=hid h2
 clear h1 h2
 obtain⟨r,hr⟩:∃r,r=decide (l1=l2):=⟨_,rfl⟩
 have HR:=hid hr
 rw[←hr]
 clear hr
 by_cases hll:l1.length=l2.length
 ·have HLL:=hid hll
  have b0:((l1.length:Int) !=(l2.length:Int))=false:=by rw[hll];simp
  clear hll
  go_enter Tryz.func48,Tryz.ntmps48
  go_wp2_with fail
  go_loopg [13] l1.length (fun gg v13 wr=>∃k:Nat,v13=.int .i64 k∧k+gg=l1.length∧Hid (Bel w wr∧l1.take k=l2.take k))
  case atStart=>exact⟨0,rfl,by omega,hid ⟨Bel.refl w,rfl⟩⟩
  case round=>
   obtain⟨k,rfl,hk,HB⟩:=hrel
   have Hk:=hid hk
   have hkn:k≤l1.length:=by omega
   clear hk
   by_cases hlt:k<l1.length
   ·have hlt2:k<l2.length:=by have:=HLL.out;omega
    obtain⟨b,o,rfl,hr1⟩:=(H1.out.next HB.out.1).place hlt
    obtain⟨b',o',rfl,hr2⟩:=(H2.out.next HB.out.1).place hlt2
    have K1:=hid (fun q:Aft wr=>show q.wd.rangeAt b (o+k*4) (ptC l1[k])from by
     obtain⟨b2,o2,e,hr2⟩:=(H1.out.next (HB.out.1.trans q.bel)).place hlt
     cases e;exact hr2)
    have K2:=hid (fun q:Aft wr=>show q.wd.rangeAt b' (o'+k*4) (ptC l2[k])from by
     obtain⟨b2,o2,e,hr2⟩:=(H2.out.next (HB.out.1.trans q.bel)).place hlt2
     cases e;exact hr2)
    have HE:=fun W=>eq_ptc l1[k] l2[k] W
    have i1:(k:Int)<(l1.length:Int):=by omega
    have i2:(k:Int)<(l2.length:Int):=by omega
    have b2:decide ((k:Int)<(l1.length:Int))=true:=decide_eq_true i1
    have HT:=hid (show l1.take (k+1)=l1.take k++[l1[k]]∧l2.take (k+1)=l2.take k++[l2[k]]from⟨List.take_succ_eq_append_getElem hlt,List.take_succ_eq_append_getElem hlt2⟩)
    clear hr1 hr2
    by_cases heq:l1[k]=l2[k]
    ·rw[decide_eq_true heq]at HE
     have HQ:=hid heq
     clear heq
     generalize hlk:l1[k]=lk at HE K1 HQ HT
     generalize hlm:l2[k]=lm at HE K2 HQ HT
     clear hlk hlm
     go_wp2_with fail
     refine wp_region_aft (by kernel_rfl) (by kernel_rfl) ?_
     repeat (first
      |go_big_quiet_skip
      | (refine quiet_load_aft 26 _ rfl b (o+k*4) rfl (ptC lk) _ K1.out Tryz.underlying26 rfl pt_size (by rfl) ?_;intro a' ha';simp only[Act.put,List.setIfInBounds_toArray,List.set_cons_succ,List.set_cons_zero]at ha';subst ha')
      | (refine quiet_load_aft 26 _ rfl b' (o'+k*4) rfl (ptC lm) _ K2.out Tryz.underlying26 rfl pt_size (by rfl) ?_;intro a' ha';simp only[Act.put,List.setIfInBounds_toArray,List.set_cons_succ,List.set_cons_zero]at ha';subst ha')
      |go_big_quiet_step (fail)
      |quiet_step (fail))
     refine wpQuiet_nil ?_
     rintro _ ⟨q,rfl⟩
     go_wp2_with fail
     go_roundg (gk-1)
     case measure=>have:=Hk.out;omega
     case rel=>exact⟨k+1,by go_num,by have:=Hk.out;omega,hid ⟨HB.out.1.trans q.bel,by rw[HT.out.1,HT.out.2,HB.out.2,HQ.out]⟩⟩
    ·rw[decide_eq_false heq]at HE
     have HF:=hid (show r=false by
      rw[HR.out,decide_eq_false_iff_not]
      intro e
      subst e
      exact heq rfl)
     clear heq
     generalize hlk:l1[k]=lk at HE K1 HT
     generalize hlm:l2[k]=lm at HE K2 HT
     clear hlk hlm
     go_wp2_with fail
     refine wp_region_aft (by kernel_rfl) (by kernel_rfl) ?_
     repeat (first
      |go_big_quiet_skip
      | (refine quiet_load_aft 26 _ rfl b (o+k*4) rfl (ptC lk) _ K1.out Tryz.underlying26 rfl pt_size (by rfl) ?_;intro a' ha';simp only[Act.put,List.setIfInBounds_toArray,List.set_cons_succ,List.set_cons_zero]at ha';subst ha')
      | (refine quiet_load_aft 26 _ rfl b' (o'+k*4) rfl (ptC lm) _ K2.out Tryz.underlying26 rfl pt_size (by rfl) ?_;intro a' ha';simp only[Act.put,List.setIfInBounds_toArray,List.set_cons_succ,List.set_cons_zero]at ha';subst ha')
      |go_big_quiet_step (fail)
      |quiet_step (fail))
     refine wpQuiet_nil ?_
     rintro _ ⟨q,rfl⟩
     go_wp2_with fail
     go_ret
     exact⟨by rw[HF.out];rfl,HB.out.1.trans q.bel⟩
   ·have b2:decide ((k:Int)<(l1.length:Int))=false:=decide_eq_false (by omega)
    have HF:=hid (show r=true by
     rw[HR.out,decide_eq_true_iff]
     have:=HB.out.2
     rw[List.take_of_length_le (by omega),List.take_of_length_le (by have:=HLL.out;omega)]at this
     exact this)
    go_wp2_with fail
    go_ret
    exact⟨by rw[HF.out];rfl,HB.out.1⟩
 ·have b0:((l1.length:Int) !=(l2.length:Int))=true:=by rw[bne_iff_ne];omega
  have HF:=hid (show r=false by
   rw[HR.out,decide_eq_false_iff_not]
   intro e
   exact hll (by rw[e]))
  go_enter Tryz.func48,Tryz.ntmps48
  go_wp2_with fail
  go_ret
  exact⟨by rw[HF.out];rfl,Bel.refl w⟩
end Go.Proofs.YtmlmkmhkmifnkaaGreatDoor.Tb
namespace Go.Proofs.YtmlmkmhkmifnkaaGreatDoor.Tb
open Go.RowKit
open Ci (Bel hid own_bel row_shape own_base addr_add Lay)
open Ma (Pt ptC ptC_one ptC_range pt_size Pts PtR ptCs ptCs_snoc pt_infos Ml mlC mlCs Mls ml_size mls_at Small parseQ replaceQ good_small parse_good mparse_run mreplace_run ParsePost wpList_store_blk rightP)
open Hs (Cl)
theorem cpath_small{h:List UInt8}{ts:List (List En)}{p:Pt}(hh:hostC h=true)(hok:∀es∈ts,valsC es=true)(hp:p.loc.length≤4194304∧p.dom.length≤4194304):(pathC h ts p).loc.length≤4194304∧(pathC h ts p).dom.length≤4194304:=by
 have hd:(domC h p).loc.length≤4194304∧(domC h p).dom.length≤4194304:=by
  unfold domC
  split
  ·have:=host_small hh
   exact⟨hp.1,by show h.length≤_;omega⟩
  ·exact hp
 unfold pathC
 split
 ·exact hp
 ·split
  ·exact hp
  ·unfold askC
   split
   ·exact hd
   ·rename_i v hv
    exact toC_small (ask_ok hok hv) hd.1
def bodyQ(h:List UInt8)(ts:List (List En))(s:List UInt8):List UInt8:=
 if(parseQ s).2≠0 then s
 else if(parseQ s).1.map Ml.path=((parseQ s).1.map Ml.path).map (pathC h ts)then s
 else if(replaceQ s (((parseQ s).1.map Ml.path).map (pathC h ts))).2≠0 then s
 else(replaceQ s (((parseQ s).1.map Ml.path).map (pathC h ts))).1
theorem body_cl{h:List UInt8}{ts:List (List En)}{s:List UInt8}(hc:Cl s):Cl (bodyQ h ts s):=by
 unfold bodyQ
 split
 ·exact hc
 ·split
  ·exact hc
  ·split
   ·exact hc
   ·rename_i h3
    exact Ma.replace_cl (Prod.ext rfl (Decidable.not_not.mp h3)) hc
theorem ml_path{W:World}{b:Nat}{m:Ml}{T:TypeId}(h:W.heap[b]?=some (.cells (mlC m).toArray T (0,0))):W.rangeAt b 0 (ptC m.path):=Ci.range_of h fun j v hv=>by
 rw[Nat.zero_add]
 have:mlC m=ptC m.path++[.int .i64 m.from_,.int .i64 m.til,.string ⟨m.name.toArray⟩]:=rfl
 rw[this,List.getElem?_append_left (List.getElem?_eq_some_iff.1 hv).1]
 exact hv
theorem own_new{W:World}{base e size n:Nat}{v:Value}{xs:List Value}(h:W.ownsRow base e size v n xs){b:Nat}(hb:W.heap.size≤b):some b≠v.ownBlock:=fun e2=>by
 have:=(h.lt b e2.symm).2
 omega
theorem rows_one {w2 wr w5 w6:World} {o o0:Obj} {u7 u8 v9:Value} {e size k7 k8:Nat} {x7 x8:List Value} (hB:Bel w2 wr) (h7:wr.ownsRow w2.heap.size e size u7 k7 x7) (h8:wr.ownsRow w2.heap.size e size u8 k8 x8) (h5:Bel wr w5) (hb0:w5.heap[wr.heap.size]?=some o0)
 (hg:(w5.alloc o).grownBy w6 u7.ownBlock) (hap:∀g,u7.ownBlock=some g→u8.ownBlock≠some g) (hf:v9.ownBlock=u7.ownBlock∨∃g,v9.ownBlock=some g∧w5.heap.size≤g):
 Bel w2 w6∧w6.heap[wr.heap.size]?=some o0∧w6.ownsRow w2.heap.size e size u8 k8 x8∧∀g,v9.ownBlock=some g→u8.ownBlock≠some g:=by
 have hlt:=(Array.getElem?_eq_some_iff.1 hb0).1
 refine⟨Bel.grown ((hB.trans h5).alloc _) hg ((own_bel h7 h5).alloc _),?_,?_,?_⟩
 ·rw[hg.block wr.heap.size (by rw[World.size_alloc];omega) (own_new h7 (Nat.le_refl _))]
  exact((Bel.refl w5).alloc o).heap hb0
 ·refine World.ownsRow.kept ((own_bel h8 h5).alloc _) hg ?_
  cases h:u8.ownBlock with
  |none=>exact .inl rfl
  |some g=>exact .inr fun e=>hap g e.symm h
 ·intro g hg9 hg8
  rcases hf with hf|⟨g',hf,hge⟩
  ·exact hap g (by rw[←hf];exact hg9) hg8
  ·rw[hf]at hg9;cases hg9
   have:=(h8.lt _ hg8).2
   have:=h5.size
   omega
theorem rows_two {w2 w7 w8:World} {o:Obj} {u8 v9 v10:Value} {e size k8 k9:Nat} {x8 x9:List Value} (hB:Bel w2 w7) (h9:w7.ownsRow w2.heap.size e size v9 k9 x9) (h8:w7.ownsRow w2.heap.size e size u8 k8 x8)
 (hg:(w7.alloc o).grownBy w8 u8.ownBlock) (hap:∀g,v9.ownBlock=some g→u8.ownBlock≠some g) (hf:v10.ownBlock=u8.ownBlock∨∃g,v10.ownBlock=some g∧w7.heap.size≤g):
 Bel w2 w8∧w8.ownsRow w2.heap.size e size v9 k9 x9∧∀g,v9.ownBlock=some g→v10.ownBlock≠some g:=by
 refine⟨Bel.grown (hB.alloc _) hg (h8.alloc _),?_,?_⟩
 ·refine World.ownsRow.kept (h9.alloc _) hg ?_
  cases h:v9.ownBlock with
  |none=>exact .inl rfl
  |some g=>exact .inr fun e=>hap g h e.symm
 ·intro g hg9 hg10
  rcases hf with hf|⟨g',hf,hge⟩
  ·exact hap g hg9 (by rw[←hf];exact hg10)
  ·rw[hf]at hg10;cases hg10
   have:=(h9.lt _ hg9).2
   omega
theorem ml_one(m:Ml):((mlC m).toArray.all (·.oneCell'))=true:=by simp[mlC,Value.oneCell']
theorem cbody_run(a:Option Addr)(h:List UInt8)(ts:List (List En))(s:ByteArray)(w:World)(hw:Lat w)(hC:CnAt w a h ts):
 Calls Tryz.prog 19 #[.pointer a,.string s] w fun e w'=>e=.returned (.string ⟨(bodyQ h ts s.data.toList).toArray⟩)∧Bel w w':=by
 have HW:=hid hw
 have HCn:=hid hC
 obtain⟨r,hr⟩:∃r:ByteArray,r=⟨(bodyQ h ts s.data.toList).toArray⟩:=⟨_,rfl⟩
 have HR:=hid hr
 rw[←hr]
 have hself:(⟨s.data.toList.toArray⟩:ByteArray)=s:=by cases s;simp
 have HSelf:=hid hself
 have HP:=hid (mparse_run s w hw.lay)
 obtain⟨L,hL⟩:∃L,L=(parseQ s.data.toList).1:=⟨_,rfl⟩
 obtain⟨E,hE⟩:∃E,E=(parseQ s.data.toList).2:=⟨_,rfl⟩
 have HP2:=(show Hid (Calls Tryz.prog 47 #[.string s] w fun e w'=>∃v,e=.returned (.tuple #[v,.int .i64 E])∧Bel w w'∧Mls w w' v L)from hid (by rw[hE,hL];exact HP.out))
 have hbq:bodyQ h ts s.data.toList=if E≠0 then s.data.toList else if L.map Ml.path=(L.map Ml.path).map (pathC h ts)then s.data.toList else if(replaceQ s.data.toList ((L.map Ml.path).map (pathC h ts))).2≠0 then s.data.toList else(replaceQ s.data.toList ((L.map Ml.path).map (pathC h ts))).1:=by
  rw[hE,hL];rfl
 have HBQ:=hid hbq
 have HSm:Hid (E=0→L.length≤65537∧∀m∈L,m.path.loc.length≤4194304∧m.path.dom.length≤4194304):=hid fun he=>by
  have hp:parseQ s.data.toList=(L,0):=Prod.ext hL.symm (by rw[←hE];exact he)
  obtain⟨-,L2,-,-,h200⟩:=Ma.parse_ok hp
  exact⟨by omega,fun m hm=>good_small (parse_good hp m hm)⟩
 clear hr hself HP hL hE hbq hw hC
 by_cases hE0:E=0
 ·subst hE0
  obtain⟨hlen,hsm⟩:=HSm.out rfl
  have HSmall:=hid hsm
  clear hsm HSm
  go_enter Tryz.func19,Tryz.ntmps19
  go_wp2_with (first|(go_at_call 47;refine HP2.out.mono ?_;rintro _ w2 ⟨vL,rfl,hb2,hmls⟩;obtain⟨xl,cl,hvl,hlc,hlc63⟩:=row_shape hmls;subst hvl;have HB2:=hid hb2;have HMl:=hid hmls;clear hb2 hmls))
  go_loopg [7,8,22] L.length (fun gg v7 v8 v22 wr=>∃k:Nat,v22=.int .i64 k∧k+gg=L.length∧Hid (Bel w2 wr∧PtR w2 wr v7 ((L.take k).map Ml.path)∧PtR w2 wr v8 (((L.take k).map Ml.path).map (pathC h ts))∧∀g,v7.ownBlock=some g→v8.ownBlock≠some g))
  case atStart=>exact⟨0,rfl,by omega,hid ⟨Bel.refl w2,World.ownsRow_nil _ _ _ _,World.ownsRow_nil _ _ _ _,fun g hg=>by cases hg⟩⟩
  case round=>
   obtain⟨k,rfl,hk,H⟩:=hrel
   have HK:=hid hk
   have hkn:k≤L.length:=by omega
   clear hk
   obtain⟨hb,ho7,ho8,hap⟩:=H.out
   have HB:=hid hb
   have HO7:=hid ho7
   have HO8:=hid ho8
   have HAp:=hid hap
   clear hb ho7 ho8 hap H
   by_cases hlt:k<L.length
   ·have b0:decide ((k:Int)<(L.length:Int))=true:=decide_eq_true (by omega)
    have hm0:=HMl.out
    obtain⟨g,hxg⟩:∃g,xl=some ⟨g,0,none⟩:=by
     rcases hm0.2 with⟨e,h0⟩|⟨g,cap,cur,e,-⟩
     ·omega
     ·cases e;exact⟨g,rfl⟩
    subst hxg
    obtain⟨m,hm⟩:∃m,m=L[k]'hlt:=⟨_,rfl⟩
    have hrg:wr.rangeAt g (k*7) (mlC m):=fun j v hv=>Ma.mls_at hm0 HB.out k hlt j v (by rw[←hm];exact hv)
    have hsm:=HSmall.out m (by rw[hm];exact List.getElem_mem hlt)
    have HM1:=hid (show(L.take (k+1)).map Ml.path=(L.take k).map Ml.path++[m.path] by rw[List.take_succ_eq_append_getElem hlt,List.map_append,←hm];rfl)
    have hk7:((L.take k).map Ml.path).length=k:=by rw[List.length_map,List.length_take];omega
    have hk8:(((L.take k).map Ml.path).map (pathC h ts)).length=k:=by rw[List.length_map,hk7]
    have HO7':Hid (wr.ownsRow w2.heap.size 26 4 u7 k (ptCs ((L.take k).map Ml.path))):=hid (by have:=HO7.out;unfold PtR at this;rw[hk7]at this;exact this)
    have HO8':Hid (wr.ownsRow w2.heap.size 26 4 u8 k (ptCs (((L.take k).map Ml.path).map (pathC h ts)))):=hid (by have:=HO8.out;unfold PtR at this;rw[hk8]at this;exact this)
    have HPC:=(show Hid (∀W,Bel w W→Calls Tryz.prog 13 #[.pointer a,.agg (ptC m.path).toArray] W fun e w'=>e=.returned (.agg (ptC (pathC h ts m.path)).toArray)∧Bel W w')from hid fun W hW=>cpath_run a h ts m.path W (HW.out.next hW) (HCn.out.next hW) hsm.1 hsm.2)
    obtain⟨n1,l1,d1,t1,hp1⟩:∃(n1:Bool) (l1 d1:ByteArray) (t1:Bool),ptC m.path=[.bool n1,.string l1,.string d1,.bool t1]:=⟨_,_,_,_,rfl⟩
    obtain⟨n2,l2,d2,t2,hp2⟩:∃(n2:Bool) (l2 d2:ByteArray) (t2:Bool),ptC (pathC h ts m.path)=[.bool n2,.string l2,.string d2,.bool t2]:=⟨_,_,_,_,rfl⟩
    rw[hp1,hp2]at HPC
    have HPR:=(show Hid (∀(W:World) (b:Nat) (T:TypeId),W.heap[b]?=some (.cells (mlC m).toArray T (0,0))→W.rangeAt b 0 [.bool n1,.string l1,.string d1,.bool t1])from hid fun W b T hh=>by rw[←hp1];exact ml_path hh)
    have HP12:=hid (And.intro hp1 hp2)
    have HK7:=hid hk7
    have HK8:=hid hk8
    clear hm hsm hm0 HO7 HO8 hp1 hp2 hk7 hk8
    go_upto_region 9 with(first
     | (refine wpList_load_mid rfl 98 (.tmp 24) rfl g (k*7) rfl (mlC m) _ hrg Tryz.underlying98 rfl ml_size ?_)
     | (refine wpList_store_blk rfl 98 (.tmp 10) (.tmp 25) rfl wr.heap.size (mlC m) rfl rfl ml_size (ml_one m) (mlC ⟨⟨false,[],[],false⟩,0,0,[]⟩) _ (heap_alloc_new wr _) rfl ?_;intro w5 hc5 ho5 hs5 hb5;have HB5:=hid (hb5 wr ((Bel.refl wr).alloc _) (Nat.le_refl _));have HS5:=hid hs5;have HC5:=hid hc5;clear ho5 hs5 hb5 hc5)
     | (refine wpList_load_mid rfl 26 (.tmp 27) rfl wr.heap.size 0 rfl [.bool n1,.string l1,.string d1,.bool t1] _ (HPR.out _ _ _ HC5.out) Tryz.underlying26 rfl pt_size ?_)
     | (at_builtin;refine wpList_push_at (W:=w5) rfl (.tmp 26) (.tmp 29) 96 rfl 26 (.agg #[.bool false,.string ⟨#[]⟩,.string ⟨#[]⟩,.bool false]) 4 48 Tryz.underlying96 pt_infos rfl (by decide) w2.heap.size u7 k (ptCs ((L.take k).map Ml.path)) rfl (own_bel HO7'.out HB5.out) (HB.out.trans HB5.out).size _ rfl rfl (by intro u hu;simp at hu;rcases hu with rfl|rfl|rfl|rfl<;>rfl) (by unfold maxLen;omega) (by omega) ?_;intro v9 w6 hown6 hg6 hf6;have HO6:=hid hown6;have HG6:=hid hg6;have HF6:=hid hf6;clear hown6 hg6 hf6))
    obtain⟨hb6,hc6,ho68,hap6⟩:=rows_one HB.out HO7'.out HO8'.out HB5.out HC5.out HG6.out HAp.out HF6.out
    have HB6:=hid hb6
    have HC6:=hid hc6
    have HO68:=hid ho68
    have HAp6:=hid hap6
    clear hb6 hc6 ho68 hap6
    go_wp2_with (first
     | (refine wpList_load_mid rfl 26 (.tmp 33) rfl wr.heap.size 0 rfl [.bool n1,.string l1,.string d1,.bool t1] _ (HPR.out _ _ _ HC6.out) Tryz.underlying26 rfl pt_size ?_)
     | (go_at_call 13;with_reducible refine(HPC.out w6 (HB2.out.trans HB6.out)).mono ?_;rintro _ w7 ⟨rfl,hb7⟩;have HB7:=hid hb7;clear hb7)
     | (at_builtin;refine wpList_push_at (W:=w7) rfl (.tmp 31) (.tmp 36) 96 rfl 26 (.agg #[.bool false,.string ⟨#[]⟩,.string ⟨#[]⟩,.bool false]) 4 48 Tryz.underlying96 pt_infos rfl (by decide) w2.heap.size u8 k (ptCs (((L.take k).map Ml.path).map (pathC h ts))) rfl (own_bel HO68.out HB7.out) (HB6.out.trans HB7.out).size _ rfl rfl (by intro u hu;simp at hu;rcases hu with rfl|rfl|rfl|rfl<;>rfl) (by unfold maxLen;omega) (by omega) ?_;intro v10 w8 hown8 hg8 hf8;have HO8n:=hid hown8;have HG8:=hid hg8;have HF8:=hid hf8;clear hown8 hg8 hf8))
    obtain⟨hb8,ho89,hap8⟩:=rows_two (HB6.out.trans HB7.out) (own_bel HO6.out HB7.out) (own_bel HO68.out HB7.out) HG8.out HAp6.out HF8.out
    have HB8:=hid hb8
    have HO9:Hid (PtR w2 w8 v9 ((L.take (k+1)).map Ml.path)):=hid (by
     unfold PtR
     rw[HM1.out,ptCs_snoc,List.length_append,HK7.out,HP12.out.1]
     exact ho89)
    have HO10:Hid (PtR w2 w8 v10 (((L.take (k+1)).map Ml.path).map (pathC h ts))):=hid (by
     unfold PtR
     rw[HM1.out,List.map_append,List.length_append,HK8.out,List.map_cons,List.map_nil,ptCs_snoc,HP12.out.2]
     exact HO8n.out)
    have HAp8:=hid hap8
    clear hb8 ho89 hap8
    go_wp2_with fail
    go_roundg (gk-1)
    case measure=>have:=HK.out;omega
    case rel=>exact⟨k+1,by go_num,by have:=HK.out;omega,hid ⟨HB8.out,HO9.out,HO10.out,HAp8.out⟩⟩
   ·have hkl:k=L.length:=by omega
    have b0:decide ((k:Int)<(L.length:Int))=false:=decide_eq_false (by omega)
    have hp7:=HO7.out
    have hp8:=HO8.out
    rw[hkl,List.take_length]at hp7 hp8
    obtain⟨A,hA⟩:∃A,A=L.map Ml.path:=⟨_,rfl⟩
    obtain⟨Z,hZ⟩:∃Z,Z=A.map (pathC h ts):=⟨_,rfl⟩
    rw[←hA]at hp7
    rw[←hA,←hZ]at hp8
    obtain⟨x7,c7,hv7,hc7,hc763⟩:=row_shape hp7
    obtain⟨x8,c8,hv8,hc8,hc863⟩:=row_shape hp8
    subst hv7
    subst hv8
    have hAl:A.length≤65537:=by rw[hA,List.length_map];exact hlen
    have HE:=hid (pequal_run x7 x8 A Z c7 c8 wr hp7.pts hp8.pts (by omega))
    have hS:Small Z:=fun q hq=>by
     rw[hZ]at hq
     obtain⟨q0,hq0,rfl⟩:=List.mem_map.1 hq
     rw[hA]at hq0
     obtain⟨m,hm,rfl⟩:=List.mem_map.1 hq0
     exact cpath_small HCn.out.host HCn.out.ok (HSmall.out m hm)
    have HRp:=(show Hid (∀W,Bel wr W→Calls Tryz.prog 49 #[.string s,.slice x8 Z.length c8] W fun e w'=>e=.returned (.tuple #[.string ⟨(replaceQ s.data.toList Z).1.toArray⟩,.int .i64 (replaceQ s.data.toList Z).2])∧Bel W w')from hid fun W hW=>mreplace_run s x8 Z c8 W (HW.out.lay.next (HB2.out.trans (HB.out.trans hW))) (hp8.pts.next hW) hS)
    have HRR:Hid (r=⟨(if A=Z then s.data.toList else if(replaceQ s.data.toList Z).2≠0 then s.data.toList else(replaceQ s.data.toList Z).1).toArray⟩):=hid (by
     rw[HR.out,HBQ.out,←hA,←hZ,if_neg (by decide)])
    obtain⟨T,hT⟩:∃T:ByteArray,T=⟨(replaceQ s.data.toList Z).1.toArray⟩:=⟨_,rfl⟩
    obtain⟨K,hK⟩:∃K,K=(replaceQ s.data.toList Z).2:=⟨_,rfl⟩
    rw[←hT,←hK]at HRp
    rw[←hK]at HRR
    have HT:=hid hT
    clear hT hK hp7 hp8 hA hZ hkl hS HO7 HO8
    by_cases hAZ:A=Z
    ·have HF:=hid (show r=s by rw[HRR.out,if_pos hAZ])
     rw[decide_eq_true hAZ]at HE
     clear hAZ
     go_wp2_with (go_at_call 48;with_reducible refine HE.out.mono ?_;rintro _ w4 ⟨rfl,hb4⟩;have HB4:=hid hb4;clear hb4)
     go_ret
     exact⟨by rw[HF.out];rfl,HB2.out.trans (HB.out.trans HB4.out)⟩
    ·rw[decide_eq_false hAZ]at HE
     by_cases hK0:K=0
     ·have HF:=hid (show r=T by rw[HRR.out,if_neg hAZ,if_neg (fun hh=>hh hK0)];exact HT.out.symm)
      subst hK0
      clear hAZ
      go_wp2_with (first|(go_at_call 48;with_reducible refine HE.out.mono ?_;rintro _ w4 ⟨rfl,hb4⟩;have HB4:=hid hb4;clear hb4)|(go_at_call 49;with_reducible refine(HRp.out w4 HB4.out).mono ?_;rintro _ w5 ⟨rfl,hb5⟩;have HB5:=hid hb5;clear hb5))
      go_ret
      exact⟨by rw[HF.out];rfl,HB2.out.trans (HB.out.trans (HB4.out.trans HB5.out))⟩
     ·have HF:=hid (show r=s by rw[HRR.out,if_neg hAZ,if_pos hK0])
      have b1:(K !=0)=true:=by simpa using hK0
      clear hAZ
      go_wp2_with (first|(go_at_call 48;with_reducible refine HE.out.mono ?_;rintro _ w4 ⟨rfl,hb4⟩;have HB4:=hid hb4;clear hb4)|(go_at_call 49;with_reducible refine(HRp.out w4 HB4.out).mono ?_;rintro _ w5 ⟨rfl,hb5⟩;have HB5:=hid hb5;clear hb5))
      go_ret
      exact⟨by rw[HF.out];rfl,HB2.out.trans (HB.out.trans (HB4.out.trans HB5.out))⟩
 ·have HF:=hid (show r=s by rw[HR.out,HBQ.out,if_pos hE0])
  have b1:(E !=0)=true:=by simpa using hE0
  go_enter Tryz.func19,Tryz.ntmps19
  go_wp2_with (first|(go_at_call 47;refine HP2.out.mono ?_;rintro _ w2 ⟨vL,rfl,hb2,hmls⟩))
  go_ret
  exact⟨by rw[HF.out];rfl,hb2⟩
end Go.Proofs.YtmlmkmhkmifnkaaGreatDoor.Tb
namespace Go.Proofs.YtmlmkmhkmifnkaaGreatDoor.Hs
open Go.RowKit
open Ci (hid Bel)
theorem nameB_num(c:UInt8):nameB c=(decide (33≤c.toNat)&&decide (c.toNat≤126)&& !(c.toNat==58)):=by
 unfold nameB
 congr 1
 cases h:(c.toNat==58)with
 |true=>
  have:c=58:=UInt8.toNat_inj.1 (by simpa using h)
  rw[this];rfl
 |false=>
  have:c≠58:=fun e=>by rw[e]at h;cases h
  simpa using this
theorem all_snoc{p:UInt8→Bool}{l:List UInt8}{k:Nat}(hk:k<l.length)(h:(l.take k).all p=true)(h1:p l[k]=true):(l.take (k+1)).all p=true:=by
 rw[List.take_succ_eq_append_getElem hk,List.all_append,h]
 simpa using h1
theorem all_not{p:UInt8→Bool}{l:List UInt8}{k:Nat}(hk:k<l.length)(h1:p l[k]=false):l.all p=false:=by
 cases h:l.all p with
 |false=>rfl
 |true=>exact absurd (List.all_eq_true.1 h _ (List.getElem_mem hk)) (by rw[h1];decide)
def nameQ(l:List UInt8):Bool:=l.all nameB&& !l.isEmpty
theorem blk_num(c:UInt8):blk c=(((c.toNat:Int)==32)||((c.toNat:Int)==9)):=by
 unfold blk
 have:∀(d:UInt8) (n:Int),(d.toNat:Int)=n→(c==d)=((c.toNat:Int)==n):=fun d n hd=>by
  cases h:((c.toNat:Int)==n)with
  |true=>have:=eq_of_beq h;rw[←hd]at this;rw[UInt8.toNat_inj.1 (Int.ofNat_inj.1 this)];simp
  |false=>rw[beq_eq_false_iff_ne]at h⊢;exact fun e=>h (by rw[e,hd])
 rw[this 32 32 rfl,this 9 9 rfl]
theorem hblank_run(c:UInt8)(w:World):Calls Tryz.prog 111 #[.int .u8 (c.toNat:Int)] w fun e w'=>e=.returned (.bool (blk c))∧w'=w:=by
 have HX:=hid (blk_num c)
 by_cases h:((c.toNat:Int)==32)=true
 ·have h1:((c.toNat:Int)==32)=true:=h
  go_enter Tryz.func111,Tryz.ntmps111
  go_wp2_with fail
  go_ret
  exact⟨by rw[HX.out,h1];rfl,rfl⟩
 ·have h1:((c.toNat:Int)==32)=false:=by simpa using h
  go_enter Tryz.func111,Tryz.ntmps111
  go_wp2_with fail
  go_ret
  exact⟨by rw[HX.out,h1];rfl,rfl⟩
theorem rblank_run(c:UInt8)(w:World):Calls Tryz.prog 60 #[.int .u8 (c.toNat:Int)] w fun e w'=>e=.returned (.bool (blk c))∧w'=w:=by
 have HX:=hid (blk_num c)
 by_cases h:((c.toNat:Int)==32)=true
 ·have h1:((c.toNat:Int)==32)=true:=h
  go_enter Tryz.func60,Tryz.ntmps60
  go_wp2_with fail
  go_ret
  exact⟨by rw[HX.out,h1];rfl,rfl⟩
 ·have h1:((c.toNat:Int)==32)=false:=by simpa using h
  go_enter Tryz.func60,Tryz.ntmps60
  go_wp2_with fail
  go_ret
  exact⟨by rw[HX.out,h1];rfl,rfl⟩
theorem hname_run(s:ByteArray)(w:World)(hs:s.size<9223372036854775807):Calls Tryz.prog 112 #[.string s] w fun e w'=>e=.returned (.bool (nameQ s.data.toList))∧w'=w:=by
 have hl:s.data.toList.length=s.size:=Array.length_toList
 have HL:=hid hl
 clear hl
 obtain⟨r,hr⟩:∃r,r=nameQ s.data.toList:=⟨_,rfl⟩
 have HR:=hid hr
 rw[←hr]
 clear hr
 go_enter Tryz.func112,Tryz.ntmps112
 go_wp2_with fail
 go_loopg [6] s.size (fun gg v3 wr=>∃k:Nat,v3=.int .i64 k∧k+gg=s.size∧Hid (wr=w∧(s.data.toList.take k).all nameB=true))
 case atStart=>exact⟨0,rfl,by omega,hid ⟨rfl,by simp⟩⟩
 case round=>
  obtain⟨k,rfl,hk,H⟩:=hrel
  have HK:=hid hk
  have hkn:k≤s.size:=by omega
  clear hk
  by_cases hlt:k<s.size
  ·have hlt':k<s.data.toList.length:=by rw[HL.out];exact hlt
   have HC:=hid (show s.data.toList[k]'hlt'=s[k]from rfl)
   have HN:=hid (fun h=>all_snoc hlt' H.out.2 h)
   have HA:=hid (fun h=>all_not (p:=nameB) hlt' h)
   have HB:=hid (nameB_num (s.data.toList[k]'hlt'))
   have b0:decide ((k:Int)<(s.size:Int))=true:=decide_eq_true (by omega)
   obtain⟨c,hc⟩:∃c,c=s[k]:=⟨_,rfl⟩
   have ec:=hc.symm
   by_cases h1:c.toNat<33
   ·have HF:=hid (show r=false by rw[HR.out];unfold nameQ;rw[HA.out (by rw[HB.out,HC.out,ec,decide_eq_false (by omega)];rfl)];rfl)
    have b1:decide ((s[k].toNat:Int)≤32)=true:=decide_eq_true (by rw[ec];omega)
    clear ec hc
    go_wp2_with fail
    go_ret
    exact⟨by rw[HF.out];rfl,H.out.1⟩
   ·have b1:decide ((s[k].toNat:Int)≤32)=false:=decide_eq_false (by rw[ec];omega)
    by_cases h2:126<c.toNat
    ·have HF:=hid (show r=false by rw[HR.out];unfold nameQ;rw[HA.out (by rw[HB.out,HC.out,ec,decide_eq_false (show¬c.toNat≤126 by omega),Bool.and_false];rfl)];rfl)
     have b2:decide ((s[k].toNat:Int)>126)=true:=decide_eq_true (by rw[ec];omega)
     clear ec hc
     go_wp2_with fail
     go_ret
     exact⟨by rw[HF.out];rfl,H.out.1⟩
    ·have b2:decide ((s[k].toNat:Int)>126)=false:=decide_eq_false (by rw[ec];omega)
     by_cases h3:c.toNat=58
     ·have HF:=hid (show r=false by rw[HR.out];unfold nameQ;rw[HA.out (by rw[HB.out,HC.out,ec,h3];rfl)];rfl)
      have b3:((s[k].toNat:Int)==58)=true:=by rw[ec,h3];rfl
      clear ec hc
      go_wp2_with fail
      go_ret
      exact⟨by rw[HF.out];rfl,H.out.1⟩
     ·have b3:((s[k].toNat:Int)==58)=false:=by rw[beq_eq_false_iff_ne,ec];omega
      have HM:=hid (HN.out (by rw[HB.out,HC.out,ec,decide_eq_true (show 33≤c.toNat by omega),decide_eq_true (show c.toNat≤126 by omega),beq_eq_false_iff_ne.2 h3];rfl))
      clear ec hc h1 h2 h3
      go_wp2_with fail
      go_roundg (gk-1)
      case measure=>have:=HK.out;omega
      case rel=>exact⟨k+1,by go_num,by have:=HK.out;omega,hid ⟨H.out.1,HM.out⟩⟩
  ·have hk2:k=s.size:=by omega
   have HF:=hid (show r= !s.data.toList.isEmpty by
    rw[HR.out];unfold nameQ
    have:=H.out.2
    rw[hk2,←HL.out,List.take_length]at this
    rw[this];rfl)
   have b0:decide ((k:Int)<(s.size:Int))=false:=decide_eq_false (by omega)
   clear hk2
   go_wp2_with fail
   go_ret
   exact⟨by rw[HF.out,←Lib.toList_data];rfl,H.out.1⟩
theorem rname_run(s:ByteArray)(w:World)(hs:s.size<9223372036854775807):Calls Tryz.prog 119 #[.string s] w fun e w'=>e=.returned (.bool (nameQ s.data.toList))∧w'=w:=by
 have hl:s.data.toList.length=s.size:=Array.length_toList
 have HL:=hid hl
 clear hl
 obtain⟨r,hr⟩:∃r,r=nameQ s.data.toList:=⟨_,rfl⟩
 have HR:=hid hr
 rw[←hr]
 clear hr
 go_enter Tryz.func119,Tryz.ntmps119
 go_wp2_with fail
 go_loopg [3] s.size (fun gg v3 wr=>∃k:Nat,v3=.int .i64 k∧k+gg=s.size∧Hid (wr=w∧(s.data.toList.take k).all nameB=true))
 case atStart=>exact⟨0,rfl,by omega,hid ⟨rfl,by simp⟩⟩
 case round=>
  obtain⟨k,rfl,hk,H⟩:=hrel
  have HK:=hid hk
  have hkn:k≤s.size:=by omega
  clear hk
  by_cases hlt:k<s.size
  ·have hlt':k<s.data.toList.length:=by rw[HL.out];exact hlt
   have HC:=hid (show s.data.toList[k]'hlt'=s[k]from rfl)
   have HN:=hid (fun h=>all_snoc hlt' H.out.2 h)
   have HA:=hid (fun h=>all_not (p:=nameB) hlt' h)
   have HB:=hid (nameB_num (s.data.toList[k]'hlt'))
   have b0:decide ((k:Int)<(s.size:Int))=true:=decide_eq_true (by omega)
   obtain⟨c,hc⟩:∃c,c=s[k]:=⟨_,rfl⟩
   have ec:=hc.symm
   by_cases h1:c.toNat<33
   ·have HF:=hid (show r=false by rw[HR.out];unfold nameQ;rw[HA.out (by rw[HB.out,HC.out,ec,decide_eq_false (by omega)];rfl)];rfl)
    have b1:decide ((s[k].toNat:Int)<33)=true:=decide_eq_true (by rw[ec];omega)
    clear ec hc
    go_wp2_with fail
    go_ret
    exact⟨by rw[HF.out];rfl,H.out.1⟩
   ·have b1:decide ((s[k].toNat:Int)<33)=false:=decide_eq_false (by rw[ec];omega)
    by_cases h2:126<c.toNat
    ·have HF:=hid (show r=false by rw[HR.out];unfold nameQ;rw[HA.out (by rw[HB.out,HC.out,ec,decide_eq_false (show¬c.toNat≤126 by omega),Bool.and_false];rfl)];rfl)
     have b2:decide ((s[k].toNat:Int)>126)=true:=decide_eq_true (by rw[ec];omega)
     clear ec hc
     go_wp2_with fail
     go_ret
     exact⟨by rw[HF.out];rfl,H.out.1⟩
    ·have b2:decide ((s[k].toNat:Int)>126)=false:=decide_eq_false (by rw[ec];omega)
     by_cases h3:c.toNat=58
     ·have HF:=hid (show r=false by rw[HR.out];unfold nameQ;rw[HA.out (by rw[HB.out,HC.out,ec,h3];rfl)];rfl)
      have b3:((s[k].toNat:Int)==58)=true:=by rw[ec,h3];rfl
      clear ec hc
      go_wp2_with fail
      go_ret
      exact⟨by rw[HF.out];rfl,H.out.1⟩
     ·have b3:((s[k].toNat:Int)==58)=false:=by rw[beq_eq_false_iff_ne,ec];omega
      have HM:=hid (HN.out (by rw[HB.out,HC.out,ec,decide_eq_true (show 33≤c.toNat by omega),decide_eq_true (show c.toNat≤126 by omega),beq_eq_false_iff_ne.2 h3];rfl))
      clear ec hc h1 h2 h3
      go_wp2_with fail
      go_roundg (gk-1)
      case measure=>have:=HK.out;omega
      case rel=>exact⟨k+1,by go_num,by have:=HK.out;omega,hid ⟨H.out.1,HM.out⟩⟩
  ·have hk2:k=s.size:=by omega
   have HF:=hid (show r= !s.data.toList.isEmpty by
    rw[HR.out];unfold nameQ
    have:=H.out.2
    rw[hk2,←HL.out,List.take_length]at this
    rw[this];rfl)
   have b0:decide ((k:Int)<(s.size:Int))=false:=decide_eq_false (by omega)
   clear hk2
   go_wp2_with fail
   go_ret
   exact⟨by rw[HF.out,←show decide (0<s.size)= !s.data.toList.isEmpty by rw[Lib.size_eq];cases s.data.toList<;>simp];rfl,H.out.1⟩
end Go.Proofs.YtmlmkmhkmifnkaaGreatDoor.Hs
namespace Go.Proofs.YtmlmkmhkmifnkaaGreatDoor.Hs
open Go.RowKit
open Ci (hid Bel)
def Bs(W:World)(p:Option Addr)(l:List UInt8):Prop:=0<l.length→∃b o,p=some ⟨b,o,none⟩∧∀i (h:i<l.length),W.cell? ⟨b,o+i,none⟩=some (.int .u8 (l[i].toNat:Int))
theorem Bs.next{W W':World}{p:Option Addr}{l:List UInt8}(h:Bs W p l)(hb:Bel W W'):Bs W' p l:=fun hp=>by
 obtain⟨b,o,e,hc⟩:=h hp
 exact⟨b,o,e,fun i hi=>(Below.cell hb (World.block_lt_of_cell? _ _ (hc i hi))).trans (hc i hi)⟩
theorem Bs.nums{W:World}{b o:Nat}{l:List UInt8}(h:∀i (h:i<l.length),W.cell? ⟨b,o+i,none⟩=some (.int .u8 (l[i].toNat:Int))):∀i,i<l.length→W.cell? ⟨b,o+i,none⟩=some (.int .u8 ((l.map fun x=>(x.toNat:Int)).getD i 0)):=fun i hi=>by
 rw[h i hi,List.getD_eq_getElem?_getD,List.getElem?_map,List.getElem?_eq_getElem hi];rfl
theorem str_nums(l:List UInt8):strOfNums (l.map fun x=>(x.toNat:Int))=⟨l.toArray⟩:=by
 unfold strOfNums
 congr 2
 rw[List.map_map]
 conv=>rhs;rw[←List.map_id l]
 apply List.map_congr_left
 intro x _
 simp
theorem conv_bs{W:World}{p:Option Addr}{l:List UInt8}(h:Bs W p l)(c:Nat):(convert 48 9 (.slice p l.length c)).run Tryz.prog W=.ok (.string ⟨l.toArray⟩) W:=by
 rcases Nat.eq_zero_or_pos l.length with h0|h0
 ·have:l=[]:=List.length_eq_zero_iff.mp h0
  subst this
  show(convert 48 9 (.slice p 0 c)).run Tryz.prog W=_
  rw[run_convert_bytes_string W 48 9 5 _ 0 c Tryz.underlying48 Tryz.underlying5 Tryz.underlying9]
  cases p<;>simp[Conv.bytesToString,loadCells]
  all_goals rfl
 ·obtain⟨b,o,rfl,hc⟩:=h h0
  have:=run_convert_bytes_arg (P:=Tryz.prog) W 48 5 Tryz.underlying48 Tryz.underlying5 b o l.length c (l.map fun x=>(x.toNat:Int)) (by rw[List.length_map]) (Bs.nums hc) 9 Tryz.underlying9
  rw[str_nums]at this
  exact this
theorem drop_at{l:List UInt8}{k:Nat}(hk:k<l.length):l.drop k=l[k]::l.drop (k+1):=List.drop_eq_getElem_cons hk
theorem line_step{l:List UInt8}{k:Nat}(hk:k<l.length)(h:¬(l[k]=13∧l[k+1]?=some 10)):lineN (l.drop k)=lineN (l.drop (k+1))+1:=by
 rw[drop_at hk,lineN_cons,if_neg]
 intro hh
 apply h
 refine⟨hh.1,?_⟩
 have:=hh.2
 rwa[List.head?_drop]at this
theorem line_here{l:List UInt8}{k:Nat}(hk:k<l.length)(h:l[k]=13∧l[k+1]?=some 10):lineN (l.drop k)=0:=by
 rw[drop_at hk,lineN_cons,if_pos]
 exact⟨h.1,by rw[List.head?_drop];exact h.2⟩
theorem line_last{l:List UInt8}{k:Nat}(h1:l.length≤k+1)(h2:k≤l.length):lineN (l.drop k)=l.length-k:=by
 have e:(l.drop k).length=l.length-k:=List.length_drop
 generalize l.drop k=d at e
 cases d with
 |nil=>simp at e;simp[lineN];omega
 |cons c t=>
  cases t with
  |nil=>simp at e;rw[lineN_cons,if_neg (by simp)];simp[lineN];omega
  |cons=>simp at e;omega
theorem next_of{l:List UInt8}{at_:Nat}(h:at_≤l.length):at_+nextN (l.drop at_)=if at_+lineN (l.drop at_)<l.length then at_+lineN (l.drop at_)+2 else at_+lineN (l.drop at_):=by
 unfold nextN
 rw[List.length_drop]
 split<;>split<;>omega
theorem rline_run(p:Option Addr)(l:List UInt8)(c at_:Nat)(w:World)(hb:Bs w p l)(hs:l.length<4611686018427387904)(ha:at_≤l.length):
 Calls Tryz.prog 58 #[.slice p l.length c,.int .i64 at_] w fun e w'=>e=.returned (.tuple #[.int .i64 ((at_+lineN (l.drop at_):Nat):Int),.int .i64 ((at_+nextN (l.drop at_):Nat):Int)])∧w'=w:=by
 obtain⟨N,hN⟩:∃N,N=at_+lineN (l.drop at_):=⟨_,rfl⟩
 obtain⟨X,hX⟩:∃X,X=at_+nextN (l.drop at_):=⟨_,rfl⟩
 have HX:=hid (hX.trans (next_of ha))
 rw[←hN]at HX
 have HN:=hid hN
 rw[←hN,←hX]
 have HB:=hid hb
 clear hN hX hb
 go_enter Tryz.func58,Tryz.ntmps58
 go_wp2_with fail
 go_loopg [6] (l.length-at_) (fun gg v6 wr=>∃k:Nat,v6=.int .i64 k∧k+gg=l.length∧Hid (wr=w∧at_≤k∧N=k+lineN (l.drop k)))
 case atStart=>exact⟨at_,rfl,by omega,hid ⟨rfl,Nat.le_refl _,HN.out⟩⟩
 case round=>
  obtain⟨k,rfl,hk,H⟩:=hrel
  have HK:=hid hk
  have hkn:k≤l.length:=by omega
  clear hk
  have ew:=H.out.1
  subst ew
  by_cases hlt:k+1<l.length
  ·have b0:decide ((k:Int)+1<(l.length:Int))=true:=decide_eq_true (by omega)
   obtain⟨b,o,rfl,hc⟩:=HB.out (by omega)
   have h0:=hc k (by omega)
   have h1:=hc (k+1) hlt
   have HS:=hid (line_step (l:=l) (k:=k) (by omega))
   have HH:=hid (line_here (l:=l) (k:=k) (by omega))
   have e1:l[k+1]?=some l[k+1]:=List.getElem?_eq_getElem hlt
   rw[e1]at HS HH
   have HE:=hid (show∀x y:UInt8,(x.toNat:Int)=(y.toNat:Int)→x=y from fun x y h=>UInt8.toNat_inj.1 (by omega))
   clear hc e1
   obtain⟨x,hx⟩:∃x,x=l[k]'(by omega):=⟨_,rfl⟩
   obtain⟨y,hy⟩:∃y,y=l[k+1]'hlt:=⟨_,rfl⟩
   rw[←hx]at h0
   rw[←hy]at h1
   have HXX:=hid hx
   have HYY:=hid hy
   clear hx hy
   by_cases hx13:x=13
   ·have b1:((x.toNat:Int)==13)=true:=by rw[hx13];rfl
    by_cases hy10:y=10
    ·have b2:((y.toNat:Int)==10)=true:=by rw[hy10];rfl
     have HZ:=hid (HH.out ⟨by rw[←HXX.out,hx13],by rw[←HYY.out,hy10]⟩)
     have HNK:=hid (show N=k by have:=H.out.2.2;rw[HZ.out]at this;omega)
     have HXK:=hid (show X=k+2 by have:=HX.out;rw[HNK.out,if_pos (by omega)]at this;exact this)
     clear hx13 hy10
     go_wp2_with fail
     go_ret2
     exact⟨by rw[HNK.out,HXK.out];rfl,rfl⟩
    ·have b2:((y.toNat:Int)==10)=false:=by rw[beq_eq_false_iff_ne];exact fun e=>hy10 (HE.out y 10 e)
     have HZ:=hid (HS.out fun e=>hy10 (by have:=e.2;rw[←HYY.out]at this;exact Option.some.inj this))
     clear hx13 hy10
     go_wp2_with fail
     go_roundg (gk-1)
     case measure=>have:=HK.out;omega
     case rel=>exact⟨k+1,by go_num,by have:=HK.out;omega,hid ⟨rfl,by have:=H.out.2.1;omega,by have:=H.out.2.2;rw[HZ.out]at this;omega⟩⟩
   ·have b1:((x.toNat:Int)==13)=false:=by rw[beq_eq_false_iff_ne];exact fun e=>hx13 (HE.out x 13 e)
    have HZ:=hid (HS.out fun e=>hx13 (by have:=e.1;rw[←HXX.out]at this;exact this))
    clear hx13
    go_wp2_with fail
    go_roundg (gk-1)
    case measure=>have:=HK.out;omega
    case rel=>exact⟨k+1,by go_num,by have:=HK.out;omega,hid ⟨rfl,by have:=H.out.2.1;omega,by have:=H.out.2.2;rw[HZ.out]at this;omega⟩⟩
  ·have b0:decide ((k:Int)+1<(l.length:Int))=false:=decide_eq_false (by omega)
   have HNK:=hid (show N=l.length by have:=H.out.2.2;rw[line_last (by omega) hkn]at this;omega)
   have HXK:=hid (show X=l.length by have:=HX.out;rw[HNK.out,if_neg (by omega)]at this;exact this)
   go_wp2_with fail
   go_ret2
   exact⟨by rw[HNK.out,HXK.out];rfl,rfl⟩
end Go.Proofs.YtmlmkmhkmifnkaaGreatDoor.Hs
namespace Go.Proofs.YtmlmkmhkmifnkaaGreatDoor.Hs
open Go.RowKit
open Ci (hid Bel own_bel own_base row_shape addr_add Lay)
def bV(l:List UInt8):List Value:=l.map fun x=>.int .u8 (x.toNat:Int)
theorem bV_app(a b:List UInt8):bV (a++b)=bV a++bV b:=by unfold bV;rw[List.map_append]
theorem bV_len(l:List UInt8):(bV l).length=l.length:=by unfold bV;rw[List.length_map]
theorem bV_at(l:List UInt8)(j:Nat)(hj:j<l.length):(bV l)[j]?=some (.int .u8 (l[j].toNat:Int)):=by
 unfold bV;rw[List.getElem?_map,List.getElem?_eq_getElem hj];rfl
theorem bV_one(l:List UInt8):∀u∈bV l,u.oneCell'=true:=fun u hu=>by
 obtain⟨x,-,rfl⟩:=List.mem_map.1 hu;rfl
theorem u8_infos:(Tryz.prog.info? 5).map (fun i=>(i.zero,i.size,i.bytes))=some (some (.int .u8 0),1,1):=by kernel_rfl
def Ob(a W:World)(v:Value)(l:List UInt8):Prop:=W.ownsRow a.heap.size 5 1 v l.length (bV l)
theorem Ob.next{a W W':World}{v:Value}{l:List UInt8}(h:Ob a W v l)(hb:Bel W W'):Ob a W' v l:=own_bel h hb
structure Br (W:World) (p:Option Addr) (c:Nat) (l:List UInt8):Prop where
 bs:Bs W p l
 le:l.length≤c
 lt:c≤9223372036854775807
 nil:p=none→c=0
theorem Br.next{W W':World}{p:Option Addr}{c:Nat}{l:List UInt8}(h:Br W p c l)(hb:Bel W W'):Br W' p c l:=⟨h.bs.next hb,h.le,h.lt,h.nil⟩
theorem Ob.read{a W:World}{x:Option Addr}{n c:Nat}{l:List UInt8}(h:Ob a W (.slice x n c) l):n=l.length∧Br W x c l:=by
 obtain⟨x',c',e,h1,h2⟩:=row_shape h
 cases e
 refine⟨rfl,⟨fun h0=> ?_,h1,h2,fun e=> ?_⟩⟩
 ·rcases h.2 with⟨e,h3⟩|⟨g,cap,cur,e,-⟩
  ·omega
  ·cases e
   refine⟨g,0,rfl,fun i hi=> ?_⟩
   rw[Nat.zero_add,World.ownsRow.cellAt h i (by omega)]
   exact bV_at l i hi
 ·subst e
  rcases h.2 with⟨e,h3⟩|⟨g,cap,cur,e,-⟩
  ·simp only[Value.slice.injEq]at e;exact e.2.2
  ·cases e
theorem bs_cells{W:World}{ad:Addr}{l:List UInt8}(h:Bs W (some ad) l):∀j u,(bV l)[j]?=some u→W.cell? (ad.add j)=some u:=fun j u hu=>by
 have hj:j<l.length:=by rw[←bV_len];exact(List.getElem?_eq_some_iff.1 hu).1
 obtain⟨b,o,e,hc⟩:=h (by omega)
 cases e
 rw[addr_add,hc j hj,←bV_at l j hj];exact hu
theorem wpList_append_bs {a0 W:World} {ops:Array Oper} {rest:List Oper} {o:Oper} {a:Act} {Q:Exit→Act→World→Prop} (hgd:o.guard=none) (s x:Operand)
 (ho:o.op=.call {callee:=.builtin .append,args:=#[s,x],argTypes:=#[48,48]})
 (v:Value) (l t:List UInt8) (p:Option Addr) (c:Nat) (hs:a.eval s=v) (hown:Ob a0 W v l) (hb:Bel a0 W) (hx:a.eval x=.slice p t.length c) (ht:Br W p c t) (hm:l.length+t.length≤140737488355328)
 (h:∀v' w',Ob a0 w' v' (l++t)→Bel a0 w'→W.grownBy w' v.ownBlock→wpList Tryz.prog ops Q rest (a.put o.dst v') w'):wpList Tryz.prog ops Q (o::rest) a W:=by
 obtain⟨i,hi,j2,j3,j4⟩:=info_parts u8_infos
 cases p with
 |none=>
  have h0:t=[]:=by
   apply List.length_eq_zero_iff.mp
   have:=ht.nil rfl;have:=ht.le;omega
  subst h0
  have hc:=ht.nil rfl
  subst hc
  refine wpList_append_own_none hgd s x 48 ho a0.heap.size 5 i 1 Tryz.underlying48 hi v l.length (bV l) hs hown hx ?_
  refine h v W (by rw[List.append_nil];exact hown) hb ⟨rfl,rfl,rfl,Nat.le_refl _,fun _ _ _=>rfl⟩
 |some ad=>
  refine wpList_append_own _ hgd s x 48 ho a0.heap.size 5 i _ 1 1 Tryz.underlying48 hi j2 j3 j4 rfl (by decide) v l.length (bV l) hs hown ad t.length c (bV t) hx (by rw[bV_len,Nat.mul_one]) (bs_cells ht.bs) (bV_one t) (by unfold maxLen;omega) (by omega) hb.size ?_
  intro v' w' h2 hg _
  refine h v' w' ?_ (Bel.grown hb hg hown) hg
  unfold Ob
  rw[bV_app,List.length_append]
  exact h2
theorem wpList_builtin_eq {P:Program} {w w':World} {ops:Array Oper} {rest:List Oper} {o:Oper} {a:Act} {Q:Exit→Act→World→Prop} (hgd:o.guard=none) (s x:Operand) (ts:Array TypeId)
 (ho:o.op=.call {callee:=.builtin .append,args:=#[s,x],argTypes:=ts}) (v u r:Value) (hs:a.eval s=v) (hx:a.eval x=u) (hrun:(Builtin.append_ ts o.type #[v,u]).run P w=.ok r w')
 (h:wpList P ops Q rest (a.put o.dst r) w'):wpList P ops Q (o::rest) a w:=by
 refine wpList_plain hgd fun K hK=> ?_
 unfold Oper.wp
 simp[execOp,ho,resolve,invoke,builtin,hs,hx,hrun,Result.andThen]
 exact hK _ _ h
theorem clone_run(p:Option Addr)(c:Nat)(l:List UInt8)(w:World)(hb:Br w p c l)(hs:l.length≤140737488355328):Calls Tryz.prog 53 #[.slice p l.length c] w fun e w'=>∃q d,e=.returned (.slice q l.length d)∧Bel w w'∧Br w' q d l:=by
 have HB:=hid hb
 have hq:=fun(W:World) (a:Option Addr) (l c:Nat)=>Lib.run_eql_slice_nil (P:=Tryz.prog) W 48 5 a l c 0 0 Tryz.underlying48
 cases p with
 |none=>
  have h0:l=[]:=by
   apply List.length_eq_zero_iff.mp
   have:=hb.nil rfl;have:=hb.le;omega
  subst h0
  have hc:=hb.nil rfl
  subst hc
  go_enter Tryz.func53,Tryz.ntmps53
  go_wp2_with fail
  go_ret
  exact⟨none,0,rfl,Bel.refl w,HB.out⟩
 |some ad=>
  go_enter Tryz.func53,Tryz.ntmps53
  go_wp2_with (first|(at_builtin;refine wpList_append_bs (a0:=w) (W:=w.alloc (.cells #[] 5)) rfl (.tmp 5) (.tmp 6) rfl (.slice (some ⟨w.heap.size,0,none⟩) 0 0) [] l (some ad) c rfl (World.ownsRow_made w #[] 0 (Nat.le_refl _) (by decide) rfl) ((Bel.refl w).alloc _) rfl (HB.out.next ((Bel.refl w).alloc _)) (by simpa using hs) ?_;intro v' w' ho' hb' hg';rw[List.nil_append]at ho';obtain⟨q,d,hv,-,-⟩:=row_shape ho';subst hv))
  go_ret
  exact⟨q,d,rfl,hb',ho'.read.2⟩
theorem grow0_run(n:Nat)(w:World)(h0:0<n)(hn:n≤1099511627776):Calls Tryz.prog 114 #[.slice none 0 0,.int .i64 n] w fun e w'=>∃v,e=.returned v∧Bel w w'∧Ob w w' v []:=by
 obtain⟨i,hi,j2,j3,j4⟩:=info_parts u8_infos
 have hold:(Builtin.firstCells i.size 0 (.slice none 0 0)).run Tryz.prog w.drew=.ok ([]:List Value).toArray w.drew:=by
  simp[Builtin.firstCells]
 obtain⟨G,hG⟩:∃G,G=grownCap w (0+n) 0 5:=⟨_,rfl⟩
 have hGn:n≤G:=by have:=grownCap_ge w (0+n) 0 5;omega
 have hGm:G≤maxLen:=by rw[hG];exact grownCap_le_maxLen w _ _ _ (by unfold maxLen;omega)
 have happ:=fun ty=>Lib.run_append_grow_zeros w 48 3 ty 5 i _ .i64 .i64 Tryz.underlying48 Tryz.underlying3 hi j2 none 0 0 [] hold n h0 (by rw[j3];decide) (by omega) (by omega) (by rw[j4];omega) (by rw[j4];exact growslice_fits (by omega) (by omega))
 rw[←hG]at happ
 rw[Nat.zero_add]at happ
 have b0:decide ((n:Int)<0)=false:=decide_eq_false (by omega)
 have b1:0<n:=h0
 obtain⟨C,hC⟩:∃C:Array Value,C=(#[]:Array Value)++Builtin.zeroCells (Value.int .u8 0).cells n++Builtin.zeroCells (Value.int .u8 0).cells (G-n):=⟨_,rfl⟩
 have happ2:∀ty,(Builtin.append_ #[48,3] ty #[.slice none 0 0,.int .i64 n]).run Tryz.prog w=.ok (.slice (some ⟨w.heap.size,0,none⟩) n G) (w.drew.alloc (.cells C 5)):=fun ty=>by rw[hC];exact happ ty
 have hCs:C.size=G*1:=by
  rw[hC]
  simp only[Array.size_append,size_zeroCells]
  show 0+n*1+(G-n)*1=G*1
  omega
 clear happ hC hG hold hi j2 j3 j4
 go_enter Tryz.func114,Tryz.ntmps114
 go_wp2_with (first|(at_builtin;refine wpList_builtin_eq rfl (.tmp 20) (.tmp 21) _ rfl _ _ _ rfl rfl (happ2 _) ?_))
 go_ret
 refine⟨_,rfl,?_,?_⟩
 ·first|exact((Bel.refl w).drew).alloc _|exact((Bel.refl w).alloc _).drew
 ·first|exact World.ownsRow_made (e:=5) (base:=w.heap.size) (size:=1) w.drew C G (Nat.le_refl _) hGm hCs|exact(World.ownsRow_made (e:=5) (base:=w.heap.size) (size:=1) w C G (Nat.le_refl _) hGm hCs).drew
end Go.Proofs.YtmlmkmhkmifnkaaGreatDoor.Hs
namespace Go.Proofs.YtmlmkmhkmifnkaaGreatDoor.Hs
open Go.RowKit
open Ci (hid Bel)
def colI(l:List UInt8):Int:=match nameN l with
 |some c=>(c:Int)
 |none=> -1
theorem bs_take{W:World}{p:Option Addr}{l:List UInt8}(h:Bs W p l)(k:Nat):Bs W p (l.take k):=fun h0=>by
 have hl:(l.take k).length≤l.length:=by rw[List.length_take];omega
 obtain⟨b,o,e,hc⟩:=h (by omega)
 exact⟨b,o,e,fun i hi=>by rw[hc i (by omega)];simp⟩
theorem colN_here{l:List UInt8}{k:Nat}(hk:k<l.length)(h:∀c∈l.take k,c≠58)(h58:l[k]=58):colN l=k:=by
 have e:l=l.take k++58::l.drop (k+1):=by
  conv=>lhs;rw[←List.take_append_drop k l,drop_at hk,h58]
 have:=colN_at (l.take k) (l.drop (k+1)) h
 rw[←e,List.length_take]at this
 omega
theorem colN_none{l:List UInt8}(h:∀c∈l,c≠58):colN l=l.length:=by
 unfold colN
 congr 1
 induction l with
 |nil=>rfl
 |cons c t ih=>
  have hc:=h c (by simp)
  rw[List.takeWhile_cons,if_pos (by simpa using hc),ih fun x hx=>h x (by simp[hx])]
theorem nameQ_take{l:List UInt8}{k:Nat}(hk:k<l.length)(h:colN l=k):colI l=if nameQ (l.take k)=true then(k:Int)else -1:=by
 unfold colI nameN nameQ
 rw[h]
 have e:(l.take k).isEmpty=decide (k=0):=by
  cases k with
  |zero=>rfl
  |succ n=>cases l with
   |nil=>simp at hk
   |cons=>rfl
 rw[e]
 by_cases h0:k=0
 ·subst h0;simp
 ·by_cases ha:(l.take k).all nameB=true
  ·rw[if_pos ⟨hk,by omega,ha⟩,ha,if_pos (by simp[h0])]
  ·rw[if_neg (fun hh=>ha hh.2.2),if_neg (by simp[ha])]
theorem colI_none{l:List UInt8}(h:colN l=l.length):colI l= -1:=by
 unfold colI nameN
 rw[h,if_neg (by omega)]
theorem ne_snoc{l:List UInt8}{k:Nat}(hk:k<l.length)(h:∀c∈l.take k,c≠58)(h1:l[k]≠58):∀c∈l.take (k+1),c≠58:=fun c hc=>by
 rw[List.take_succ_eq_append_getElem hk]at hc
 rcases List.mem_append.1 hc with hc|hc
 ·exact h c hc
 ·rw[List.mem_singleton.1 hc];exact h1
theorem rcolon_run(p:Option Addr)(l:List UInt8)(c:Nat)(w:World)(hb:Bs w p l)(hs:l.length<4611686018427387904)(hcap:l.length≤c):
 Calls Tryz.prog 59 #[.slice p l.length c] w fun e w'=>e=.returned (.int .i64 (colI l))∧w'=w:=by
 have HB:=hid hb
 obtain⟨C,hC⟩:∃C,C=colI l:=⟨_,rfl⟩
 have HC:=hid hC
 rw[←hC]
 clear hC
 clear hb
 go_enter Tryz.func59,Tryz.ntmps59
 go_wp2_with fail
 go_loopg [3] l.length (fun gg v3 wr=>∃k:Nat,v3=.int .i64 k∧k+gg=l.length∧Hid (wr=w∧∀x∈l.take k,x≠58))
 case atStart=>exact⟨0,rfl,by omega,hid ⟨rfl,by simp⟩⟩
 case round=>
  obtain⟨k,rfl,hk,H⟩:=hrel
  have HK:=hid hk
  have hkn:k≤l.length:=by omega
  clear hk
  have ew:=H.out.1
  subst ew
  by_cases hlt:k<l.length
  ·have b0:decide ((k:Int)<(l.length:Int))=true:=decide_eq_true (by omega)
   obtain⟨b,o,rfl,hc⟩:=HB.out (by omega)
   have h0:=hc k (by omega)
   have HE:=hid (show∀x y:UInt8,(x.toNat:Int)=(y.toNat:Int)→x=y from fun x y h=>UInt8.toNat_inj.1 (by omega))
   have HS:=hid (ne_snoc hlt H.out.2)
   have HH:=hid (colN_here hlt H.out.2)
   obtain⟨x,hx⟩:∃x,x=l[k]'(by omega):=⟨_,rfl⟩
   rw[←hx]at h0
   have HXX:=hid hx
   clear hx hc
   by_cases hx58:x=58
   ·have b1:((x.toNat:Int)==58)=true:=by rw[hx58];rfl
    have HN:=hid (nameQ_take hlt (HH.out (by rw[←HXX.out,hx58])))
    have hlen:(l.take k).length=k:=by rw[List.length_take];omega
    have hcv:=conv_bs (bs_take HB.out k) c
    rw[hlen]at hcv
    have hr:=rname_run ⟨(l.take k).toArray⟩ wr (by show(l.take k).toArray.size<_;rw[List.size_toArray,hlen];omega)
    have hr:=(show Hid (Calls Tryz.prog 119 #[.string ⟨(l.take k).toArray⟩] wr fun e w'=>e=.returned (.bool (nameQ (l.take k)))∧w'=wr)from hid (by simpa using hr))
    obtain⟨q,hq⟩:∃q,q=nameQ (l.take k):=⟨_,rfl⟩
    rw[←hq]at hr HN
    obtain⟨s,hs'⟩:∃s:ByteArray,s=⟨(l.take k).toArray⟩:=⟨_,rfl⟩
    rw[←hs']at hcv hr
    clear hlen hs' hq hx58
    have hkc:k≤c:=by omega
    cases q with
    |true=>
     have HV:=hid (show C=(k:Int) by rw[HC.out,HN.out,if_pos rfl])
     go_wp2_with (go_at_call 119;refine hr.out.mono ?_;rintro _ w2 ⟨rfl,rfl⟩)
     go_ret
     exact⟨by rw[HV.out];rfl,rfl⟩
    |false=>
     have HV:=hid (show C= -1 by rw[HC.out,HN.out,if_neg (by decide)])
     go_wp2_with (go_at_call 119;refine hr.out.mono ?_;rintro _ w2 ⟨rfl,rfl⟩)
     go_ret
     exact⟨by rw[HV.out];rfl,rfl⟩
   ·have b1:((x.toNat:Int)==58)=false:=by rw[beq_eq_false_iff_ne];exact fun e=>hx58 (HE.out x 58 e)
    have HZ:=hid (HS.out (by rw[←HXX.out];exact hx58))
    clear hx58
    go_wp2_with fail
    go_roundg (gk-1)
    case measure=>have:=HK.out;omega
    case rel=>exact⟨k+1,by go_num,by have:=HK.out;omega,hid ⟨rfl,HZ.out⟩⟩
  ·have b0:decide ((k:Int)<(l.length:Int))=false:=decide_eq_false (by omega)
   have HV:=hid (show C= -1 by
    rw[HC.out];refine colI_none (colN_none ?_)
    have:=H.out.2
    rwa[List.take_of_length_le (by omega)]at this)
   go_wp2_with fail
   go_ret
   exact⟨by rw[HV.out];rfl,rfl⟩
end Go.Proofs.YtmlmkmhkmifnkaaGreatDoor.Hs