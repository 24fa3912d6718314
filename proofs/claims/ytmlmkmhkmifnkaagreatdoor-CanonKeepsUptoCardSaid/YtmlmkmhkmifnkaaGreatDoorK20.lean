import Derived.Test.YtmlmkmhkmifnkaaGreatDoorK19
import Derived.Lib.AppendZerosOnto
import Derived.Lib.Overlaps
import Derived.Maps.OwnIn
set_option maxHeartbeats 16000000
set_option maxRecDepth 1000000
namespace Go.Proofs.YtmlmkmhkmifnkaaGreatDoor.Tb
open Go.RowKit
open Ci (Bel hid own_bel row_shape own_base addr_add)
section
variable {P:Program}
theorem run_copy_structs (w:World) (dT sT ty elem:TypeId) (S g o dLen dCap:Nat) (a:Addr) (sLen sCap:Nat) (cur:Array Value) (t:TypeId) (cs:List Value)
 (hu:P.underlying dT=some (.slice elem)) (hs:(P.info? elem).map (·.size)=some S)
 (hg:w.heap[g]?=some (.cells cur t (0,0))) (hn:cs.length=Nat.min sLen dLen*S)
 (hsrc:∀j v,cs[j]?=some v→w.cell? (a.add j)=some v) (hfit:o+cs.length≤cur.size) (h1:∀v∈cs,v.oneCell'=true):
 (Builtin.copy_ #[dT,sT] ty #[.slice (some ⟨g,o,none⟩) dLen dCap,.slice (some a) sLen sCap]).run P w=
   .ok (goInt (Nat.min sLen dLen)) (w.setRow g (cur.toList.take o++cs++cur.toList.drop (o+cs.length)).toArray):=by
 have hl:=run_loadCells_list (P:=P) w a cs hsrc
 have hst:=run_storeCells_at P g o t cs 0 cur w hg (by simpa using hfit) h1
 cases hq:P.info? elem with
 |none=>simp[hq]at hs
 |some i=>
  have hi:i.size=S:=by simpa[hq]using hs
  simp[Builtin.copy_,run_underlying hu,Builtin.lenOf,Builtin.firstCells,sizeOf,typeInfo,hq,hi,←hn,hl,hst]
theorem wp_copy_known (w:World) {o:Oper} {a:Act} {K:Act→World→Prop} {Q:Exit→Act→World→Prop} (d s:Operand) (t t':TypeId)
 (ho:o.op=.call {callee:=.builtin .copy,args:=#[d,s],argTypes:=#[t,t']}) (v u:Value) (hd:a.eval d=v) (hs:a.eval s=u) {v':Value} {w':World}
 (hr:(Builtin.copy_ #[t,t'] o.type #[v,u]).run P w=.ok v' w') (h:K (a.put o.dst v') w'):o.wp P a w K Q:=by
 unfold Oper.wp execOp
 simp only[ho,resolve,invoke,builtin,Sem.run_bind,Sem.run_pure,Result.andThen_ok,List.map_toArray,List.map_cons,List.map_nil,hd,hs,hr]
 exact h
theorem step_copy_known {ops:Array Oper} {o:Oper} {a:Act} {w:World} {K:Act→World→Prop} {Q:Exit→Act→World→Prop} {E:Prop}
 (hg:o.guard=none) (d s:Operand) (t t':TypeId) (ho:o.op=.call {callee:=.builtin .copy,args:=#[d,s],argTypes:=#[t,t']})
 (v u:Value) (hd:a.eval d=v) (hs:a.eval s=u) {v':Value} {w':World} (hr:(Builtin.copy_ #[t,t'] o.type #[v,u]).run P w=.ok v' w') (hK:K (a.put o.dst v') w'):
 if Region.wanted o (yielded ops a.tmps)=true then Oper.wp P o a w K Q else E:=by
 have hw:Region.wanted o (yielded ops a.tmps)=true:=by simp[Region.wanted,hg]
 rw[if_pos hw]
 exact wp_copy_known w d s t t' ho v u hd hs hr hK
end
def enC(e:En):List Value:=[.string ⟨e.key.toArray⟩,.string ⟨e.val.toArray⟩]
def enCs(es:List En):List Value:=es.flatMap enC
theorem enCs_len:∀es:List En,(enCs es).length=es.length*2
 |[]=>rfl
 |e::es=>by
  show(enC e++enCs es).length=_
  rw[List.length_append,enCs_len es,List.length_cons]
  show 2+_=_
  omega
theorem enCs_app(a b:List En):enCs (a++b)=enCs a++enCs b:=by unfold enCs;rw[List.flatMap_append]
theorem enCs_one:∀(es:List En),∀v∈enCs es,v.oneCell'=true:=fun es v hv=>by
 unfold enCs at hv
 obtain⟨e,-,he⟩:=List.mem_flatMap.1 hv
 simp only[enC,List.mem_cons,List.not_mem_nil,or_false]at he
 rcases he with rfl|rfl<;>rfl
theorem enCs_take(es:List En)(i:Nat):(enCs es).take (i*2)=enCs (es.take i):=by
 by_cases hi:i≤es.length
 ·have e:enCs es=enCs (es.take i)++enCs (es.drop i):=by rw[←enCs_app,List.take_append_drop]
  have hl:(enCs (es.take i)).length=i*2:=by rw[enCs_len,List.length_take,Nat.min_eq_left hi]
  rw[e,←hl,List.take_left]
 ·rw[List.take_of_length_le (by rw[enCs_len];omega),List.take_of_length_le (by omega)]
theorem enCs_drop(es:List En)(i:Nat):(enCs es).drop (i*2)=enCs (es.drop i):=by
 by_cases hi:i≤es.length
 ·have e:enCs es=enCs (es.take i)++enCs (es.drop i):=by rw[←enCs_app,List.take_append_drop]
  have hl:(enCs (es.take i)).length=i*2:=by rw[enCs_len,List.length_take,Nat.min_eq_left hi]
  rw[e,←hl,List.drop_left]
 ·rw[List.drop_eq_nil_of_le (by rw[enCs_len];omega),List.drop_eq_nil_of_le (by omega)];rfl
theorem en_infos:(Tryz.prog.info? 122).map (fun i=>(i.zero,i.size,i.bytes))=some (some (.agg #[.string ⟨#[]⟩,.string ⟨#[]⟩]),2,32):=by kernel_rfl
theorem en_size:(Tryz.prog.info? 122).map (·.size)=some 2:=by kernel_rfl
def InsPost(base:Nat)(v:Value)(L:List En)(w:World)(e:Ending)(w':World):Prop:=∃v',e=.returned v'∧w'.ownsRow base 122 2 v' L.length (enCs L)∧w.grownBy w' v.ownBlock
theorem grown_at{w w':World}{g:Nat}(ho:w'.os=w.os)(ht:w'.tape=w.tape)(hp:w'.output=w.output)(hs:w.heap.size≤w'.heap.size)(hb:∀k,k<w.heap.size→k≠g→w'.heap[k]?=w.heap[k]?):w.grownBy w' (some g):=
 ⟨ho,ht,hp,hs,fun k hk hn=>hb k hk fun e=>hn (by rw[e])⟩
theorem ins_list(es:List En)(e:En)(i:Nat):enCs (es.take i++e::es.drop i)=(enCs es).take (i*2)++enC e++(enCs es).drop (i*2):=by
 rw[enCs_app,show enCs (e::es.drop i)=enC e++enCs (es.drop i)from rfl,enCs_take,enCs_drop,List.append_assoc]
theorem ins_length(es:List En)(e:En)(i:Nat)(hi:i≤es.length):(es.take i++e::es.drop i).length=es.length+1:=by
 rw[List.length_append,List.length_cons,List.length_take,List.length_drop];omega
abbrev insF:FuncId:=70
theorem ins_end (base:Nat) (v:Value) (es:List En) (e:En) (vb:Nat) (w:World) (hown:w.ownsRow base 122 2 v es.length (enCs es)) (hvb:w.heap[vb]?=some (.cells (enC e).toArray 122 (0,0)))
 (hb:base≤w.heap.size) (hn:es.length≤2000):Calls Tryz.prog insF #[v,.int .i64 es.length,.slice (some ⟨vb,0,none⟩) 1 1] w (InsPost base v (es++[e]) w):=by
 obtain⟨i0,hi0,hz0,hz1,hz2⟩:=info_parts en_infos
 obtain⟨x,cap,rfl,hnc,hc63⟩:=row_shape hown
 have HX:=hid (show(es++[e]).length=es.length+1∧enCs (es++[e])=enCs es++enC e from⟨by simp,enCs_app es [e]⟩)
 have HS:=hid (show∀j u,(enC e)[j]?=some u→w.cell? ((⟨vb,0,none⟩:Addr).add j)=some u from fun j u hj=>by
  rw[addr_add,Nat.zero_add,Lib.cell_of_heap hvb]
  simpa using hj)
 have HO:=hid hown
 clear hvb hown
 have b0:((es.length:Int)==(es.length:Int))=true:=by simp
 generalize es.length=n at HO HX hnc hn b0⊢
 by_cases hcn:cap=n
 ·subst hcn
  go_enter Tryz.func70,Tryz.ntmps70
  go_wp2_with (first|(at_builtin;refine wpList_append_own _ rfl _ _ 110 rfl base 122 i0 _ 2 32 Tryz.underlying110 hi0 hz0 hz1 hz2 rfl (by decide) _ _ _ rfl HO.out ⟨vb,0,none⟩ 1 1 (enC e) rfl rfl HS.out (by simp[enC,Value.oneCell']) (by unfold maxLen;omega) (by omega) hb ?_;intro v' w2 hown2 hg2 _))
  go_ret
  exact⟨_,rfl,by rw[HX.out.1,HX.out.2];exact hown2,hg2⟩
 ·go_enter Tryz.func70,Tryz.ntmps70
  go_wp2_with (first|(at_builtin;refine wpList_append_own _ rfl _ _ 110 rfl base 122 i0 _ 2 32 Tryz.underlying110 hi0 hz0 hz1 hz2 rfl (by decide) _ _ _ rfl HO.out ⟨vb,0,none⟩ 1 1 (enC e) rfl rfl HS.out (by simp[enC,Value.oneCell']) (by unfold maxLen;omega) (by omega) hb ?_;intro v' w2 hown2 hg2 _))
  go_ret
  exact⟨_,rfl,by rw[HX.out.1,HX.out.2];exact hown2,hg2⟩
theorem ins_room (base g cap:Nat) (cur:Array Value) (es:List En) (e:En) (i vb:Nat) (w:World) (hg:w.heap[g]?=some (.cells cur 122 (0,0))) (hcs:cur.size=cap*2) (hcur:cur.toList.take (es.length*2)=enCs es)
 (hvb:w.heap[vb]?=some (.cells (enC e).toArray 122 (0,0))) (hne:vb≠g) (hi:i<es.length) (hroom:es.length+1≤cap) (hbg:base≤g) (hcm:cap≤maxLen):
 Calls Tryz.prog insF #[.slice (some ⟨g,0,none⟩) es.length cap,.int .i64 i,.slice (some ⟨vb,0,none⟩) 1 1] w (InsPost base (.slice (some ⟨g,0,none⟩) es.length cap) (es.take i++e::es.drop i) w):=by
 obtain⟨n,hn⟩:∃n,n=es.length:=⟨_,rfl⟩
 have hL:(enCs es).length=n*2:=by rw[enCs_len,hn]
 obtain⟨row1,hr1⟩:∃row1:List Value,row1=cur.toList.take ((i+1)*2)++(enCs es).drop (i*2)++cur.toList.drop ((n+1)*2):=⟨_,rfl⟩
 obtain⟨row2,hr2⟩:∃row2:List Value,row2=row1.take (i*2)++enC e++row1.drop ((i+1)*2):=⟨_,rfl⟩
 rw[←hn]at hcur hi hroom⊢
 have hcl:cur.toList.length=cap*2:=by rw[Array.length_toList,hcs]
 have hr1l:row1.length=cap*2:=by
  rw[hr1,List.length_append,List.length_append,List.length_take,List.length_drop,List.length_drop,hL,hcl];omega
 have hR2:row2.length=cap*2∧row2.take ((n+1)*2)=enCs (es.take i++e::es.drop i):=by
  have ht:row1.take (i*2)=(enCs es).take (i*2):=by
   rw[hr1,List.append_assoc,List.take_append_of_le_length (by rw[List.length_take];omega),List.take_take,Nat.min_eq_left (by omega),←hcur,List.take_take,Nat.min_eq_left (by omega)]
  have hd:row1.drop ((i+1)*2)=(enCs es).drop (i*2)++cur.toList.drop ((n+1)*2):=by
   have hl:(cur.toList.take ((i+1)*2)).length=(i+1)*2:=by rw[List.length_take];omega
   rw[hr1,List.append_assoc]
   exact List.drop_left' hl
  rw[hr2,ht,hd,ins_list]
  have hl2:((enCs es).take (i*2)++enC e++(enCs es).drop (i*2)).length=(n+1)*2:=by
   rw[List.length_append,List.length_append,List.length_take,List.length_drop,hL];show _+2+_=_;omega
  constructor
  ·rw[←List.append_assoc,List.length_append,hl2,List.length_drop];omega
  ·rw[←List.append_assoc,←hl2,List.take_left]
 have hcp1:∀(W:World) (ty:TypeId) (dc sc:Nat),W.heap[g]?=some (.cells cur 122 (0,0))→(Builtin.copy_ #[110,110] ty #[.slice (some ⟨g,(i+1)*2,none⟩) (n-i) dc,.slice (some ⟨g,i*2,none⟩) (n+1-i) sc]).run Tryz.prog W=.ok (goInt (n-i:Nat)) (W.setRow g row1.toArray):=fun W ty dc sc hW=>by
  have hm:Nat.min (n+1-i) (n-i)=n-i:=by simp only[Nat.min_def];split<;>omega
  have hdl:((enCs es).drop (i*2)).length=(n-i)*2:=by rw[List.length_drop,hL];omega
  have:=run_copy_structs (P:=Tryz.prog) W 110 110 ty 122 2 g ((i+1)*2) (n-i) dc ⟨g,i*2,none⟩ (n+1-i) sc cur _ ((enCs es).drop (i*2)) Tryz.underlying110 en_size hW (by rw[hm,hdl]) (fun j v hj=>by
   rw[addr_add,Lib.cell_of_heap hW]
   rw[List.getElem?_drop,←hcur,List.getElem?_take]at hj
   split at hj
   ·rw[←hj];simp
   ·cases hj) (by rw[hdl,hcs];omega) (fun v hv=>enCs_one es v (List.mem_of_mem_drop hv))
  rw[hm]at this
  rw[this,hr1,hdl]
  congr 5
  omega
 have hcp2:∀(W:World) (ty:TypeId) (dc:Nat),W.heap[g]?=some (.cells row1.toArray 122 (0,0))→W.heap[vb]?=some (.cells (enC e).toArray 122 (0,0))→(Builtin.copy_ #[110,110] ty #[.slice (some ⟨g,i*2,none⟩) (n+1-i) dc,.slice (some ⟨vb,0,none⟩) 1 1]).run Tryz.prog W=.ok (goInt (1:Nat)) (W.setRow g row2.toArray):=fun W ty dc hW hV=>by
  have hm:Nat.min 1 (n+1-i)=1:=by simp only[Nat.min_def];split<;>omega
  have:=run_copy_structs (P:=Tryz.prog) W 110 110 ty 122 2 g (i*2) (n+1-i) dc ⟨vb,0,none⟩ 1 1 row1.toArray _ (enC e) Tryz.underlying110 en_size hW (by rw[hm];rfl) (fun j v hj=>by
   rw[addr_add,Nat.zero_add,Lib.cell_of_heap hV];simpa using hj) (by rw[List.size_toArray,hr1l];show _+2≤_;omega) (fun v hv=>by
    simp only[enC,List.mem_cons,List.not_mem_nil,or_false]at hv
    rcases hv with rfl|rfl<;>rfl)
  rw[hm]at this
  rw[this,hr2]
  congr 5
  show i*2+2=_
  omega
 have hov:∀(off lb cb:Nat),(callFunc 140 #[.slice (some ⟨vb,0,none⟩) 1 1,.slice (some ⟨g,off,none⟩) lb cb]).run Tryz.prog w=.ok (.value (.bool false)) w:=fun off lb cb=>by
  rw[run_callFunc_extern Tryz.func140 (by kernel_rfl) (by kernel_rfl) (by kernel_rfl) (e:=Extern.SlicesOverlaps.overlaps #[110,110] #[4]) (by kernel_rfl),
   Lib.run_overlaps_apart w 110 4 122 Tryz.underlying110 2 Tryz.sizeOf122 ⟨vb,0,none⟩ ⟨g,off,none⟩ 1 1 lb cb hne 122 122 2 (cap*2) (by simp[World.shape?,hvb,enC]) (by simp[World.shape?,hg,hcs]) (by omega) (by simp[World.frozen?,hvb]) (by simp[World.frozen?,hvb])]
  rfl
 have HG:=hid hg
 have HV:=hid hvb
 have HC1:=(show Hid _ from hid hcp1)
 have HC2:=(show Hid _ from hid hcp2)
 have HR:=hid hR2
 have HLn:=hid (show(es.take i++e::es.drop i).length=n+1 by rw[ins_length es e i (by omega),hn])
 have HB:=hid (And.intro hbg hcm)
 have HW1:=hid (show∀W:World,W.heap=w.heap→(W.setRow g row1.toArray).heap[g]?=some (.cells row1.toArray 122 (0,0))∧(W.setRow g row1.toArray).heap[vb]?=some (.cells (enC e).toArray 122 (0,0))from fun W hW=>⟨setRow_heap W g cur _ _ _ (by rw[hW];exact hg),by rw[setRow_other _ _ _ _ hne,hW];exact hvb⟩)
 have b1:((i:Int)==(n:Int))=false:=by rw[beq_eq_false_iff_ne];omega
 have b1n:¬(i:Int)=(n:Int):=by omega
 have b2:decide ((cap:Int)<(n:Int)+1)=false:=decide_eq_false (by omega)
 have n1:¬cap=i:=by omega
 have n2:¬cap=i+1:=by omega
 have hcap:cap≤9223372036854775807:=by unfold maxLen at hcm;omega
 have hw1:IntKind.i64.wrap ((i:Int)+1)=(i:Int)+1:=by rw[IntKind.wrap_i64];omega
 have h0:(0:Int)≤(i:Int)+1:=by omega
 have htn:((i:Int)+1).toNat=i+1:=by omega
 have hle:i≤n:=by omega
 have hle2:(i:Int)+1≤(n:Int)+1:=by omega
 have hle3:(i:Int)≤(n:Int)+1:=by omega
 clear hg hvb hcp1 hcp2 hR2 hr1 hr2 hr1l hL hcur hcs hcl hn hne hbg hcm
 go_enter Tryz.func70,Tryz.ntmps70
 go_wp2_with (simp only[hov])
 go_region_law (refine step_copy_known rfl _ _ 110 110 rfl (.slice (some ⟨g,(i+1)*2,none⟩) (n-i) (cap-(i+1))) (.slice (some ⟨g,i*2,none⟩) (n+1-i) (cap-i)) (by simp[Act.eval,Act.put]) (by simp[Act.eval,Act.put]) (HC1.out _ _ _ _ HG.out) ?_)
 have hcpE:∀ty:TypeId,(Builtin.copy_ #[110,110] ty #[.slice (some ⟨g,i*2,none⟩) (n+1-i) (cap-i),.slice (some ⟨vb,0,none⟩) 1 1]).run Tryz.prog (w.drew.setRow g row1.toArray)=.ok (goInt (1:Nat)) ((w.drew.setRow g row1.toArray).setRow g row2.toArray):=fun ty=>HC2.out _ ty _ (HW1.out _ rfl).1 (HW1.out _ rfl).2
 go_wp2_with (simp only[hcpE])
 go_ret
 refine⟨_,rfl,?_⟩
 have e2:((w.drew.setRow g row1.toArray).setRow g row2.toArray).heap[g]?=some (.cells row2.toArray 122 (0,0)):=setRow_heap _ g _ _ _ _ (HW1.out _ rfl).1
 refine⟨⟨by rw[enCs_len],.inr ⟨g,cap,row2.toArray,?_,HB.out.1,e2,?_,HB.out.2,?_,?_⟩⟩,?_⟩
 ·rw[HLn.out];rfl
 ·rw[HLn.out];exact hroom
 ·rw[List.size_toArray,HR.out.1]
 ·rw[HLn.out];exact HR.out.2
 ·exact grown_at rfl rfl rfl (by simp) fun k hk hne=>by rw[setRow_other _ _ _ _ hne,setRow_other _ _ _ _ hne];rfl
theorem ins_grow (base g:Nat) (cur:Array Value) (es:List En) (e:En) (i vb:Nat) (w:World) (hg:w.heap[g]?=some (.cells cur 122 (0,0))) (hcur:cur.toList=enCs es)
 (hvb:w.heap[vb]?=some (.cells (enC e).toArray 122 (0,0))) (hi:i<es.length) (hn2:es.length≤2000) (hb:base≤w.heap.size) (row:Option Nat):
 Calls Tryz.prog insF #[.slice (some ⟨g,0,none⟩) es.length es.length,.int .i64 i,.slice (some ⟨vb,0,none⟩) 1 1] w fun e' w'=>∃v',e'=.returned v'∧w'.ownsRow base 122 2 v' (es.take i++e::es.drop i).length (enCs (es.take i++e::es.drop i))∧w.grownBy w' row:=by
 obtain⟨i0,hi0,hz0,hz1,hz2⟩:=info_parts en_infos
 obtain⟨n,hn⟩:∃n,n=es.length:=⟨_,rfl⟩
 have hL:(enCs es).length=n*2:=by rw[enCs_len,hn]
 rw[←hn]at hi hn2⊢
 have hgw:g<w.heap.size:=(Array.getElem?_eq_some_iff.1 hg).1
 have hvw:vb<w.heap.size:=(Array.getElem?_eq_some_iff.1 hvb).1
 obtain⟨G,hG⟩:∃G,G=grownCap w (n+1) n 122:=⟨_,rfl⟩
 have hGn:n+1≤G:=by rw[hG];exact grownCap_ge w _ _ _
 have hGm:G≤maxLen:=by rw[hG];exact grownCap_le_maxLen w _ _ _ (by unfold maxLen;omega)
 obtain⟨row0,hr0⟩:∃row0:Array Value,row0=((enCs es).take (i*2)).toArray++Builtin.zeroCells (Value.agg #[.string ⟨#[]⟩,.string ⟨#[]⟩]).cells (n+1-i)++Builtin.zeroCells (Value.agg #[.string ⟨#[]⟩,.string ⟨#[]⟩]).cells (G-(n+1)):=⟨_,rfl⟩
 have hr0l:row0.toList.length=G*2∧row0.toList.take (i*2)=(enCs es).take (i*2):=by
  have hl:((enCs es).take (i*2)).length=i*2:=by rw[List.length_take];omega
  constructor
  ·rw[Array.length_toList,hr0,Array.size_append,Array.size_append,size_zeroCells,size_zeroCells,List.size_toArray,hl]
   show i*2+(n+1-i)*2+(G-(n+1))*2=_
   omega
  ·rw[hr0,Array.toList_append,Array.toList_append,List.append_assoc]
   exact List.take_left' hl
 obtain⟨row1,hr1⟩:∃row1:List Value,row1=row0.toList.take (i*2)++enC e++row0.toList.drop (i*2+(enC e).length):=⟨_,rfl⟩
 have hr1l:row1.length=G*2∧row1.take ((i+1)*2)=(enCs es).take (i*2)++enC e:=by
  have hl:((enCs es).take (i*2)++enC e).length=(i+1)*2:=by rw[List.length_append,List.length_take];show _+2=_;omega
  rw[hr1,hr0l.2]
  constructor
  ·rw[List.length_append,hl,List.length_drop,hr0l.1];show _+(_-(_+2))=_;omega
  ·exact List.take_left' hl
 obtain⟨row2,hr2⟩:∃row2:List Value,row2=row1.take ((i+1)*2)++(enCs es).drop (i*2)++row1.drop ((i+1)*2+((enCs es).drop (i*2)).length):=⟨_,rfl⟩
 have hR2:row2.length=G*2∧row2.take ((n+1)*2)=enCs (es.take i++e::es.drop i):=by
  rw[ins_list,hr2,hr1l.2]
  have hl2:((enCs es).take (i*2)++enC e++(enCs es).drop (i*2)).length=(n+1)*2:=by
   rw[List.length_append,List.length_append,List.length_take,List.length_drop,hL];show _+2+_=_;omega
  constructor
  ·rw[List.length_append,hl2,List.length_drop,List.length_drop,hL,hr1l.1];omega
  ·exact List.take_left' hl2
 have hrz:∀ty,(Builtin.append_ #[110,3] ty #[.slice (some ⟨g,0,none⟩) i n,.int .i64 ((n:Int)+1-(i:Int))]).run Tryz.prog w=.ok (.slice (some ⟨w.heap.size,0,none⟩) (n+1) G) (w.drew.alloc (.cells row0 122)):=fun ty=>by
  have hold:(Builtin.firstCells i0.size i (.slice (some ⟨g,0,none⟩) i n)).run Tryz.prog w.drew=.ok ((enCs es).take (i*2)).toArray w.drew:=by
   rw[hz1]
   exact run_firstCells_some w.drew 2 i ⟨g,0,none⟩ i n ((enCs es).take (i*2)) (by rw[List.length_take];omega) (fun j v hj=>by
    rw[addr_add,Nat.zero_add,Lib.cell_of_heap (show w.drew.heap[g]?=_ from hg)]
    rw[List.getElem?_take]at hj
    split at hj
    ·rw[←hj,←hcur];simp
    ·cases hj)
  have h:=Lib.run_append_grow_zeros w 110 3 ty 122 i0 _ .i64 .i64 Tryz.underlying110 Tryz.underlying3 hi0 hz0 (some ⟨g,0,none⟩) i n ((enCs es).take (i*2)) hold (n+1-i) (by omega) (by rw[hz1];omega) (by omega) (by omega) (by rw[hz2];omega) (by rw[hz2,show i+(n+1-i)=n+1 by omega];exact growslice_fits (by omega) (by omega))
  rw[show i+(n+1-i)=n+1 by omega,←hG,←hr0]at h
  rw[show(n:Int)+1-(i:Int)=((n+1-i:Nat):Int) by omega]
  exact h
 have hcpA:∀(W:World) (ty:TypeId) (dc:Nat),W.heap[w.heap.size]?=some (.cells row0 122 (0,0))→W.heap[vb]?=some (.cells (enC e).toArray 122 (0,0))→(Builtin.copy_ #[110,110] ty #[.slice (some ⟨w.heap.size,i*2,none⟩) (n+1-i) dc,.slice (some ⟨vb,0,none⟩) 1 1]).run Tryz.prog W=.ok (goInt (1:Nat)) (W.setRow w.heap.size row1.toArray):=fun W ty dc hW hV=>by
  have hm:Nat.min 1 (n+1-i)=1:=by simp only[Nat.min_def];split<;>omega
  have:=run_copy_structs (P:=Tryz.prog) W 110 110 ty 122 2 w.heap.size (i*2) (n+1-i) dc ⟨vb,0,none⟩ 1 1 row0 _ (enC e) Tryz.underlying110 en_size hW (by rw[hm];rfl) (fun j v hj=>by
   rw[addr_add,Nat.zero_add,Lib.cell_of_heap hV];simpa using hj) (by have:=hr0l.1;rw[Array.length_toList]at this;rw[this];show _+2≤_;omega) (fun v hv=>by
    simp only[enC,List.mem_cons,List.not_mem_nil,or_false]at hv
    rcases hv with rfl|rfl<;>rfl)
  rw[hm]at this
  rw[this,hr1]
 have hcpB:∀(W:World) (ty:TypeId) (dc sc:Nat),W.heap[w.heap.size]?=some (.cells row1.toArray 122 (0,0))→W.heap[g]?=some (.cells cur 122 (0,0))→(Builtin.copy_ #[110,110] ty #[.slice (some ⟨w.heap.size,(i+1)*2,none⟩) (n-i) dc,.slice (some ⟨g,i*2,none⟩) (n-i) sc]).run Tryz.prog W=.ok (goInt (n-i:Nat)) (W.setRow w.heap.size row2.toArray):=fun W ty dc sc hW hV=>by
  have hm:Nat.min (n-i) (n-i)=n-i:=Nat.min_self _
  have hdl:((enCs es).drop (i*2)).length=(n-i)*2:=by rw[List.length_drop,hL];omega
  have:=run_copy_structs (P:=Tryz.prog) W 110 110 ty 122 2 w.heap.size ((i+1)*2) (n-i) dc ⟨g,i*2,none⟩ (n-i) sc row1.toArray _ ((enCs es).drop (i*2)) Tryz.underlying110 en_size hW (by rw[hm,hdl]) (fun j v hj=>by
   rw[addr_add,Lib.cell_of_heap hV]
   rw[List.getElem?_drop,←hcur]at hj
   rw[←hj];simp) (by rw[hdl,List.size_toArray,hr1l.1];omega) (fun v hv=>enCs_one es v (List.mem_of_mem_drop hv))
  rw[hm]at this
  rw[this,hr2]
 have HA:=hid (And.intro hg hvb)
 have HCA:=(show Hid _ from hid hcpA)
 have HCB:=(show Hid _ from hid hcpB)
 have HR:=hid hR2
 have HLn:=hid (show(es.take i++e::es.drop i).length=n+1 by rw[ins_length es e i (by omega),hn])
 have HW0:=hid (show∀W:World,(∃u:World,u.heap=w.heap∧W.heap=(u.alloc (.cells row0 122)).heap)→W.heap[w.heap.size]?=some (.cells row0 122 (0,0))∧W.heap[vb]?=some (.cells (enC e).toArray 122 (0,0))∧W.heap[g]?=some (.cells cur 122 (0,0))from fun W ⟨u,hu,hW⟩=>by
  rw[hW]
  have h1:=heap_alloc_new u (.cells row0 122)
  rw[hu]at h1
  refine⟨h1,?_,?_⟩
  ·rw[heap_alloc_old u _ (by rw[hu];exact hvw),hu];exact hvb
  ·rw[heap_alloc_old u _ (by rw[hu];exact hgw),hu];exact hg)
 have HBz:=hid (And.intro hb hGm)
 have hneN:¬g=w.heap.size:=by omega
 have hneV:¬vb=w.heap.size:=by omega
 have HNE:=hid (And.intro hneN hneV)
 have b1:((i:Int)==(n:Int))=false:=by rw[beq_eq_false_iff_ne];omega
 have b1n:¬(i:Int)=(n:Int):=by omega
 have b2:decide ((n:Int)<(n:Int)+1)=true:=decide_eq_true (by omega)
 have n1:¬n=i:=by omega
 have n3:¬G=i:=by omega
 have n4:¬G=i+1:=by omega
 have hw1:IntKind.i64.wrap ((i:Int)+1)=(i:Int)+1:=by rw[IntKind.wrap_i64];omega
 have h0:(0:Int)≤(i:Int)+1:=by omega
 have htn:((i:Int)+1).toNat=i+1:=by omega
 have hle:i≤n:=by omega
 have hle2:(i:Int)+1≤(n:Int)+1:=by omega
 have hle3:(i:Int)≤(n:Int)+1:=by omega
 have hle4:(i:Int)≤(n:Int):=by omega
 have hG63:G≤9223372036854775807:=by unfold maxLen at hGm;omega
 clear hg hvb hcpA hcpB hR2 hr0 hr1 hr2 hr0l hr1l hL hcur hn hb hG hi0 hz0 hz1 hz2 hneN hneV hGm
 go_enter Tryz.func70,Tryz.ntmps70
 have h00:=HW0.out (w.alloc (.cells row0 122)).drew ⟨w,rfl,rfl⟩
 have hcpE:∀ty:TypeId,(Builtin.copy_ #[110,110] ty #[.slice (some ⟨w.heap.size,i*2,none⟩) (n+1-i) (G-i),.slice (some ⟨vb,0,none⟩) 1 1]).run Tryz.prog (w.alloc (.cells row0 122)).drew=.ok (goInt (1:Nat)) ((w.alloc (.cells row0 122)).drew.setRow w.heap.size row1.toArray):=fun ty=>HCA.out _ ty _ h00.1 h00.2.1
 have HE1:=hid (show((w.alloc (.cells row0 122)).drew.setRow w.heap.size row1.toArray).heap[w.heap.size]?=some (.cells row1.toArray 122 (0,0))∧((w.alloc (.cells row0 122)).drew.setRow w.heap.size row1.toArray).heap[g]?=some (.cells cur 122 (0,0))from⟨setRow_heap _ _ _ _ _ _ h00.1,by rw[setRow_other _ _ _ _ HNE.out.1];exact h00.2.2⟩)
 clear h00
 go_wp2_with (first|(at_builtin;refine Lib.wpList_append_run _ rfl _ _ _ _ rfl _ _ rfl rfl _ _ (hrz _) ?_)|(simp only[hcpE]))
 go_region_law (refine step_copy_known rfl _ _ 110 110 rfl (.slice (some ⟨w.heap.size,(i+1)*2,none⟩) (n-i) (G-(i+1))) (.slice (some ⟨g,i*2,none⟩) (n-i) (n-i)) (by simp[Act.eval,Act.put]) (by simp[Act.eval,Act.put]) (HCB.out _ _ _ _ HE1.out.1 HE1.out.2) ?_)
 go_wp2_with fail
 go_ret
 refine⟨_,rfl,?_⟩
 have e2:(((w.alloc (.cells row0 122)).drew.setRow w.heap.size row1.toArray).drew.setRow w.heap.size row2.toArray).heap[w.heap.size]?=some (.cells row2.toArray 122 (0,0)):=setRow_heap _ _ _ _ _ _ HE1.out.1
 refine⟨⟨by rw[enCs_len],.inr ⟨w.heap.size,G,row2.toArray,?_,HBz.out.1,e2,?_,HBz.out.2,?_,?_⟩⟩,?_⟩
 ·rw[HLn.out];rfl
 ·rw[HLn.out];exact hGn
 ·rw[List.size_toArray,HR.out.1]
 ·rw[HLn.out];exact HR.out.2
 ·refine⟨rfl,rfl,rfl,by simp,fun k hk _=> ?_⟩
  have hk2:k≠w.heap.size:=by omega
  rw[setRow_other _ _ _ _ hk2]
  show((w.alloc (.cells row0 122)).drew.setRow w.heap.size row1.toArray).heap[k]?=_
  rw[setRow_other _ _ _ _ hk2]
  exact heap_alloc_old w _ hk
theorem insert_run (base:Nat) (v:Value) (es:List En) (e:En) (i vb:Nat) (w:World) (hown:w.ownsRow base 122 2 v es.length (enCs es)) (hvb:w.heap[vb]?=some (.cells (enC e).toArray 122 (0,0)))
 (hne:v.ownBlock≠some vb) (hi:i≤es.length) (hb:base≤w.heap.size) (hn:es.length≤2000):Calls Tryz.prog insF #[v,.int .i64 i,.slice (some ⟨vb,0,none⟩) 1 1] w (InsPost base v (es.take i++e::es.drop i) w):=by
 by_cases hie:i=es.length
 ·subst hie
  have:=ins_end base v es e vb w hown hvb hb hn
  rw[List.take_of_length_le (Nat.le_refl _),List.drop_eq_nil_of_le (Nat.le_refl _)]
  exact this
 ·have hi2:i<es.length:=by omega
  rcases hown.2 with⟨-,h0⟩|⟨g,cap,cur,rfl,hbg,hg,hnc,hcm,hcs,hcur⟩
  ·omega
  ·by_cases hr:es.length+1≤cap
   ·exact ins_room base g cap cur es e i vb w hg hcs hcur hvb (fun e=>hne (by rw[e];rfl)) hi2 hr hbg hcm
   ·obtain rfl:cap=es.length:=by omega
    exact ins_grow base g cur es e i vb w hg (by rw[←hcur,List.take_of_length_le (by rw[Array.length_toList,hcs];exact Nat.le_refl _)]) hvb hi2 hn hb _
end Go.Proofs.YtmlmkmhkmifnkaaGreatDoor.Tb
namespace Go.Proofs.YtmlmkmhkmifnkaaGreatDoor.Tb
open Go.RowKit
open Ci (Bel hid own_bel row_shape own_base addr_add splitL)
theorem enCs_at(es:List En)(k:Nat)(hk:k<es.length)(j:Nat)(v:Value)(hv:(enC es[k])[j]?=some v):(enCs es)[k*2+j]?=some v:=by
 have hj:j<2:=(List.getElem?_eq_some_iff.1 hv).1
 have e:enCs es=enCs (es.take k)++(enC es[k]++enCs (es.drop (k+1))):=by
  have:es=es.take k++es[k]::es.drop (k+1):=by simp
  conv=>lhs;rw[this]
  rw[enCs_app];rfl
 have hl:(enCs (es.take k)).length=k*2:=by rw[enCs_len,List.length_take,Nat.min_eq_left (by omega)]
 rw[e,List.getElem?_append_right (by omega),hl,show k*2+j-k*2=j by omega,List.getElem?_append_left (by show j<2;exact hj)]
 exact hv
theorem ens_of_row{W:World}{base n c:Nat}{x:Option Addr}{es:List En}(h:W.ownsRow base 122 2 (.slice x n c) es.length (enCs es)):Ens W x es:=by
 rcases h.2 with⟨-,h0⟩|⟨g,cap,cur,e,-,hh,-⟩
 ·exact⟨.inl (List.eq_nil_of_length_eq_zero h0),.inl (List.eq_nil_of_length_eq_zero h0)⟩
 ·obtain⟨rfl,rfl,rfl⟩:=Value.slice.inj e
  refine⟨?_,.inr ⟨g,0,cur,rfl,hh⟩⟩
  refine .inr ⟨g,0,rfl,(Array.getElem?_eq_some_iff.1 hh).1,fun k hk=> ?_⟩
  have key:∀j v,(enC es[k])[j]?=some v→W.cell? ⟨g,0+k*2+j,none⟩=some v:=fun j v hv=>by
   have h2:=enCs_at es k hk j v hv
   have hl:k*2+j<(enCs es).length:=(List.getElem?_eq_some_iff.1 h2).1
   rw[enCs_len]at hl
   rw[Nat.zero_add,World.ownsRow.cellAt h (k*2+j) hl]
   exact h2
  exact⟨key 0 _ rfl,key 1 _ rfl⟩
structure PaI (s:List UInt8) (wc wr:World) (bt:Nat) (bad:Int) (L:List Ln) (k:Nat) (v:Value) (es:List En):Prop where
 os:wr.os=wc.os
 tape:wr.tape=wc.tape
 output:wr.output=wc.output
 size:wc.heap.size≤wr.heap.size
 keep:∀j,j<wc.heap.size→j≠bt→wr.heap[j]?=wc.heap[j]?
 tab:wr.heap[bt]?=some (.cells #[v] 112 (0,0))
 row:wr.ownsRow wc.heap.size 122 2 v es.length (enCs es)
 srt:Srt es
 num:es.length≤2000
 eq:tparse s=parseF bad (L.drop k) es
theorem PaI.next{s:List UInt8}{wc wr W:World}{bt:Nat}{bad:Int}{L:List Ln}{k:Nat}{v:Value}{es:List En}(h:PaI s wc wr bt bad L k v es)(hb:Bel wr W):PaI s wc W bt bad L k v es:=
 ⟨hb.os.trans h.os,hb.tape.trans h.tape,hb.output.trans h.output,Nat.le_trans h.size hb.size,fun j hj hne=>(hb.block j (Nat.lt_of_lt_of_le hj h.size)).trans (h.keep j hj hne),hb.heap h.tab,own_bel h.row hb,h.srt,h.num,h.eq⟩
theorem PaI.put {s:List UInt8} {wc wr W W2:World} {bt:Nat} {bad:Int} {L:List Ln} {k:Nat} {v v':Value} {es:List En} {key val:List UInt8} (h:PaI s wc wr bt bad L k v es) (hb:Bel wr W)
 (hg:W.grownBy W2 v.ownBlock) (hrow:W2.ownsRow wc.heap.size 122 2 v' (putE es ⟨key,val⟩).length (enCs (putE es ⟨key,val⟩))) (hk:foundB es key=false) (hlen:es.length≠2000)
 (heq:parseF bad (L.drop k) es=parseF bad (L.drop (k+1)) (putE es ⟨key,val⟩)):PaI s wc (W2.setCell ⟨bt,0,none⟩ v') bt bad L (k+1) v' (putE es ⟨key,val⟩):=by
 have hW:=h.next hb
 have hv:v.ownBlock≠some bt:=own_ne hW.row hW.tab (by decide)
 have ht2:W2.heap[bt]?=some (.cells #[v] 112 (0,0)):=(hg.block bt (Array.getElem?_eq_some_iff.1 hW.tab).1 (fun e=>hv e.symm)).trans hW.tab
 have hv':v'.ownBlock≠some bt:=own_ne hrow ht2 (by decide)
 have hhas:hasK es key=false:=by rw[←found_has es key h.srt];exact hk
 have hp:putE es ⟨key,val⟩=ins es ⟨key,val⟩:=put_ins es ⟨key,val⟩ h.srt
 refine⟨hg.os.trans hW.os,hg.tape.trans hW.tape,hg.output.trans hW.output,?_,?_,?_,?_,?_,?_,h.eq.trans heq⟩
 ·rw[World.size_setCell];exact Nat.le_trans hW.size hg.size
 ·intro j hj hne
  rw[heap_setCell_other _ _ _ _ hne,hg.block j (Nat.lt_of_lt_of_le hj hW.size) (fun e=>by have:=own_lt hW.row e.symm;omega)]
  exact hW.keep j hj hne
 ·rw[heap_setCell_same _ _ _ _ _ _ ht2];rfl
 ·exact own_keep hrow fun g hg'=>heap_setCell_other _ _ _ _ fun e=>hv' (by rw[hg',e])
 ·rw[hp];exact ins_srt es ⟨key,val⟩ h.srt hhas
 ·rw[hp,ins_len];have:=h.num;omega
theorem join_run{w0 W:World}{pv:Value}{pcs:List (List UInt8)}(h:W.ownsRow w0.heap.size 9 1 pv pcs.length (strs pcs))(hz:(Lib.join pcs [32]).length≤140737488355328)(hp:pcs.length≤1000000):
 Calls Tryz.prog 68 #[pv,.string ⟨#[32]⟩] W fun e w'=>e=.returned (.string ⟨(Lib.join pcs [32]).toArray⟩)∧Bel W w':=by
 rcases h.2 with⟨rfl,h0⟩|⟨g,cap,cur,rfl,hg,hh,h1,h2,h3,h4⟩
 ·obtain rfl:pcs=[]:=List.eq_nil_of_length_eq_zero h0
  exact(Any.strings_Join_none Tryz.lays156 Tryz.Builder_Extra_156 none 0 ⟨#[32]⟩ W).mono fun e w' h=>⟨h.1,by rw[h.2];exact Bel.refl W⟩
 ·have:=Tryz.strings_Join g 0 cap (pcs.map fun x=>⟨x.toArray⟩) ⟨#[32]⟩ W (fun j y hj=>by
   rw[Nat.zero_add,World.ownsRow.cellAt h j (by have:=(List.getElem?_eq_some_iff.1 hj).1;rw[List.length_map]at this;omega)]
   rw[List.getElem?_map]at hj
   obtain⟨z,hz,rfl⟩:=Option.map_eq_some_iff.1 hj
   unfold strs
   rw[List.getElem?_map,hz];rfl) (Array.getElem?_eq_some_iff.1 hh).1 (by rw[List.length_map];omega) (by rw[List.length_map];exact h1) (by
   rw[List.map_map]
   show(Lib.join (pcs.map fun x=>x) [32]).length≤_
   rw[List.map_id']
   exact hz)
  rw[List.length_map,List.map_map]at this
  have e3:(pcs.map ((fun b:ByteArray=>b.data.toList)∘fun x=>(⟨x.toArray⟩:ByteArray)))=pcs:=by
   show pcs.map (fun x=>x)=pcs
   rw[List.map_id']
  rw[e3]at this
  exact this
theorem split_piece(c:UInt8):∀l:List UInt8,∀p∈splitL c l,p.length≤l.length
 |[],p,hp=>by
  have:p=[]:=by simpa[splitL]using hp
  rw[this];exact Nat.le_refl _
 |b::l,p,hp=>by
  have ih:=split_piece c l
  unfold splitL at hp
  split at hp
  ·rcases List.mem_cons.1 hp with rfl|hp
   ·exact Nat.zero_le _
   ·exact Nat.le_succ_of_le (ih p hp)
  ·split at hp
   ·rename_i q qs hq
    rcases List.mem_cons.1 hp with rfl|hp
    ·have:=ih q (by rw[hq];exact List.mem_cons_self ..)
     simp only[List.length_cons];omega
    ·exact Nat.le_succ_of_le (ih p (by rw[hq];exact List.mem_cons_of_mem _ hp))
   ·rename_i hq
    rw[List.mem_singleton.1 hp]
    simp
theorem trm_le(s:List UInt8):(trm s).length≤s.length:=by
 unfold trm Lib.trimS Lib.trimLeftS Lib.trimRightS
 refine Nat.le_trans (List.dropWhile_sublist _).length_le ?_
 rw[List.length_reverse]
 refine Nat.le_trans (List.dropWhile_sublist _).length_le ?_
 rw[List.length_reverse];exact Nat.le_refl _
theorem addPc_small{N:Nat}{pcs:List (List UInt8)}{s:List UInt8}(h:∀p∈pcs,p.length≤N)(hs:s.length≤N):∀p∈addPc pcs s,p.length≤N:=by
 unfold addPc
 split
 ·exact h
 ·intro p hp
  rcases List.mem_append.1 hp with hp|hp
  ·exact h p hp
  ·rw[List.mem_singleton.1 hp];exact Nat.le_trans (trm_le s) hs
theorem out_small{N at_:Nat}{out:List Ln}{s:List UInt8}(h:∀l∈out,∀p∈l.pcs,p.length≤N)(hs:s.length≤N):∀l∈lnOut at_ out s,∀p∈l.pcs,p.length≤N:=by
 unfold lnOut
 split
 ·exact h
 ·split
  ·intro l hl
   rcases List.mem_append.1 hl with hl|hl
   ·exact h l hl
   ·rw[List.mem_singleton.1 hl]
    exact addPc_small (fun p hp=>by cases hp) (by rw[List.length_drop];omega)
  ·split
   ·exact h
   ·rename_i x hx
    intro l hl
    rcases List.mem_append.1 hl with hl|hl
    ·exact h l (List.dropLast_subset _ hl)
    ·rw[List.mem_singleton.1 hl]
     exact addPc_small (h x (List.mem_of_getLast? hx)) hs
theorem fold_small{N:Nat}:∀(E:List (List UInt8)) (c:Cs),(∀e∈E,e.length≤N)→(∀l∈c.out,∀p∈l.pcs,p.length≤N)→∀m,(∀l∈c.out,l.pcs.length≤m)→∀l∈(E.foldl lnStep c).out,l.pcs.length≤m+E.length∧∀p∈l.pcs,p.length≤N
 |[],c,_,h,m,hm,l,hl=>⟨hm l hl,h l hl⟩
 |e::E,c,he,h,m,hm,l,hl=>by
  have:=fold_small E (lnStep c e) (fun x hx=>he x (List.mem_cons_of_mem _ hx)) (out_small h (he e (List.mem_cons_self ..))) (m+1) (out_few hm e) l hl
  refine⟨?_,this.2⟩
  have h2:=this.1
  rw[List.length_cons];omega
theorem join_small(N:Nat):∀l:List (List UInt8),(∀p∈l,p.length≤N)→(Lib.join l [32]).length≤(N+1)*l.length
 |[],_=>by simp[Lib.join]
 |[a],h=>by
  rw[Lib.join_one]
  have:=h a (List.mem_cons_self ..)
  simp;omega
 |a::b::l,h=>by
  have ih:=join_small N (b::l) fun s hs=>h s (List.mem_cons_of_mem _ hs)
  have:=h a (List.mem_cons_self ..)
  rw[Lib.join_cons]at ih⊢
  simp only[Lib.joinTail,List.map_cons,List.flatten_cons,List.length_append,List.length_cons,List.length_nil,Nat.mul_add,Nat.mul_one]at ih⊢
  omega
theorem value_small{s:List UInt8}(hs:s.length≤262144):∀l∈(cutT s).out,(Lib.join l.pcs [32]).length≤140737488355328∧l.pcs.length≤1000000:=by
 intro l hl
 obtain⟨h1,h2⟩:=fold_small (N:=262144) (splitL 10 s) ⟨0,[],badAt s⟩ (fun e he=>Nat.le_trans (split_piece 10 s e he) hs) (fun l hl=>by cases hl) 0 (fun l hl=>by cases hl) l hl
 have h3:=join_small 262144 l.pcs h2
 have h4:(splitL 10 s).length≤262145:=by
  rw[Ci.splitL_len]
  have:=List.count_le_length (a:=(10:UInt8)) (l:=s)
  omega
 have h5:l.pcs.length≤262145:=by omega
 have:=Nat.mul_le_mul_left (262144+1) h5
 constructor<;>omega
end Go.Proofs.YtmlmkmhkmifnkaaGreatDoor.Tb
namespace Go.Proofs.YtmlmkmhkmifnkaaGreatDoor.Ma
open Go.RowKit
open Ci (Bel Lay own_bel row_shape addr_add own_base Aft wp_region_aft quiet_load_aft)
def t1:List UInt8:=[74,111,101,32,40,120,41,32,81,32,60,97,32,46,32,98,32,40,99,41,32,64,32,68,46,111,114,103,62,44,32,60,99,64,100,62]
def t2:List UInt8:=[116,101,97,109,58,32,97,64,98,44,32,34,99,32,100,34,64,101,59,44,32,102,64,103]
def t5:List UInt8:=[74,32,60,97,64,98,62,32,40,120,41]
def m1:Ml:=⟨⟨false,[97,46,98],[100,46,111,114,103],false⟩,11,28,[74,111,101,32,40,120,41,32,81]⟩
def m2:Ml:=⟨⟨false,[99],[100],false⟩,32,35,[]⟩
def m3:Ml:=⟨⟨false,[97],[98],false⟩,6,9,[]⟩
def m4:Ml:=⟨⟨false,[99,32,100],[101],false⟩,11,18,[]⟩
def m5:Ml:=⟨⟨false,[102],[103],false⟩,21,24,[]⟩
def p5:Pt:=⟨false,[99],[100],false⟩
theorem ml_size:(Tryz.prog.info? 98).map (·.size)=some 7:=by kernel_rfl
end Go.Proofs.YtmlmkmhkmifnkaaGreatDoor.Ma
namespace Go.Proofs.YtmlmkmhkmifnkaaGreatDoor.Ma
open Go.RowKit
open Ci (Bel Lay own_bel row_shape addr_add own_base Aft wp_region_aft quiet_load_aft wpList_push)
theorem pt_infos:(Tryz.prog.info? 26).map (fun i=>(i.zero,i.size,i.bytes))=some (some (.agg #[.bool false,.string ⟨#[]⟩,.string ⟨#[]⟩,.bool false]),4,48):=by kernel_rfl
def ptCs(l:List Pt):List Value:=l.flatMap ptC
theorem ptCs_snoc(l:List Pt)(p:Pt):ptCs (l++[p])=ptCs l++ptC p:=by unfold ptCs;rw[List.flatMap_append];simp
def PtR(a0 W:World)(v:Value)(l:List Pt):Prop:=W.ownsRow a0.heap.size 26 4 v l.length (ptCs l)
theorem ptCs_at(L:List Pt)(k:Nat)(hk:k<L.length)(j:Nat)(v:Value)(hv:(ptC L[k])[j]?=some v):(ptCs L)[k*4+j]?=some v:=by
 induction L generalizing k with
 |nil=>simp at hk
 |cons t L ih=>
  show(ptC t++ptCs L)[k*4+j]?=some v
  have hl:(ptC t).length=4:=rfl
  cases k with
  |zero=>
   have hj:j<4:=(List.getElem?_eq_some_iff.1 hv).1
   rw[List.getElem?_append_left (by omega),Nat.zero_mul,Nat.zero_add]
   exact hv
  |succ k=>
   rw[List.getElem?_append_right (by omega),hl,show(k+1)*4+j-4=k*4+j by omega]
   exact ih k (by simp at hk;omega) hv
theorem PtR.pts{a0 W:World}{x:Option Addr}{c:Nat}{l:List Pt}(h:PtR a0 W (.slice x l.length c) l):Pts W x l:=by
 refine⟨?_⟩
 rcases h.2 with⟨-,h0⟩|⟨g,cap,cur,e,hg,hh,-⟩
 ·exact .inl (List.eq_nil_of_length_eq_zero h0)
 ·cases e
  refine .inr ⟨g,0,rfl,(Array.getElem?_eq_some_iff.1 hh).1,fun k hk j v hv=> ?_⟩
  have hj:=ptCs_at l k hk j v hv
  have hl:=(List.getElem?_eq_some_iff.1 hj).1
  rw[h.1]at hl
  rw[Nat.zero_add]
  exact(World.ownsRow.cellAt h (k*4+j) hl).trans hj
theorem esc_ge(l:List UInt8):l.length≤(l.flatMap esc).length:=by
 induction l with
 |nil=>simp
 |cons b l ih=>
  rw[List.flatMap_cons,List.length_append,List.length_cons]
  have:1≤(esc b).length:=by unfold esc;split<;>simp
  omega
theorem good_small{p:Pt}(h:Good p):p.loc.length≤4194304∧p.dom.length≤4194304:=by
 have hl:=h.len
 simp only[not_or]at hl
 have h1:p.loc.length≤(formP p.loc).length:=by
  unfold formP
  split
  ·exact Nat.le_refl _
  ·have:=esc_ge p.loc
   rw[List.length_cons,List.length_append];omega
 have h2:p.dom.length≤(domP p).length:=by
  unfold domP
  split
  ·simp only[List.length_append];omega
  ·exact Nat.le_refl _
 have h3:(domP p).length≤(shownP p).length:=by
  have he:p.dom.isEmpty=false:=by
   cases hd:p.dom with
   |nil=>exact absurd hd h.dn
   |cons=>rfl
  unfold shownP
  rw[h.nn,if_neg Bool.false_ne_true,he,Bool.and_false,if_neg Bool.false_ne_true]
  simp only[List.length_append];omega
 omega
end Go.Proofs.YtmlmkmhkmifnkaaGreatDoor.Ma
namespace Go.Proofs.YtmlmkmhkmifnkaaGreatDoor.Tb
open Go.RowKit
open Ci (Bel hid own_bel row_shape own_base addr_add splitL trim_run)
open Ma (Pt Pts ptC ptCs mbQ Mailbox_run pt_infos pt_size ptCs_snoc ptCs_at)
attribute [local go_sem] Oper.semAt_some
section
variable {P:Program} {F:Fence} {nF:Nat}
end
def valF:List (List UInt8)→List Pt→Option (List Pt)
 |[],out=>some out
 |s::r,out=>if(mbQ (trm s)).2≠0∨(mbQ (trm s)).1.null=true∨(mbQ (trm s)).1.dom=[]then none else valF r (out++[(mbQ (trm s)).1])
structure VaI (w:World) (s:List UInt8) (k:Nat) (W:World) (v:Value) (out:List Pt):Prop where
 bel:Bel w W
 r0:W.heap[w.heap.size]?=some (.cells #[.slice none 0 0] 96 (0,0))
 r1:W.heap[w.heap.size+1]?=some (.cells #[.bool false] 4 (0,0))
 box:W.heap[w.heap.size+2]?=some (.cells #[v] 96 (0,0))
 row:W.ownsRow (w.heap.size+8) 26 4 v out.length (ptCs out)
 eq:valF ((splitL 44 s).drop k) out=valF (splitL 44 s) []
 len:out.length=k
end Go.Proofs.YtmlmkmhkmifnkaaGreatDoor.Tb
namespace Go.Proofs.YtmlmkmhkmifnkaaGreatDoor.Tb
open Go.RowKit
open Ci (Bel hid own_bel row_shape own_base addr_add splitL Aft wp_region_aft quiet_load_aft)
open Ma (Pt Pts ptC ptCs mbQ Mailbox_run pt_infos pt_size ptCs_snoc ptCs_at rightP good_small)
theorem parse_vals(bad:Int):∀(ls:List Ln) (es es':List En),parseF bad ls es=some es'→(∀e∈es,e.val.length≤1000)→∀e∈es',e.val.length≤1000
 |[],es,es',h,he=>by
  unfold parseF at h
  split at h
  ·cases h;exact he
  ·cases h
 |x::r,es,es',h,he=>by
  unfold parseF at h
  split at h
  ·cases h
  ·split at h
   ·cases h
   ·rename_i h1
    split at h
    ·cases h
    ·split at h
     ·cases h
     ·refine parse_vals bad r _ es' h fun e hm=> ?_
      unfold putE at hm
      rcases List.mem_append.1 hm with hm|hm
      ·exact he e (List.mem_of_mem_take hm)
      ·rcases List.mem_cons.1 hm with rfl|hm
       ·have:¬1000<(Lib.join x.pcs [32]).length:=fun hh=>h1 (.inr (.inr hh))
        exact Nat.le_of_not_lt this
       ·exact he e (List.mem_of_mem_drop hm)
def ValsOk(es:List En):Prop:=∀e∈es,e.val.length≤1000
theorem tparse_vals{s:List UInt8}{es:List En}(h:tparse s=some es):ValsOk es:=by
 unfold tparse at h
 split at h
 ·cases h
 ·exact parse_vals _ _ _ _ h fun e he=>by cases he
theorem tail_good{s loc:List UInt8}{n:Nat}(h:(Ma.tailP s loc n).2.2=0)(hd:(Ma.tailP s loc n).1.dom≠[]):rightP (Ma.tailP s loc n).1=0:=by
 unfold Ma.tailP at h hd⊢
 split at h
 ·exact absurd h (by decide)
 ·rename_i h1
  rw[if_neg h1]at hd⊢
  split at h
  ·rename_i h2
   rw[if_pos h2]at hd⊢
   simp only at h hd⊢
   split at h
   ·exact h
   ·rename_i h3;exact absurd h h3
  ·rename_i h2
   rw[if_neg h2]at hd⊢
   split at h
   ·rename_i h3
    rw[if_pos h3]at hd
    exact absurd rfl hd
   ·exact absurd h (by decide)
theorem mb_good{s:List UInt8}(h:¬((mbQ s).2≠0∨(mbQ s).1.null=true∨(mbQ s).1.dom=[])):Ma.Good (mbQ s).1:=by
 simp only[not_or,Decidable.not_not]at h
 obtain⟨h1,h2,h3⟩:=h
 refine⟨by simpa using h2,h3,?_⟩
 unfold mbQ at h1 h3⊢
 split at h1
 ·rename_i h0
  rw[if_pos h0]at h3
  exact absurd rfl h3
 ·rename_i h0
  rw[if_neg h0]at h3⊢
  split at h1
  ·cases h1
  ·rename_i h4
   rw[if_neg h4]at h3⊢
   split at h1
   ·rename_i h5;exact absurd h1 h5
   ·rename_i h5
    rw[if_neg h5]at h3⊢
    exact tail_good (Decidable.not_not.1 h5) h3
theorem str_inj{a b:List UInt8}:((⟨a.toArray⟩:ByteArray)=⟨b.toArray⟩)↔a=b:=by
 constructor
 ·intro h
  have:=congrArg (fun x:ByteArray=>x.data.toList) h
  simpa using this
 ·rintro rfl;rfl
theorem eq_ptc(p q:Pt)(w:World):(Op.equalIn 10000 26 (.agg (ptC p).toArray) (.agg (ptC q).toArray)).run Tryz.prog w=.ok (decide (p=q)) w:=by
 obtain⟨n1,l1,d1,t1⟩:=p
 obtain⟨n2,l2,d2,t2⟩:=q
 refine(Ma.eq_pt n1 ⟨l1.toArray⟩ ⟨d1.toArray⟩ t1 n2 ⟨l2.toArray⟩ ⟨d2.toArray⟩ t2 w).trans ?_
 have:decide (n1=n2∧(⟨l1.toArray⟩:ByteArray)=⟨l2.toArray⟩∧(⟨d1.toArray⟩:ByteArray)=⟨d2.toArray⟩∧t1=t2)=decide ((⟨n1,l1,d1,t1⟩:Pt)=⟨n2,l2,d2,t2⟩):=by
  rw[decide_eq_decide,str_inj,str_inj]
  constructor
  ·rintro⟨rfl,rfl,rfl,rfl⟩;rfl
  ·intro h;cases h;exact⟨rfl,rfl,rfl,rfl⟩
 rw[this]
end Go.Proofs.YtmlmkmhkmifnkaaGreatDoor.Tb
namespace Go.Proofs.YtmlmkmhkmifnkaaGreatDoor.Tb
open Go.RowKit
open Ma (Pt domainQ rightP mbQ zeroP good_small lowL)
theorem dom_small{s:List UInt8}(h1:(domainQ s).2.1=false):(domainQ s).1.length≤255:=by
 unfold Ma.domainQ at h1⊢
 split at h1
 ·rename_i hl
  rw[if_pos hl]
  split at h1
  ·rename_i n hn
   by_cases h2:n.six=Ma.sixQ' (Ma.innerQ s)
   ·rw[if_pos h2]at h1;cases h1
   ·rw[if_neg h2];exact Nat.zero_le _
  ·exact Nat.zero_le _
 ·rename_i hl
  rw[if_neg hl]
  split
  ·exact Nat.zero_le _
  ·split
   ·exact Nat.zero_le _
   ·show(lowL s).length≤255
    unfold Ma.lowL
    rw[List.length_map];omega
theorem valueC_small{v:List UInt8}(h:(valueC v).2.2=true):(valueC v).1.loc.length≤4194304∧(valueC v).1.dom.length≤4194304:=by
 unfold valueC at h⊢
 split at h
 ·rename_i h1
  rw[if_pos h1]
  simp only[Bool.and_eq_true,Bool.not_eq_true',decide_eq_true_eq]at h
  have:=dom_small h.2
  exact⟨Nat.zero_le _,by show(domainQ (v.drop 1)).1.length≤_;omega⟩
 ·rename_i h1
  rw[if_neg h1]
  simp only[Bool.and_eq_true,Bool.not_eq_true',decide_eq_true_eq]at h
  refine good_small (mb_good ?_)
  rintro(f|f|f)
  ·exact f h.1
  ·rw[h.2.1]at f;cases f
  ·rw[f]at h;exact absurd h.2.2 (by decide)
theorem host_small{h:List UInt8}(hh:hostC h=true):h.length≤255:=by
 unfold hostC at hh
 simp only[Bool.and_eq_true,Bool.not_eq_true',decide_eq_true_eq]at hh
 have:=dom_small hh.2.1
 rw[hh.2.2]at this
 exact this
theorem toC_small{v:List UInt8}{q:Pt}(h:(valueC v).2.2=true)(hq:q.loc.length≤4194304):(toC v q).loc.length≤4194304∧(toC v q).dom.length≤4194304:=by
 have hv:=valueC_small h
 unfold toC
 split
 ·exact⟨hq,hv.2⟩
 ·exact hv
end Go.Proofs.YtmlmkmhkmifnkaaGreatDoor.Tb