import Derived.Test.YtmlmkmhkmifnkaaGreatDoorK22
import Derived.Test.YtmlmkmhkmifnkaaGreatDoorK21
import Derived.Lib.SliceRun
set_option maxHeartbeats 16000000
set_option maxRecDepth 1000000
namespace Go.Proofs.YtmlmkmhkmifnkaaGreatDoor.Tb
open Go.RowKit
open Ci (Bel hid own_bel row_shape own_base addr_add)
theorem list_of{α:Type}{P:Nat→α→Prop}:∀n:Nat,(∀k,k<n→∃a,P k a)→∃l:List α,l.length=n∧∀k (hk:k<l.length),P k l[k]
 |0,_=>⟨[],rfl,fun k hk=>absurd hk (Nat.not_lt_zero _)⟩
 |n+1,h=>by
  obtain⟨l,hl,hp⟩:=list_of n fun k hk=>h k (by omega)
  obtain⟨a,ha⟩:=h n (Nat.lt_succ_self n)
  refine⟨l++[a],by simp[hl],fun k hk=> ?_⟩
  by_cases e:k<l.length
  ·rw[List.getElem_append_left e];exact hp k e
  ·have:k=n:=by simp at hk;omega
   subst this
   rw[List.getElem_append_right (by omega)]
   simpa using ha
def ptrs(ps:List (Option Addr)):List Value:=ps.map Value.pointer
theorem ptr_infos:(Tryz.prog.info? 60).map (fun i=>(i.zero,i.size,i.bytes))=some (some (.pointer none),1,8):=by kernel_rfl
theorem tabs_of_row{W:World}{base n c:Nat}{x:Option Addr}{ps:List (Option Addr)}{ts:List (List En)}(h:W.ownsRow base 60 1 (.slice x n c) ps.length (ptrs ps))(hl:ps.length=ts.length)(ht:∀k (hk:k<ps.length) (hk2:k<ts.length),TabAt W ps[k] ts[k]):Tabs W x ts:=by
 refine⟨?_⟩
 rcases h.2 with⟨-,h0⟩|⟨g,cap,cur,e,-,hh,-⟩
 ·exact .inl (List.eq_nil_of_length_eq_zero (by omega))
 ·obtain⟨rfl,rfl,rfl⟩:=Value.slice.inj e
  refine .inr ⟨g,0,rfl,(Array.getElem?_eq_some_iff.1 hh).1,fun k hk=>⟨ps[k]'(by omega),?_,ht k (by omega) hk⟩⟩
  rw[Nat.zero_add,World.ownsRow.cellAt h k (by omega)]
  unfold ptrs
  rw[List.getElem?_map,List.getElem?_eq_getElem (by omega)];rfl
theorem pclone_run(x:Option Addr)(ts:List (List En))(c:Nat)(w:World)(hT:Tabs w x ts)(hn:ts.length≤8)(hx:ts=[]→x=none∧c=0):
 Calls Tryz.prog 80 #[.slice x ts.length c] w fun e w'=>∃x' c',e=.returned (.slice x' ts.length c')∧Bel w w'∧Tabs w' x' ts:=by
 cases ts with
 |nil=>
  obtain⟨rfl,rfl⟩:=hx rfl
  have hT2:=hid hT
  clear hT hx
  show Calls _ _ #[.slice none 0 0] _ _
  have heq:∀w,(binOp .eql 59 (.slice none 0 0) (.slice none 0 0)).run Tryz.prog w=.ok (.bool true) w:=fun w=>Go.Lib.run_eql_slice_nil w 59 60 none 0 0 0 0 Tryz.underlying59
  go_enter Tryz.func80,Tryz.ntmps80
  go_wp2_with fail
  go_ret
  exact⟨none,0,rfl,Bel.refl w,hT2.out⟩
 |cons t ts=>
  rcases hT.at_ with f|⟨b,o,rfl,hb,hp⟩
  ·cases f
  obtain⟨ps,hpl,hps⟩:=list_of (P:=fun k p=>∀hk:k<(t::ts).length,w.cell? ⟨b,o+k,none⟩=some (.pointer p)∧TabAt w p (t::ts)[k]) (t::ts).length fun k hk=>by
   obtain⟨p,h1,h2⟩:=hp k hk
   exact⟨p,fun _=>⟨h1,h2⟩⟩
  obtain⟨i0,hi0,hz0,hz1,hz2⟩:=info_parts ptr_infos
  have HS:=hid (show∀j u,(ptrs ps)[j]?=some u→w.cell? ((⟨b,o,none⟩:Addr).add j)=some u from fun j u hj=>by
   unfold ptrs at hj
   rw[List.getElem?_map]at hj
   obtain⟨p,hp1,rfl⟩:=Option.map_eq_some_iff.1 hj
   obtain⟨hl,rfl⟩:=List.getElem?_eq_some_iff.1 hp1
   rw[addr_add]
   exact(hps j hl (by omega)).1)
  have HT:=hid (show∀k (hk:k<ps.length) (hk2:k<(t::ts).length),TabAt w ps[k] (t::ts)[k]from fun k hk hk2=>(hps k hk hk2).2)
  have HPl:=hid hpl
  have hn1:(t::ts).length=ts.length+1:=rfl
  have HN:=hid hn1
  have hlen:(ptrs ps).length=ps.length:=by unfold ptrs;rw[List.length_map]
  have HO:Hid ((w.alloc (.cells #[] 60)).ownsRow w.heap.size 60 1 (.slice (some ⟨w.heap.size,0,none⟩) 0 0) 0 []):=hid (World.ownsRow_made w #[] 0 (Nat.le_refl _) (by decide) rfl)
  have hone:∀u∈ptrs ps,u.oneCell'=true:=fun u hu=>by
   unfold ptrs at hu
   obtain⟨p,-,rfl⟩:=List.mem_map.1 hu
   rfl
  have HOne:=hid hone
  clear hT hx hp hps hone
  rw[←hpl]at hn⊢
  generalize hm:ps.length=m at hn hlen⊢
  have HM:=hid hm
  clear hm hpl hn1
  have heq:∀w,(binOp .eql 59 (.slice (some ⟨b,o,none⟩) m c) (.slice none 0 0)).run Tryz.prog w=.ok (.bool false) w:=fun w=>Go.Lib.run_eql_slice_nil w 59 60 _ m c 0 0 Tryz.underlying59
  go_enter Tryz.func80,Tryz.ntmps80
  go_wp2_with (first|(at_builtin;refine wpList_append_own _ rfl _ _ 59 rfl w.heap.size 60 i0 _ 1 8 Tryz.underlying59 hi0 hz0 hz1 hz2 rfl (by decide) (.slice (some ⟨w.heap.size,0,none⟩) 0 0) 0 [] rfl HO.out ⟨b,o,none⟩ m c (ptrs ps) rfl (by omega) ?c1 HOne.out ?c3 ?c4 ?c5 ?_))
  case c1=>
   intro j u hj
   have h1:=HS.out j u hj
   rw[addr_add]at h1⊢
   exact(bel_cell ((Bel.refl w).alloc _) hb).trans h1
  case c3=>unfold maxLen;omega
  case c4=>omega
  case c5=>simp
  intro v' w2 hown hg _
  have HG:=hid (And.intro hown hg)
  obtain⟨x3,p3,rfl,q3,q4⟩:=row_shape hown
  clear hown hg
  go_wp2_with fail
  go_ret
  have hBw:Bel w w2:=Ci.Bel.grown ((Bel.refl w).alloc _) HG.out.2 HO.out
  refine⟨x3,p3,rfl,hBw,tabs_of_row (ps:=ps) (base:=w.heap.size) (n:=m) (c:=p3) ?_ (by rw[HM.out,←HPl.out,HM.out]) fun k hk hk2=>(HT.out k hk hk2).next hBw⟩
  rw[HM.out]
  exact HG.out.1
theorem nil_run(b:Nat)(w:World):Calls Tryz.prog 81 #[.pointer (some ⟨b,0,none⟩)] w fun e w'=>e=.returned (.bool false)∧Bel w w':=by
 go_enter Tryz.func81,Tryz.ntmps81
 go_wp2_with fail
 go_ret
 exact⟨rfl,Bel.refl w⟩
theorem nidx_run(x:Option Addr)(ts:List (List En))(c:Nat)(w:World)(hT:Tabs w x ts)(hn:ts.length≤8):
 Calls Tryz.prog 151 #[.slice x ts.length c,.func (.func 81) #[] #[]] w fun e w'=>e=.returned (.int .i64 (-1))∧Bel w w':=by
 have HT:=hid hT
 have eg:∀args w,(callFunc 81 args).run Tryz.prog w=.ok (.enter 81 args) w:=enters_of Tryz.func81 (by kernel_rfl) rfl
 clear hT
 go_enter Tryz.func151,Tryz.ntmps151
 go_wp2_with fail
 go_loopg [8] ts.length (fun gg v8 wr=>∃k:Nat,v8=.int .i64 k∧k+gg=ts.length∧Hid (Bel w wr))
 case atStart=>exact⟨0,rfl,by omega,hid (Bel.refl w)⟩
 case round=>
  obtain⟨k,rfl,hk,HB⟩:=hrel
  have Hk:=hid hk
  have hkn:k≤ts.length:=by omega
  clear hk
  by_cases hlt:k<ts.length
  ·obtain⟨b,o,p,rfl,c0,ht⟩:=(HT.out.next HB.out).place hlt
   obtain⟨b2,-,-,rfl,-⟩:=ht.at_
   have HN:=hid (nil_run b2 wr)
   go_wp2_with (first|(go_at_fn 81;refine HN.out.mono ?_;rintro e w2 ⟨rfl,hb2⟩))
   go_roundg (gk-1)
   case measure=>have:=Hk.out;omega
   case rel=>exact⟨k+1,by go_num,by have:=Hk.out;omega,hid (HB.out.trans hb2)⟩
  ·obtain rfl:k=ts.length:=by omega
   go_wp2_with fail
   go_ret
   exact⟨rfl,HB.out⟩
theorem pdel_run(x:Option Addr)(ts:List (List En))(c:Nat)(w:World)(hT:Tabs w x ts)(hn:ts.length≤8):
 Calls Tryz.prog 79 #[.slice x ts.length c,.func (.func 81) #[] #[]] w fun e w'=>e=.returned (.slice x ts.length c)∧Bel w w':=by
 have HI:=hid (nidx_run x ts c w hT hn)
 clear hT hn
 generalize ts.length=n at HI⊢
 go_enter Tryz.func79,Tryz.ntmps79
 go_wp2_with (first|(go_at_call 151;refine HI.out.mono ?_;rintro e w1 ⟨rfl,hb1⟩))
 go_ret
 exact⟨rfl,hb1⟩
theorem tjoin_run(x:Option Addr)(ts:List (List En))(c:Nat)(w:World)(hT:Tabs w x ts)(hn:ts.length≤8)(hx:ts=[]→x=none∧c=0):
 Calls Tryz.prog 32 #[.slice x ts.length c] w fun e w'=>∃a,e=.returned (.pointer a)∧Bel w w'∧ChAt w' a ts:=by
 have HC:=hid (pclone_run x ts c w hT hn hx)
 have HD:=(show Hid (∀W x c,Tabs W x ts→Calls Tryz.prog 79 #[.slice x ts.length c,.func (.func 81) #[] #[]] W fun e w'=>e=.returned (.slice x ts.length c)∧Bel W w')from fun W x c hW=>pdel_run x ts c W hW hn)
 clear hT hx
 go_enter Tryz.func32,Tryz.ntmps32
 go_wp2_with (first|(go_at_call 80;refine HC.out.mono ?_;rintro e w1 ⟨x1,c1,rfl,hb1,ht1⟩;have HB1:=hid hb1;have HT1:=hid ht1;clear hb1 ht1)|(go_at_call 79;refine(HD.out w1 x1 c1 HT1.out).mono ?_;rintro e w2 ⟨rfl,hb2⟩;have HB2:=hid hb2;clear hb2))
 go_ret
 exact⟨_,rfl,(HB1.out.trans HB2.out).alloc _,⟨_,x1,c1,rfl,heap_alloc_new w2 _,HT1.out.next (HB2.out.trans ((Bel.refl w2).alloc _))⟩,hn⟩
end Go.Proofs.YtmlmkmhkmifnkaaGreatDoor.Tb
namespace Go.Proofs.YtmlmkmhkmifnkaaGreatDoor.Tb
open Go.RowKit
open Ci (Bel hid own_bel row_shape own_base addr_add)
structure Sts (W:World) (x:Option Addr) (bs:List ByteArray):Prop where
 at_:bs=[]∨∃b o,x=some ⟨b,o,none⟩∧b<W.heap.size∧∀k (hk:k<bs.length),W.cell? ⟨b,o+k,none⟩=some (.string bs[k])
theorem Sts.next{W W':World}{x:Option Addr}{bs:List ByteArray}(h:Sts W x bs)(hb:Bel W W'):Sts W' x bs:=by
 refine⟨?_⟩
 rcases h.at_ with f|⟨b,o,e,hs,f⟩
 ·exact .inl f
 ·exact .inr ⟨b,o,e,Nat.lt_of_lt_of_le hs hb.size,fun k hk=>(bel_cell hb hs).trans (f k hk)⟩
theorem Sts.place{W:World}{x:Option Addr}{bs:List ByteArray}(h:Sts W x bs){k:Nat}(hk:k<bs.length):∃b o,x=some ⟨b,o,none⟩∧W.cell? ⟨b,o+k,none⟩=some (.string bs[k]):=by
 rcases h.at_ with f|⟨b,o,e,-,f⟩
 ·rw[f]at hk;cases hk
 ·exact⟨b,o,e,f k hk⟩
theorem TabAt.grown{W W':World}{a:Option Addr}{es:List En}{v:Value}{base n:Nat}{xs:List Value}(h:TabAt W a es)(ho:W.ownsRow base 60 1 v n xs)(hg:W.grownBy W' v.ownBlock):TabAt W' a es:=by
 obtain⟨b,x,c,e,h1,h2⟩:=h.at_
 have keep:∀{j:Nat} {cur:Array Value} {T:TypeId},W.heap[j]?=some (.cells cur T (0,0))→T≠60→W'.heap[j]?=W.heap[j]?:=fun hj hT=>hg.block _ (Array.getElem?_eq_some_iff.1 hj).1 fun e=>own_ne ho hj hT e.symm
 refine⟨⟨b,x,c,e,(keep h1 (by decide)).trans h1,?_⟩,h.srt,h.num⟩
 rcases h2.ty with rfl|⟨b2,o2,cur,e2,f2⟩
 ·exact⟨.inl rfl,.inl rfl⟩
 ·have hk:=keep f2 (by decide)
  refine⟨?_,.inr ⟨b2,o2,cur,e2,hk.trans f2⟩⟩
  rcases h2.at_ with f|⟨b3,o3,e3,hs,f⟩
  ·exact .inl f
  ·rw[e2]at e3
   cases e3
   exact .inr ⟨b2,o2,e2,Nat.lt_of_lt_of_le hs hg.size,fun k hk2=>⟨(World.cell?_of_block (a:=⟨b2,o2+k*2,none⟩) hk).trans (f k hk2).1,(World.cell?_of_block (a:=⟨b2,o2+k*2+1,none⟩) hk).trans (f k hk2).2⟩⟩
end Go.Proofs.YtmlmkmhkmifnkaaGreatDoor.Tb
namespace Go.Proofs.YtmlmkmhkmifnkaaGreatDoor.Tb
open Go.RowKit
open Ci (Bel hid own_bel row_shape own_base addr_add Aft wp_region_aft Lay)
open Ma (Pt ptC ptC_one pt_size zeroP domainQ wpList_store_blk pdomain_run)
theorem newT_at{L:List (List UInt8)}{k:Nat}{acc:List (List En)}(hk:k<L.length):newT (L.drop k) acc=match tparse L[k]with
 |none=>none
 |some es=>if valsC es then newT (L.drop (k+1)) (acc++[es])else none:=by
 rw[List.drop_eq_getElem_cons hk];rfl
structure NcI (w:World) (L:List (List UInt8)) (k:Nat) (W:World) (v:Value) (ps:List (Option Addr)) (ts:List (List En)):Prop where
 bel:Bel w W
 row:W.ownsRow w.heap.size 60 1 v ps.length (ptrs ps)
 lp:ps.length=k
 lt:ts.length=k
 tab:∀i (hi:i<ps.length) (hi2:i<ts.length),TabAt W ps[i] ts[i]
 vals:∀es∈ts,ValsOk es
 eq:newT (L.drop k) ts=newT L []
 nil:ps=[]→v=.slice none 0 0
theorem nc_rel {w W w9:World} {L:List (List UInt8)} {k:Nat} {x':Value} {v:Value} {ps:List (Option Addr)} {ts:List (List En)} {a:Option Addr} {es:List En} (hB:Bel w W) (hrow:W.ownsRow w.heap.size 60 1 v ps.length (ptrs ps)) (hp:ps.length=k) (ht:ts.length=k)
 (htab:∀i (hi:i<ps.length) (hi2:i<ts.length),TabAt W ps[i] ts[i]) (hvals:∀es∈ts,ValsOk es) (hnew:TabAt W a es) (hes:ValsOk es) (hn:newT (L.drop (k+1)) (ts++[es])=newT L [])
 (hown:w9.ownsRow w.heap.size 60 1 x' (ps.length+1) (ptrs ps++[.pointer a])) (hg:(W.alloc (.cells #[.pointer a] 60)).grownBy w9 v.ownBlock):NcI w L (k+1) w9 x' (ps++[a]) (ts++[es]):=by
 have hrow2:=hrow.alloc (.cells #[.pointer a] 60)
 have go:∀{p:Option Addr} {t:List En},TabAt W p t→TabAt w9 p t:=fun h=>(h.next ((Bel.refl W).alloc _)).grown hrow2 hg
 refine⟨Ci.Bel.grown (hB.alloc _) hg hrow2,?_,by rw[List.length_append,hp];rfl,by rw[List.length_append,ht];rfl,?_,?_,hn,fun h=>absurd h (by simp)⟩
 ·have:ptrs (ps++[a])=ptrs ps++[.pointer a]:=by unfold ptrs;rw[List.map_append];rfl
  rw[this,List.length_append]
  exact hown
 ·intro i hi hi2
  by_cases e:i<ps.length
  ·rw[List.getElem_append_left e,List.getElem_append_left (by omega)]
   exact go (htab i e (by omega))
  ·have e2:i=k:=by rw[List.length_append]at hi;simp at hi;omega
   subst e2
   rw[List.getElem_append_right (by omega),List.getElem_append_right (by omega)]
   simp only[hp,ht,Nat.sub_self,List.getElem_cons_zero]
   exact go hnew
 ·intro e he
  rcases List.mem_append.1 he with he|he
  ·exact hvals e he
  ·rw[List.mem_singleton.1 he];exact hes
structure CnAt (W:World) (a:Option Addr) (h:List UInt8) (ts:List (List En)):Prop where
 at_:∃b t mb,a=some ⟨b,0,none⟩∧W.heap[b]?=some (.cells #[.string ⟨h.toArray⟩,.pointer t,.map (some mb)] 74 (0,0))∧ChAt W t ts∧SMap W mb (fldL 12)
 vals:∀es∈ts,ValsOk es
 ok:∀es∈ts,valsC es=true
 host:hostC h=true
theorem CnAt.next{W W':World}{a:Option Addr}{h:List UInt8}{ts:List (List En)}(c:CnAt W a h ts)(hb:Bel W W'):CnAt W' a h ts:=by
 obtain⟨b,t,mb,e,h1,h2,h3⟩:=c.at_
 exact⟨⟨b,t,mb,e,hb.heap h1,h2.next hb,h3.next hb⟩,c.vals,c.ok,c.host⟩
def CnPost(h:List UInt8)(L:List (List UInt8))(w:World)(e:Ending)(w':World):Prop:=match newC h L with
 |.error c=>e=.returned (.tuple #[.pointer none,.int .i64 c])∧Bel w w'
 |.ok ts=>∃a,e=.returned (.tuple #[.pointer a,.int .i64 0])∧Bel w w'∧CnAt w' a h ts
theorem cn_arg{h:List UInt8}{L:List (List UInt8)}{w w':World}(hh:hostC h=false∨8<L.length)(hb:Bel w w'):CnPost h L w (.returned (.tuple #[.pointer none,.int .i64 1])) w':=by
 unfold CnPost newC
 rw[if_pos]
 ·exact⟨rfl,hb⟩
 ·rcases hh with f|f
  ·rw[f];rfl
  ·rw[decide_eq_true f,Bool.or_true]
theorem cn_form{h:List UInt8}{L:List (List UInt8)}{w w':World}(hh:hostC h=true)(h8:¬8<L.length)(hn:newT L []=none)(hb:Bel w w'):CnPost h L w (.returned (.tuple #[.pointer none,.int .i64 150])) w':=by
 unfold CnPost newC
 rw[hh,decide_eq_false h8,if_neg (by decide),hn]
 exact⟨rfl,hb⟩
theorem cn_ok{h:List UInt8}{L:List (List UInt8)}{w w':World}{a:Option Addr}{ts:List (List En)}(hh:hostC h=true)(h8:¬8<L.length)(hn:newT L []=some ts)(hb:Bel w w')(hc:CnAt w' a h ts):CnPost h L w (.returned (.tuple #[.pointer a,.int .i64 0])) w':=by
 unfold CnPost newC
 rw[hh,decide_eq_false h8,if_neg (by decide),hn]
 exact⟨a,rfl,hb,hc⟩
theorem host_cases{h:List UInt8}{d:List UInt8}{lit:Bool}{e:Int}(hd:domainQ h=(d,lit,e)):hostC h=(decide (e=0)&&(!lit&&decide (d=h))):=by unfold hostC;rw[hd]
theorem cnew_run(h:ByteArray)(x:Option Addr)(bs:List ByteArray)(c:Nat)(w:World)(hw:Lat w)(hh:h.size≤4194304)(hS:Sts w x bs):
 Calls Tryz.prog 11 #[.string h,.slice x bs.length c] w (CnPost h.data.toList (bs.map (·.data.toList)) w):=by
 have HS:=hid hS
 have HW:=hid hw
 have HD:=hid (pdomain_run h w hw.lay hh)
 have HH:=hid (host_cases (h:=h.data.toList) (Prod.eta _).symm)
 clear hS hw
 generalize domainQ h.data.toList=D at HD HH
 obtain⟨d,lit,e⟩:=D
 simp only at HD HH
 obtain⟨db,hdb⟩:∃db:ByteArray,db=⟨d.toArray⟩:=⟨_,rfl⟩
 have HDB:=hid (show db.data.toList=d by rw[hdb])
 rw[←hdb]at HD
 clear hdb
 by_cases he:e=0
 ·subst he
  cases lit with
  |true=>
   have HX:=hid (show hostC h.data.toList=false by rw[HH.out];rfl)
   go_enter Tryz.func11,Tryz.ntmps11
   go_wp2_with (first|(go_at_call 26;refine HD.out.mono ?_;rintro e w1 ⟨rfl,hb1⟩))
   exact bodyPost_ret (v:=.tuple #[.pointer none,.int .i64 1]) (by simp[results,Tryz.results11,go_sem]) rfl (cn_arg (.inl HX.out) hb1)
  |false=>
   by_cases hdh:d=h.data.toList
   ·have b3:(db.toList==h.toList)=true:=by rw[ByteArray.toList_eq,ByteArray.toList_eq,HDB.out,hdh];simp
    have b3':db.toList=h.toList:=by simpa using b3
    have HX:=hid (show hostC h.data.toList=true by rw[HH.out,decide_eq_true hdh];rfl)
    clear hdh
    by_cases h8:8<bs.length
    ·have b1:decide ((8:Int)<(bs.length:Int))=true:=decide_eq_true (by omega)
     have HX8:=hid (show 8<(bs.map (·.data.toList)).length by rw[List.length_map];exact h8)
     clear h8
     generalize bs.length=n at b1⊢
     go_enter Tryz.func11,Tryz.ntmps11
     go_wp2_with (first|(go_at_call 26;refine HD.out.mono ?_;rintro e w1 ⟨rfl,hb1⟩))
     exact bodyPost_ret (v:=.tuple #[.pointer none,.int .i64 1]) (by simp[results,Tryz.results11,go_sem]) rfl (cn_arg (.inr HX8.out) hb1)
    ·have b1:decide ((8:Int)<(bs.length:Int))=false:=decide_eq_false (by omega)
     have h8':bs.length≤8:=by omega
     have HX8:=hid (show¬8<(bs.map (·.data.toList)).length by rw[List.length_map];exact h8)
     go_enter Tryz.func11,Tryz.ntmps11
     go_wp2_with (first|(go_at_call 26;refine HD.out.mono ?_;rintro e w1 ⟨rfl,hb1⟩;have HBD:=hid hb1;clear hb1))
     go_loopg [9,47] bs.length (fun gg v9 v47 wr=>∃(k:Nat) (ps:List (Option Addr)) (ts:List (List En)),v47=.int .i64 k∧k+gg=bs.length∧Hid (NcI w (bs.map (·.data.toList)) k wr v9 ps ts))
     case atStart=>exact⟨0,[],[],rfl,by omega,hid ⟨HBD.out,World.ownsRow_nil _ _ _ _,rfl,rfl,fun i hi=>absurd hi (Nat.not_lt_zero _),fun es he=>(by cases he),rfl,fun _=>rfl⟩⟩
     case round=>
      obtain⟨k,ps,ts,rfl,hk,HI⟩:=hrel
      obtain⟨W0,hW0⟩:∃W0,W0=wr:=⟨_,rfl⟩
      subst hW0
      obtain⟨g0,hg0⟩:∃g0,g0=gk:=⟨_,rfl⟩
      subst hg0
      have Hk:=hid hk
      have hkn:k≤bs.length:=by omega
      clear hk
      by_cases hlt:k<bs.length
      ·obtain⟨b,o,rfl,c0⟩:=(HS.out.next HI.out.bel).place hlt
       have hkL:k<(bs.map (·.data.toList)).length:=by rw[List.length_map];exact hlt
       have hstep:=newT_at (acc:=ts) hkL
       rw[HI.out.eq,List.getElem_map]at hstep
       have HP:=hid (tparse_run bs[k] W0 (HW.out.next HI.out.bel))
       generalize bs[k]=tx at c0 hstep HP
       unfold ParsePost at HP
       cases htp:tparse tx.data.toList with
       |none=>
        rw[htp]at hstep HP
        have HN:=hid (show newT (bs.map (·.data.toList)) []=none from hstep)
        have HP:=(show Hid (Calls Tryz.prog 27 #[.string tx] W0 fun e w'=>∃code at_:Int,code≠0∧e=.returned (.tuple #[.pointer none,.agg #[.int .i64 code,.int .i64 at_]])∧Bel W0 w')from HP)
        clear hstep
        go_wp2_with (first|(go_at_call 27;refine HP.out.mono ?_;rintro e w1 ⟨code,at_,hc,rfl,hb1⟩;have b4:(code==0)=false:=(by simpa using hc)))
        exact bodyPost_ret (v:=.tuple #[.pointer none,.int .i64 150]) (by simp[results,Tryz.results11,go_sem]) rfl (cn_form HX.out HX8.out HN.out ((HI.out.bel.trans hb1).alloc _))
       |some es=>
        rw[htp]at hstep HP
        have HSt:=hid (show newT (bs.map (·.data.toList)) []=if valsC es then newT ((bs.map (·.data.toList)).drop (k+1)) (ts++[es])else none from hstep)
        have HP:=(show Hid (Calls Tryz.prog 27 #[.string tx] W0 fun e w'=>∃a,e=.returned (.tuple #[.pointer a,.agg #[.int .i64 0,.int .i64 0]])∧Bel W0 w'∧TabAt w' a es)from HP)
        have HVs:=hid (tparse_vals htp)
        clear hstep htp
        go_wp2_with (first|(go_at_call 27;refine HP.out.mono ?_;rintro e w1 ⟨a,rfl,hb1,ht1⟩;have HB01:=hid hb1;have HB1:=hid (HI.out.bel.trans hb1);have HTA:=hid ht1;have HLen:=hid (fun W (hb:Bel w1 W)=>len_run a es W (ht1.next hb));clear hb1 ht1)|(go_at_call 28;refine(HLen.out _ ((Bel.refl w1).alloc _)).mono ?_;rintro e w2 ⟨rfl,hb2⟩;have HB12:=hid (((Bel.refl w1).alloc _).trans hb2);have HB2:=hid (HB1.out.trans HB12.out);clear hb2))
        go_loopg [61] es.length (fun gg v61 wr=>∃(j:Nat),v61=.int .i64 j∧j+gg=es.length∧Hid (Bel w2 wr∧∀i (hi:i<es.length),i<j→(valueC es[i].val).2.2=true))
        case atStart=>exact⟨0,rfl,by omega,hid ⟨Bel.refl w2,fun i _ h=>absurd h (Nat.not_lt_zero _)⟩⟩
        case round=>
         obtain⟨j,rfl,hj,HJ⟩:=hrel
         have Hj:=hid hj
         have hjn:j≤es.length:=by omega
         have hen:es.length≤2000:=HTA.out.num
         clear hj
         have HB3:=hid (HB12.out.trans HJ.out.1)
         by_cases hjl:j<es.length
         ·have HAt:=hid (at_run a es j wr (HTA.out.next HB3.out) hjl)
          have HVR:=(show Hid (∀W,Bel wr W→Calls Tryz.prog 30 #[.string ⟨es[j].val.toArray⟩] W fun e w'=>e=.returned (.tuple #[.agg (ptC (valueC es[j].val).1).toArray,.bool (valueC es[j].val).2.1,.bool (valueC es[j].val).2.2])∧Bel W w')from fun W hb=>cvalue_run ⟨es[j].val.toArray⟩ W (HW.out.next (HB1.out.trans (HB3.out.trans hb))).lay (by rw[Lib.size_eq];have:=HVs.out es[j] (List.getElem_mem hjl);show es[j].val.length≤_;omega))
          cases hv:(valueC es[j].val).2.2 with
          |false=>
           rw[hv]at HVR
           have hvr:valsC es=false:=by
            unfold valsC
            rw[List.all_eq_false]
            exact⟨es[j],List.getElem_mem hjl,by rw[hv];decide⟩
           have HN:=hid (show newT (bs.map (·.data.toList)) []=none by rw[HSt.out,hvr];rfl)
           clear hv hvr
           generalize es[j]=y at HAt HVR
           generalize (valueC y.val).1=p at HVR
           generalize (valueC y.val).2.1=isat at HVR
           go_wp2_with (first|(go_at_call 29;refine HAt.out.mono ?_;rintro e w4 ⟨rfl,hb4⟩;have HB4:=hid hb4;clear hb4)|(go_at_call 30;refine(HVR.out _ HB4.out).mono ?_;rintro e w5 ⟨rfl,hb5⟩;have HB5:=hid hb5;clear hb5)|(refine wpList_store_blk rfl 26 (.tmp 18) (.tmp 74) rfl w5.heap.size (ptC p) rfl rfl pt_size (ptC_one p) (ptC zeroP) _ (heap_alloc_new w5 _) rfl ?_;intro w6 hc6 ho6 hs6 hb6;have HB6:=hid (hb6 w5 ((Bel.refl w5).alloc _) (Nat.le_refl _));clear hc6 ho6 hs6 hb6))
           exact bodyPost_ret (v:=.tuple #[.pointer none,.int .i64 150]) (by simp[results,Tryz.results11,go_sem]) rfl (cn_form HX.out HX8.out HN.out (HB1.out.trans (HB3.out.trans (HB4.out.trans (HB5.out.trans HB6.out)))))
          |true=>
           rw[hv]at HVR
           have HV:=hid hv
           clear hv
           have HJL:=hid hjl
           generalize hy:es[j]=y at HAt HVR HV
           have HYY:=hid hy
           clear hy
           generalize (valueC y.val).1=p at HVR
           generalize (valueC y.val).2.1=isat at HVR
           go_wp2_with (first|(go_at_call 29;refine HAt.out.mono ?_;rintro e w4 ⟨rfl,hb4⟩;have HB4:=hid hb4;clear hb4)|(go_at_call 30;refine(HVR.out _ HB4.out).mono ?_;rintro e w5 ⟨rfl,hb5⟩;have HB5:=hid hb5;clear hb5)|(refine wpList_store_blk rfl 26 (.tmp 18) (.tmp 74) rfl w5.heap.size (ptC p) rfl rfl pt_size (ptC_one p) (ptC zeroP) _ (heap_alloc_new w5 _) rfl ?_;intro w6 hc6 ho6 hs6 hb6;have HB6:=hid (hb6 w5 ((Bel.refl w5).alloc _) (Nat.le_refl _));clear hc6 ho6 hs6 hb6))
           go_roundg (gk-1)
           case measure=>have:=Hj.out;omega
           case rel=>exact⟨j+1,by go_num,by have:=Hj.out;omega,hid ⟨HJ.out.1.trans (HB4.out.trans (HB5.out.trans HB6.out)),fun i hi hij=>by
            by_cases e:i=j
            ·subst e;exact(congrArg (fun z=>(valueC z.val).2.2) HYY.out).trans HV.out
            ·exact HJ.out.2 i hi (by omega)⟩⟩
         ·obtain rfl:j=es.length:=by omega
          have hvr:valsC es=true:=by
           unfold valsC
           rw[List.all_eq_true]
           intro y hy
           obtain⟨i,hi,rfl⟩:=List.getElem_of_mem hy
           exact HJ.out.2 i hi hi
          have HN:=hid (show newT ((bs.map (·.data.toList)).drop (k+1)) (ts++[es])=newT (bs.map (·.data.toList)) [] by rw[HSt.out,hvr];rfl)
          clear hvr
          have HBR:=hid (HB1.out.trans HB3.out)
          have HB0:=hid (HB01.out.trans HB3.out)
          have HRow:=hid (own_bel HI.out.row HB0.out)
          have HTE:=hid (HTA.out.next HB3.out)
          obtain⟨x4,c4,rfl,-,-⟩:=row_shape HI.out.row
          generalize hpl:ps.length=m at HRow
          have HPL:=hid hpl
          have hm8:m≤8:=by have:=HI.out.lp;omega
          clear hpl
          go_wp2_with (first|(at_builtin;refine wpList_push_at (W:=wr) rfl (.tmp 80) (.tmp 82) 59 rfl 60 (.pointer none) 1 8 Tryz.underlying59 ptr_infos rfl (by decide) w.heap.size (.slice x4 m c4) m (ptrs ps) rfl HRow.out HBR.out.size _ rfl rfl (by intro u hu;simp at hu;subst hu;rfl) (by unfold maxLen;omega) (by omega) ?_;intro v9 w9 hown9 hg9 _;have HO9:=hid hown9;have HG9:=hid hg9;clear hown9 hg9))
          go_roundg (g0-1)
          case measure=>have:=Hk.out;omega
          case rel=>exact⟨k+1,ps++[a],ts++[es],by go_num,by have:=Hk.out;omega,hid (nc_rel HBR.out (by rw[HPL.out];exact HRow.out) HI.out.lp HI.out.lt (fun i hi hi2=>(HI.out.tab i hi hi2).next HB0.out) HI.out.vals HTE.out HVs.out HN.out (by rw[HPL.out];exact HO9.out) HG9.out)⟩
      ·obtain rfl:k=bs.length:=by omega
       have hlt2:=HI.out.lt
       have hlp:=HI.out.lp
       have hn:newT (bs.map (·.data.toList)) []=some ts:=by
        rw[←HI.out.eq,show bs.length=(bs.map (·.data.toList)).length by rw[List.length_map],List.drop_length];rfl
       have HN:=hid hn
       obtain⟨x4,c4,rfl,-,-⟩:=row_shape HI.out.row
       have hTs:Tabs W0 x4 ts:=tabs_of_row (n:=ps.length) (c:=c4) (base:=w.heap.size) HI.out.row (by omega) HI.out.tab
       have HJ:=hid (fun W (hb:Bel W0 W)=>tjoin_run x4 ts c4 W (hTs.next hb) (by omega) (fun h=>by
        have:ps=[]:=List.eq_nil_of_length_eq_zero (by rw[hlp,←hlt2,h];rfl)
        obtain⟨e1,-,e3⟩:=Value.slice.inj (HI.out.nil this)
        exact⟨e1,e3⟩))
       have HVs:=hid HI.out.vals
       have HB:=hid HI.out.bel
       rw[show ts.length=ps.length by omega]at HJ
       clear hn hTs HI hlt2 hlp
       generalize ps.length=m at HJ
       have HNm:=(show Hid (∀W,Calls Tryz.prog 15 #[] W fun e w'=>e=.returned (.slice (some ⟨W.heap.size,0,none⟩) 12 12)∧w'=W.alloc (.cells nmsV.toArray 9))from fun W=>names_run W)
       have hmm:=@run_makeMap Tryz.prog
       go_wp2_with (first|(go_at_call 15;refine(HNm.out _).mono ?_;rintro e w3 ⟨rfl,hw3⟩;have HW3:=hid hw3;clear hw3))
       clear hmm
       have HM0:=hid (show SMap (W0.alloc (.map #[] 0)) W0.heap.size (fldL 0)from⟨#[],0,heap_alloc_new W0 _,rfl⟩)
       have HB30:=hid (show Bel W0 w3 by rw[HW3.out];exact((Bel.refl W0).alloc _).alloc _)
       have HM3:=hid (show SMap w3 W0.heap.size (fldL 0) by rw[HW3.out];exact HM0.out.next ((Bel.refl _).alloc _))
       have HN3:=hid (show w3.heap[W0.heap.size+1]?=some (.cells nmsV.toArray 9 (0,0)) by rw[HW3.out];exact Ci.alloc_second W0 _ _)
       go_loopg [88] 12 (fun gg v88 wr=>∃i:Nat,v88=.int .i64 i∧i+gg=12∧Hid (Bel W0 wr∧SMap wr W0.heap.size (fldL i)∧wr.heap[W0.heap.size+1]?=some (.cells nmsV.toArray 9 (0,0))))
       case atStart=>exact⟨0,rfl,by omega,hid ⟨HB30.out,HM3.out,HN3.out⟩⟩
       case round=>
        obtain⟨i,rfl,hi,HQ⟩:=hrel
        have Hi:=hid hi
        have hin:i≤12:=by omega
        clear hi
        by_cases hlt:i<12
        ·have cn:wr.cell? ⟨W0.heap.size+1,i,none⟩=some (.string ⟨((nmsL[i]?).getD []).toArray⟩):=by
          rw[Lib.cell_of_heap HQ.out.2.2]
          exact nms_at i hlt
         have HLw:=hid (lowN_run i hlt wr)
         have HIns:=hid (fun(W:World) (hW:Bel wr W)=>run_insert_s (P:=Tryz.prog) (t:=70) W W0.heap.size (fldL i) (lowN i) (.bool true) Tryz.underlying70 Tryz.underlying9 (HQ.out.2.1.next hW) (fld_new i hlt))
         have HF:=hid (fld_snoc i)
         generalize (⟨((nmsL[i]?).getD []).toArray⟩:ByteArray)=nm at cn HLw
         generalize lowN i=ln at HLw HIns HF
         go_wp2_with (first|(go_at_call 31;refine HLw.out.mono ?_;rintro e w5 ⟨rfl,hb5⟩;obtain⟨w6,hru,hs6,hb6,ho6⟩:=HIns.out w5 hb5;have HB5:=hid hb5;have HB6:=hid (hb6 W0 (HQ.out.1.trans hb5) (Nat.le_refl _));have HS6:=hid hs6;have HO6:=hid ((ho6 (W0.heap.size+1) (by omega)).trans (hb5.heap HQ.out.2.2));clear hs6 hb6 ho6 hb5))
         go_roundg (gk-1)
         case measure=>have:=Hi.out;omega
         case rel=>exact⟨i+1,by go_num,by have:=Hi.out;omega,hid ⟨HB6.out,by rw[HF.out];exact HS6.out,HO6.out⟩⟩
        ·obtain rfl:i=12:=by omega
         go_wp2_with (first|(go_at_call 32;refine(HJ.out _ HQ.out.1).mono ?_;rintro e w5 ⟨a5,rfl,hb5,hc5⟩))
         refine bodyPost_ret (v:=.tuple #[.pointer (some ⟨w5.heap.size,0,none⟩),.int .i64 0]) (by simp[results,Tryz.results11,go_sem]) rfl (cn_ok HX.out HX8.out HN.out ((HB.out.trans (HQ.out.1.trans hb5)).alloc _) ⟨⟨_,a5,_,rfl,heap_alloc_new w5 _,hc5.next ((Bel.refl w5).alloc _),(HQ.out.2.1.next hb5).next ((Bel.refl w5).alloc _)⟩,HVs.out,newT_vals _ _ _ HN.out (fun es he=>by cases he),HX.out⟩)
   ·have b3:(db.toList==h.toList)=false:=by
     rw[ByteArray.toList_eq,ByteArray.toList_eq,HDB.out];simpa using hdh
    have b3':¬db.toList=h.toList:=by simpa using b3
    have HX:=hid (show hostC h.data.toList=false by rw[HH.out,decide_eq_false hdh];rfl)
    go_enter Tryz.func11,Tryz.ntmps11
    go_wp2_with (first|(go_at_call 26;refine HD.out.mono ?_;rintro e w1 ⟨rfl,hb1⟩))
    exact bodyPost_ret (v:=.tuple #[.pointer none,.int .i64 1]) (by simp[results,Tryz.results11,go_sem]) rfl (cn_arg (.inl HX.out) hb1)
 ·have b1:(e==0)=false:=by simpa using he
  have HX:=hid (show hostC h.data.toList=false by rw[HH.out,decide_eq_false he];rfl)
  go_enter Tryz.func11,Tryz.ntmps11
  go_wp2_with (first|(go_at_call 26;refine HD.out.mono ?_;rintro e w1 ⟨rfl,hb1⟩))
  exact bodyPost_ret (v:=.tuple #[.pointer none,.int .i64 1]) (by simp[results,Tryz.results11,go_sem]) rfl (cn_arg (.inl HX.out) hb1)
end Go.Proofs.YtmlmkmhkmifnkaaGreatDoor.Tb
namespace Go.Proofs.YtmlmkmhkmifnkaaGreatDoor.Tb
open Go.RowKit
open Ci (Bel hid own_bel row_shape own_base addr_add Aft wp_region_aft Lay Calls.aft)
open Ma (Pt ptC ptC_one ptC_range pt_size zeroP domainQ rightP wpList_store_blk load_pt right_run)
theorem Right_pt(q:Pt)(W:World)(hW:Lay W)(hl:q.loc.length≤4194304)(hd:q.dom.length≤4194304):Calls Tryz.prog 36 #[.agg (ptC q).toArray] W fun e w'=>e=.returned (.int .i64 (rightP q))∧Bel W w':=
 right_run q.null ⟨q.loc.toArray⟩ ⟨q.dom.toArray⟩ q.lit W hW (by rw[Lib.size_eq];exact hl) (by rw[Lib.size_eq];exact hd)
theorem pt_cells{w:World}{b:Nat}{q:Pt}{T:TypeId}(h:w.heap[b]?=some (.cells (ptC q).toArray T (0,0))):w.cell? ⟨b,0,none⟩=some (.bool q.null)∧w.cell? ⟨b,1,none⟩=some (.string ⟨q.loc.toArray⟩)∧w.cell? ⟨b,2,none⟩=some (.string ⟨q.dom.toArray⟩)∧w.cell? ⟨b,3,none⟩=some (.bool q.lit):=by
 refine⟨?_,?_,?_,?_⟩<;>(rw[Lib.cell_of_heap h];rfl)
theorem int_zero(r:Int):r=0∨(¬r=0∧(r==0)=false):=by
 by_cases h:r=0
 ·exact .inl h
 ·exact .inr ⟨h,by simpa using h⟩
theorem dom_cases(h:List UInt8)(p:Pt):(((⟨p.dom.toArray⟩:ByteArray).toList==[])=true∧(⟨p.dom.toArray⟩:ByteArray).toList=[]∧domC h p=⟨p.null,p.loc,h,p.lit⟩)∨(((⟨p.dom.toArray⟩:ByteArray).toList==[])=false∧¬(⟨p.dom.toArray⟩:ByteArray).toList=[]∧domC h p=p):=by
 unfold domC
 by_cases hd:p.dom=[]
 ·have d1:(⟨p.dom.toArray⟩:ByteArray).toList=[]:=by rw[ByteArray.toList_eq,hd]
  exact .inl ⟨by rw[d1];rfl,d1,if_pos hd⟩
 ·have d1:¬(⟨p.dom.toArray⟩:ByteArray).toList=[]:=by rw[ByteArray.toList_eq];exact hd
  exact .inr ⟨by simpa using d1,d1,if_neg hd⟩
theorem dom_facts(h:List UInt8)(p:Pt)(hh:h.length≤255)(hL:p.loc.length≤4194304∧p.dom.length≤4194304)(h2:p.null=false)(h3:p.lit=false):(domC h p).loc.length≤4194304∧(domC h p).dom.length≤4194304∧((domC h p).null=false∧(domC h p).lit=false):=by
 unfold domC
 split
 ·exact⟨hL.1,by show h.length≤_;omega,h2,h3⟩
 ·exact⟨hL.1,hL.2,h2,h3⟩
theorem vals_le{ts:List (List En)}(hv:∀es∈ts,ValsOk es){l d v:List UInt8}(h:askQ ts l d=some v):v.length≤1000:=by
 obtain⟨es,h1,e,h2,rfl⟩:=askC_in h
 exact hv es h1 e h2
theorem cpath_run(a:Option Addr)(h:List UInt8)(ts:List (List En))(p:Pt)(w:World)(hw:Lat w)(hC:CnAt w a h ts)(hl:p.loc.length≤4194304)(hd:p.dom.length≤4194304):
 Calls Tryz.prog 13 #[.pointer a,.agg (ptC p).toArray] w fun e w'=>e=.returned (.agg (ptC (pathC h ts p)).toArray)∧Bel w w':=by
 obtain⟨cb,ct,mb,rfl,hcb,hch,-⟩:=hC.at_
 have HW:=hid hw
 have HCB:=hid (show∀W,Bel w W→W.cell? ⟨cb,0,none⟩=some (.string ⟨h.toArray⟩)∧W.cell? ⟨cb,1,none⟩=some (.pointer ct)from fun W hW=>⟨by rw[Lib.cell_of_heap (hW.heap hcb)];rfl,by rw[Lib.cell_of_heap (hW.heap hcb)];rfl⟩)
 have HA:=(show Hid (∀(l d:List UInt8),l.length≤4194304→d.length≤4194304→∀W,Bel w W→Calls Tryz.prog 37 #[.pointer ct,.string ⟨l.toArray⟩,.string ⟨d.toArray⟩] W fun e w'=>e=.returned (.tuple (optV (askQ ts l d)))∧Bel W w')from fun l d hl hd W hW=>chAddr_run ct ts ⟨l.toArray⟩ ⟨d.toArray⟩ W (hw.next hW) (hch.next hW) (by rw[Lib.size_eq];exact hl) (by rw[Lib.size_eq];exact hd))
 have HV:=(show Hid (∀(v:List UInt8),v.length≤1000→∀W,Bel w W→Calls Tryz.prog 30 #[.string ⟨v.toArray⟩] W fun e w'=>e=.returned (.tuple #[.agg (ptC (valueC v).1).toArray,.bool (valueC v).2.1,.bool (valueC v).2.2])∧Bel W w')from fun v hv W hW=>cvalue_run ⟨v.toArray⟩ W (hw.next hW).lay (by rw[Lib.size_eq];show v.length≤_;omega))
 have HRq:=(show Hid (∀q:Pt,q.loc.length≤4194304→q.dom.length≤4194304→∀W,Bel w W→Calls Tryz.prog 36 #[.agg (ptC q).toArray] W fun e w'=>e=.returned (.int .i64 (rightP q))∧Bel W w')from fun q hl hd W hW=>Right_pt q W (hw.next hW).lay hl hd)
 have HR:=(show Hid (∀W,Lay W→Calls Tryz.prog 36 #[.agg (ptC p).toArray] W fun e w'=>e=.returned (.int .i64 (rightP p))∧Bel W w')from fun W hW=>Right_pt p W hW hl hd)
 have HVl:=hid (fun(l d v:List UInt8) (hq:askQ ts l d=some v)=>vals_le hC.vals hq)
 have HOK:=hid (fun(l d v:List UInt8) (hq:askQ ts l d=some v)=>ask_ok hC.ok hq)
 have hh:=host_small hC.host
 obtain⟨W1,hW1⟩:∃W1,W1=(w.alloc (.cells (ptC p).toArray 26)).alloc (.cells #[.bool false,.string ⟨#[]⟩,.string ⟨#[]⟩,.bool false] 26):=⟨_,rfl⟩
 have HB1:=hid (show Bel w W1 by rw[hW1];exact((Bel.refl w).alloc _).alloc _)
 have HP1:=hid (show W1.heap[w.heap.size]?=some (.cells (ptC p).toArray 26 (0,0)) by rw[hW1];exact Bel.heap ((Bel.refl _).alloc _) (heap_alloc_new w _))
 have HZ1:=hid (show W1.heap[w.heap.size+1]?=some (.cells (ptC zeroP).toArray 26 (0,0)) by rw[hW1];exact Ci.alloc_second w _ _)
 have HL:=hid (And.intro hl hd)
 clear hw hcb hch hC hl hd
 by_cases h1:rightP p=0
 ·rw[h1]at HR
  by_cases h2:p.null=true
  ·have HX:=hid (show pathC h ts p=p by unfold pathC;rw[if_pos (.inr (.inl h2))])
   go_enter Tryz.func13,Tryz.ntmps13
   go_wp2_with (first|((try rw[←hW1]);refine wpList_load_mid rfl 26 (.tmp 3) rfl (w.heap.size) 0 rfl (ptC p) _ (ptC_range HP1.out) Tryz.underlying26 rfl pt_size ?_)|(go_at_call 36;(try rw[←hW1]);refine(HR.out W1 (HW.out.next HB1.out).lay).mono ?_;rintro _ W2 ⟨rfl,hb2⟩;have HB2:=hid hb2;have HP2:=hid (hb2.heap HP1.out);have HZ2:=hid (hb2.heap HZ1.out);have HS2:=hid hb2.size;have k2:=pt_cells (hb2.heap HP1.out);rw[h2]at k2;clear hb2)|(refine wpList_load_mid rfl 26 (.tmp 3) rfl (w.heap.size) 0 rfl (ptC p) _ (ptC_range (HP2.out)) Tryz.underlying26 rfl pt_size ?_)|(refine wpList_store_blk rfl 26 (.tmp 4) (.tmp 22) rfl (w.heap.size+1) (ptC p) rfl rfl pt_size (ptC_one _) (ptC zeroP) _ (HZ2.out) rfl ?_;intro WZ hcz hoz hsz hbz;have HBZ:=hid (hbz w (HB1.out.trans HB2.out) (by omega));have HCZ:=hid hcz;clear hoz hsz hbz hcz))
   have hl2:=load_pt (cs:=ptC p) HCZ.out rfl
   exact bodyPost_ret (v:=.agg (ptC (p)).toArray) (by simp[results,Tryz.results13,asAddr,hl2,Act.put]) rfl ⟨by rw[HX.out],HBZ.out⟩
  ·have h2:p.null=false:=by simpa using h2
   by_cases h3:p.lit=true
   ·have HX:=hid (show pathC h ts p=p by unfold pathC;rw[if_pos (.inr (.inr h3))])
    go_enter Tryz.func13,Tryz.ntmps13
    go_wp2_with (first|((try rw[←hW1]);refine wpList_load_mid rfl 26 (.tmp 3) rfl (w.heap.size) 0 rfl (ptC p) _ (ptC_range HP1.out) Tryz.underlying26 rfl pt_size ?_)|(go_at_call 36;(try rw[←hW1]);refine(HR.out W1 (HW.out.next HB1.out).lay).mono ?_;rintro _ W2 ⟨rfl,hb2⟩;have HB2:=hid hb2;have HP2:=hid (hb2.heap HP1.out);have HZ2:=hid (hb2.heap HZ1.out);have HS2:=hid hb2.size;have k2:=pt_cells (hb2.heap HP1.out);rw[h2,h3]at k2;clear hb2)|(refine wpList_load_mid rfl 26 (.tmp 3) rfl (w.heap.size) 0 rfl (ptC p) _ (ptC_range (HP2.out)) Tryz.underlying26 rfl pt_size ?_)|(refine wpList_store_blk rfl 26 (.tmp 4) (.tmp 22) rfl (w.heap.size+1) (ptC p) rfl rfl pt_size (ptC_one _) (ptC zeroP) _ (HZ2.out) rfl ?_;intro WZ hcz hoz hsz hbz;have HBZ:=hid (hbz w (HB1.out.trans HB2.out) (by omega));have HCZ:=hid hcz;clear hoz hsz hbz hcz))
    have hl2:=load_pt (cs:=ptC p) HCZ.out rfl
    exact bodyPost_ret (v:=.agg (ptC (p)).toArray) (by simp[results,Tryz.results13,asAddr,hl2,Act.put]) rfl ⟨by rw[HX.out],HBZ.out⟩
   ·have h3:p.lit=false:=by simpa using h3
    have HP:=hid (show pathC h ts p=if rightP (askC ts (domC h p))≠0 then p else askC ts (domC h p)from by
     unfold pathC
     rw[if_neg (by rintro(f|f|f);exact f h1;rw[h2]at f;cases f;rw[h3]at f;cases f)])
    obtain⟨q,hq0⟩:∃q,q=domC h p:=⟨_,rfl⟩
    have hdc:=dom_cases h p
    rw[←hq0]at HP hdc
    have hqs:=dom_facts h p hh HL.out h2 h3
    rw[←hq0]at hqs
    obtain⟨hql,hqd,hqn⟩:=hqs
    clear hq0
    obtain⟨db,hdb⟩:∃db:ByteArray,db=⟨p.dom.toArray⟩:=⟨_,rfl⟩
    rw[←hdb]at hdc
    have HDb:=hid hdb
    have HDc:=hid hdc
    clear hdb hdc
    go_enter Tryz.func13,Tryz.ntmps13
    go_wp2_with (first|((try rw[←hW1]);refine wpList_load_mid rfl 26 (.tmp 3) rfl (w.heap.size) 0 rfl (ptC p) _ (ptC_range HP1.out) Tryz.underlying26 rfl pt_size ?_)|(go_at_call 36;(try rw[←hW1]);refine(HR.out W1 (HW.out.next HB1.out).lay).mono ?_;rintro _ W2 ⟨rfl,hb2⟩;have HB2:=hid hb2;have HP2:=hid (hb2.heap HP1.out);have HZ2:=hid (hb2.heap HZ1.out);have HS2:=hid hb2.size;have k2:=pt_cells (hb2.heap HP1.out);rw[h2,h3]at k2;clear hb2)|(refine wpList_load_mid rfl 26 (.tmp 3) rfl (w.heap.size) 0 rfl (ptC p) _ (ptC_range HP2.out) Tryz.underlying26 rfl pt_size ?_)|(refine wpList_store_blk rfl 26 (.tmp 5) (.tmp 23) rfl (W2.heap.size) (ptC p) rfl rfl pt_size (ptC_one _) (ptC zeroP) _ (heap_alloc_new W2 _) rfl ?_;intro W3 hc3 ho3 hs3 hb3;have HB3:=hid (hb3 W2 ((Bel.refl W2).alloc _) (Nat.le_refl _));have HC3:=hid hc3;have m2:W3.cell? ⟨W2.heap.size,2,none⟩=some (.string db):=(by rw[HDb.out];exact(pt_cells hc3).2.2.1);have mf:W3.frozen? ⟨W2.heap.size,2,none⟩=false:=Lib.frozen_of_heap hc3 2;have mh:=(HCB.out W3 ((HB1.out.trans HB2.out).trans HB3.out)).1;clear hc3 ho3 hs3 hb3;rcases HDc.out with⟨d0,d1,hq⟩|⟨d0,d1,hq⟩<;>(have HQ0:=hid hq;clear hq)))
    all_goals first
     | (obtain⟨W4,hW4⟩:∃W4,W4=W3.setCell ⟨W2.heap.size,2,none⟩ (.string ⟨h.toArray⟩):=⟨_,rfl⟩
        rw[←hW4]
        have HB4:=hid (show Bel W2 W4 by rw[hW4];exact HB3.out.setCell (Nat.le_refl _) _)
        have HC4:=hid (show W4.heap[W2.heap.size]?=some (.cells (ptC q).toArray 26 (0,0)) by rw[hW4,HQ0.out];exact heap_setCell_same _ _ _ _ _ _ HC3.out)
        clear hW4 m2 mf mh HB3 HC3)
     | (have HB4:=HB3
        have HC4:=hid (show W3.heap[W2.heap.size]?=some (.cells (ptC q).toArray 26 (0,0)) by rw[HQ0.out];exact HC3.out)
        clear m2 mf mh HB3 HC3
        generalize W3=W4 at HB4 HC4⊢)
    all_goals
     clear k2 HQ0 HDc HDb d0 d1
     have HBw:=hid ((HB1.out.trans HB2.out).trans HB4.out)
     have e1:∀P:Aft W4,P.wd.cell? ⟨cb,1,none⟩=some (.pointer ct):=fun P=>(HCB.out P.wd (HBw.out.trans P.bel)).2
     have e2:∀P:Aft W4,P.wd.cell? ⟨W2.heap.size,1,none⟩=some (.string ⟨q.loc.toArray⟩):=fun P=>(pt_cells (P.bel.heap HC4.out)).2.1
     have e3:∀P:Aft W4,P.wd.cell? ⟨W2.heap.size,2,none⟩=some (.string ⟨q.dom.toArray⟩):=fun P=>(pt_cells (P.bel.heap HC4.out)).2.2.1
     have HAq:=hid (fun P:Aft W4=>HA.out q.loc q.dom hql hqd P.wd (HBw.out.trans P.bel))
     have HPq:Hid (askC ts q=match askQ ts q.loc q.dom with|none=>q|some v=>toC v q):=hid rfl
     have HOq:=hid (HOK.out q.loc q.dom)
     have HVq:=hid (HVl.out q.loc q.dom)
     generalize askQ ts q.loc q.dom=av at HAq HPq HOq HVq
     cases av with
     |none=>
      have HAq:=(show Hid (∀P:Aft W4,Calls Tryz.prog 37 #[.pointer ct,.string ⟨q.loc.toArray⟩,.string ⟨q.dom.toArray⟩] P.wd fun e w'=>e=.returned (.tuple #[.string ⟨#[]⟩,.bool false])∧Bel P.wd w')from HAq.out)
      rw[show askC ts q=q from HPq.out]at HP
      refine wp_region_aft (by kernel_rfl) (by kernel_rfl) ?_
      repeat (first|go_big_quiet_skip|go_big_quiet_step (first|(go_at_call 37;exact Calls.aft (HAq.out _)))|quiet_step (first|(go_at_call 37;exact Calls.aft (HAq.out _))))
      refine wpQuiet_nil ?_
      rintro _ ⟨P6,rfl⟩
      obtain⟨W6,hb6⟩:∃W6,W6=P6.wd:=⟨_,rfl⟩
      have HB6:=hid (show Bel W2 W6 by rw[hb6];exact HB4.out.trans P6.bel)
      have HQ6:=hid (show W6.heap[W2.heap.size]?=some (.cells (ptC q).toArray 26 (0,0)) by rw[hb6];exact P6.bel.heap HC4.out)
      rw[←hb6]
      clear hb6 e1 e2 e3
      have HRr:=hid (HRq.out q hql hqd)
      generalize rightP q=rr at HRr HP
      go_wp2_with (first|(refine wpList_load_mid rfl 26 (.tmp 5) rfl (W2.heap.size) 0 rfl (ptC q) _ (ptC_range HQ6.out) Tryz.underlying26 rfl pt_size ?_)|(go_at_call 36;refine(HRr.out _ ((HB1.out.trans HB2.out).trans HB6.out)).mono ?_;rintro _ W11 ⟨rfl,hb11⟩;have HB11:=hid (HB6.out.trans hb11);have HQ11:=hid (hb11.heap HQ6.out);clear hb11;rcases int_zero rr with rfl|⟨hr0,b1⟩)|(refine wpList_load_mid rfl 26 (.tmp 3) rfl (w.heap.size) 0 rfl (ptC p) _ (ptC_range (HB11.out.heap HP2.out)) Tryz.underlying26 rfl pt_size ?_)|(refine wpList_load_mid rfl 26 (.tmp 5) rfl (W2.heap.size) 0 rfl (ptC q) _ (ptC_range HQ11.out) Tryz.underlying26 rfl pt_size ?_)|(refine wpList_store_blk rfl 26 (.tmp 4) (.tmp 60) rfl (w.heap.size+1) (ptC q) rfl rfl pt_size (ptC_one _) (ptC zeroP) _ (HB11.out.heap HZ2.out) rfl ?_;intro WZ hcz hoz hsz hbz;have HBZ:=hid (hbz w ((HB1.out.trans HB2.out).trans HB11.out) (by omega));have HCZ:=hid hcz;clear hoz hsz hbz hcz)|(refine wpList_store_blk rfl 26 (.tmp 4) (.tmp 59) rfl (w.heap.size+1) (ptC p) rfl rfl pt_size (ptC_one _) (ptC zeroP) _ (HB11.out.heap HZ2.out) rfl ?_;intro WZ hcz hoz hsz hbz;have HBZ:=hid (hbz w ((HB1.out.trans HB2.out).trans HB11.out) (by omega));have HCZ:=hid hcz;clear hoz hsz hbz hcz))
      ·have HX:=hid (show pathC h ts p=q by rw[HP.out,if_neg (fun f=>f rfl)])
       have hl2:=load_pt (cs:=ptC q) HCZ.out rfl
       exact bodyPost_ret (v:=.agg (ptC (q)).toArray) (by simp[results,Tryz.results13,asAddr,hl2,Act.put]) rfl ⟨by rw[HX.out],HBZ.out⟩
      ·have HX:=hid (show pathC h ts p=p by rw[HP.out,if_pos hr0])
       have hl2:=load_pt (cs:=ptC p) HCZ.out rfl
       exact bodyPost_ret (v:=.agg (ptC (p)).toArray) (by simp[results,Tryz.results13,asAddr,hl2,Act.put]) rfl ⟨by rw[HX.out],HBZ.out⟩
     |some v=>
      have HAq:=(show Hid (∀P:Aft W4,Calls Tryz.prog 37 #[.pointer ct,.string ⟨q.loc.toArray⟩,.string ⟨q.dom.toArray⟩] P.wd fun e w'=>e=.returned (.tuple #[.string ⟨v.toArray⟩,.bool true])∧Bel P.wd w')from HAq.out)
      rw[show askC ts q=toC v q from HPq.out]at HP
      have hvl:v.length≤1000:=HVq.out v rfl
      have hok:(valueC v).2.2=true:=HOq.out v rfl
      have hts:=toC_small hok hql
      have HVv:=hid (HV.out v hvl)
      have HTq:Hid (toC v q=if(valueC v).2.1 then⟨(valueC v).1.null,q.loc,(valueC v).1.dom,(valueC v).1.lit⟩else(valueC v).1):=hid rfl
      rw[hok]at HVv
      generalize (valueC v).1=tq at HVv HTq
      generalize (valueC v).2.1=isat at HVv HTq
      generalize toC v q=q1 at HP hts HTq
      cases isat with
      |true=>
       obtain rfl:q1=⟨tq.null,q.loc,tq.dom,tq.lit⟩:=HTq.out
       refine wp_region_aft (by kernel_rfl) (by kernel_rfl) ?_
       repeat (first|go_big_quiet_skip|go_big_quiet_step (first|(go_at_call 37;exact Calls.aft (HAq.out _)))|quiet_step (first|(go_at_call 37;exact Calls.aft (HAq.out _))))
       refine wpQuiet_nil ?_
       rintro _ ⟨P6,rfl⟩
       obtain⟨W6,hb6⟩:∃W6,W6=P6.wd:=⟨_,rfl⟩
       have HB6:=hid (show Bel W2 W6 by rw[hb6];exact HB4.out.trans P6.bel)
       have HQ6:=hid (show W6.heap[W2.heap.size]?=some (.cells (ptC q).toArray 26 (0,0)) by rw[hb6];exact P6.bel.heap HC4.out)
       rw[←hb6]
       clear hb6 e1 e2 e3
       have HRr:=hid (HRq.out ⟨tq.null,q.loc,tq.dom,tq.lit⟩ hts.1 hts.2)
       generalize rightP ⟨tq.null,q.loc,tq.dom,tq.lit⟩=rr at HRr HP
       go_wp2_with (first|(go_at_call 30;refine(HVv.out W6 ((HB1.out.trans HB2.out).trans HB6.out)).mono ?_;rintro _ W7 ⟨rfl,hb7⟩;have HB7:=hid (HB6.out.trans hb7);have HQ7:=hid (hb7.heap HQ6.out);clear hb7)|(refine wpList_store_blk rfl 26 (.tmp 8) (.tmp 48) rfl (W7.heap.size) (ptC tq) rfl rfl pt_size (ptC_one _) (ptC zeroP) _ (heap_alloc_new W7 _) rfl ?_;intro W8 hc8 ho8 hs8 hb8;have HB8:=hid (HB7.out.trans (hb8 W7 ((Bel.refl W7).alloc _) (Nat.le_refl _)));have HQ8:=hid ((hb8 W7 ((Bel.refl W7).alloc _) (Nat.le_refl _)).heap HQ7.out);have HT8:=hid hc8;have n1:W8.cell? ⟨W2.heap.size,1,none⟩=some (.string ⟨q.loc.toArray⟩):=(pt_cells HQ8.out).2.1;have n2:W8.cell? ⟨W7.heap.size,1,none⟩=some (.string ⟨tq.loc.toArray⟩):=(pt_cells hc8).2.1;have nf:W8.frozen? ⟨W7.heap.size,1,none⟩=false:=Lib.frozen_of_heap hc8 1;have HT9:=hid (show(W8.setCell ⟨W7.heap.size,1,none⟩ (.string ⟨q.loc.toArray⟩)).heap[W7.heap.size]?=some (.cells (ptC ⟨tq.null,q.loc,tq.dom,tq.lit⟩).toArray 26 (0,0))from heap_setCell_same _ _ _ _ _ _ hc8);have HQ9:=hid (show(W8.setCell ⟨W7.heap.size,1,none⟩ (.string ⟨q.loc.toArray⟩)).heap[W2.heap.size]?=some (.cells (ptC q).toArray 26 (0,0))from(heap_setCell_other _ _ _ _ (fun e=>by have e:W2.heap.size=W7.heap.size:=e;have:=(Array.getElem?_eq_some_iff.1 HQ7.out).1;omega)).trans HQ8.out);have HB9:=hid (HB8.out.setCell HB7.out.size (.string ⟨q.loc.toArray⟩) (o:=1));clear hc8 ho8 hs8 hb8)|(refine wpList_load_mid rfl 26 (.tmp 8) rfl (W7.heap.size) 0 rfl (ptC ⟨tq.null,q.loc,tq.dom,tq.lit⟩) _ (ptC_range HT9.out) Tryz.underlying26 rfl pt_size ?_)|(refine wpList_store_blk rfl 26 (.tmp 5) (.tmp 55) rfl (W2.heap.size) (ptC ⟨tq.null,q.loc,tq.dom,tq.lit⟩) rfl rfl pt_size (ptC_one _) (ptC q) _ (HQ9.out) rfl ?_;intro W10 hc10 ho10 hs10 hb10;have HB10:=hid (hb10 W2 HB9.out (Nat.le_refl _));have HQ10:=hid hc10;clear hc10 ho10 hs10 hb10)|(refine wpList_load_mid rfl 26 (.tmp 5) rfl (W2.heap.size) 0 rfl (ptC ⟨tq.null,q.loc,tq.dom,tq.lit⟩) _ (ptC_range HQ10.out) Tryz.underlying26 rfl pt_size ?_)|(go_at_call 36;refine(HRr.out _ ((HB1.out.trans HB2.out).trans HB10.out)).mono ?_;rintro _ W11 ⟨rfl,hb11⟩;have HB11:=hid (HB10.out.trans hb11);have HQ11:=hid (hb11.heap HQ10.out);clear hb11;rcases int_zero rr with rfl|⟨hr0,b1⟩)|(refine wpList_load_mid rfl 26 (.tmp 3) rfl (w.heap.size) 0 rfl (ptC p) _ (ptC_range (HB11.out.heap HP2.out)) Tryz.underlying26 rfl pt_size ?_)|(refine wpList_load_mid rfl 26 (.tmp 5) rfl (W2.heap.size) 0 rfl (ptC ⟨tq.null,q.loc,tq.dom,tq.lit⟩) _ (ptC_range HQ11.out) Tryz.underlying26 rfl pt_size ?_)|(refine wpList_store_blk rfl 26 (.tmp 4) (.tmp 60) rfl (w.heap.size+1) (ptC ⟨tq.null,q.loc,tq.dom,tq.lit⟩) rfl rfl pt_size (ptC_one _) (ptC zeroP) _ (HB11.out.heap HZ2.out) rfl ?_;intro WZ hcz hoz hsz hbz;have HBZ:=hid (hbz w ((HB1.out.trans HB2.out).trans HB11.out) (by omega));have HCZ:=hid hcz;clear hoz hsz hbz hcz)|(refine wpList_store_blk rfl 26 (.tmp 4) (.tmp 59) rfl (w.heap.size+1) (ptC p) rfl rfl pt_size (ptC_one _) (ptC zeroP) _ (HB11.out.heap HZ2.out) rfl ?_;intro WZ hcz hoz hsz hbz;have HBZ:=hid (hbz w ((HB1.out.trans HB2.out).trans HB11.out) (by omega));have HCZ:=hid hcz;clear hoz hsz hbz hcz))
       ·have HX:=hid (show pathC h ts p=⟨tq.null,q.loc,tq.dom,tq.lit⟩ by rw[HP.out,if_neg (fun f=>f rfl)])
        have hl2:=load_pt (cs:=ptC ⟨tq.null,q.loc,tq.dom,tq.lit⟩) HCZ.out rfl
        exact bodyPost_ret (v:=.agg (ptC (⟨tq.null,q.loc,tq.dom,tq.lit⟩)).toArray) (by simp[results,Tryz.results13,asAddr,hl2,Act.put]) rfl ⟨by rw[HX.out],HBZ.out⟩
       ·have HX:=hid (show pathC h ts p=p by rw[HP.out,if_pos hr0])
        have hl2:=load_pt (cs:=ptC p) HCZ.out rfl
        exact bodyPost_ret (v:=.agg (ptC (p)).toArray) (by simp[results,Tryz.results13,asAddr,hl2,Act.put]) rfl ⟨by rw[HX.out],HBZ.out⟩
      |false=>
       obtain rfl:tq=q1:=HTq.out.symm
       refine wp_region_aft (by kernel_rfl) (by kernel_rfl) ?_
       repeat (first|go_big_quiet_skip|go_big_quiet_step (first|(go_at_call 37;exact Calls.aft (HAq.out _)))|quiet_step (first|(go_at_call 37;exact Calls.aft (HAq.out _))))
       refine wpQuiet_nil ?_
       rintro _ ⟨P6,rfl⟩
       obtain⟨W6,hb6⟩:∃W6,W6=P6.wd:=⟨_,rfl⟩
       have HB6:=hid (show Bel W2 W6 by rw[hb6];exact HB4.out.trans P6.bel)
       have HQ6:=hid (show W6.heap[W2.heap.size]?=some (.cells (ptC q).toArray 26 (0,0)) by rw[hb6];exact P6.bel.heap HC4.out)
       rw[←hb6]
       clear hb6 e1 e2 e3
       have HRr:=hid (HRq.out tq hts.1 hts.2)
       generalize rightP tq=rr at HRr HP
       go_wp2_with (first|(go_at_call 30;refine(HVv.out W6 ((HB1.out.trans HB2.out).trans HB6.out)).mono ?_;rintro _ W7 ⟨rfl,hb7⟩;have HB7:=hid (HB6.out.trans hb7);have HQ7:=hid (hb7.heap HQ6.out);clear hb7)|(refine wpList_store_blk rfl 26 (.tmp 8) (.tmp 48) rfl (W7.heap.size) (ptC tq) rfl rfl pt_size (ptC_one _) (ptC zeroP) _ (heap_alloc_new W7 _) rfl ?_;intro W8 hc8 ho8 hs8 hb8;have HB8:=hid (HB7.out.trans (hb8 W7 ((Bel.refl W7).alloc _) (Nat.le_refl _)));have HQ8:=hid ((hb8 W7 ((Bel.refl W7).alloc _) (Nat.le_refl _)).heap HQ7.out);have HT8:=hid hc8;clear hc8 ho8 hs8 hb8)|(refine wpList_load_mid rfl 26 (.tmp 8) rfl (W7.heap.size) 0 rfl (ptC tq) _ (ptC_range HT8.out) Tryz.underlying26 rfl pt_size ?_)|(refine wpList_store_blk rfl 26 (.tmp 5) (.tmp 55) rfl (W2.heap.size) (ptC tq) rfl rfl pt_size (ptC_one _) (ptC q) _ (HQ8.out) rfl ?_;intro W10 hc10 ho10 hs10 hb10;have HB10:=hid (hb10 W2 HB8.out (Nat.le_refl _));have HQ10:=hid hc10;clear hc10 ho10 hs10 hb10)|(refine wpList_load_mid rfl 26 (.tmp 5) rfl (W2.heap.size) 0 rfl (ptC tq) _ (ptC_range HQ10.out) Tryz.underlying26 rfl pt_size ?_)|(go_at_call 36;refine(HRr.out _ ((HB1.out.trans HB2.out).trans HB10.out)).mono ?_;rintro _ W11 ⟨rfl,hb11⟩;have HB11:=hid (HB10.out.trans hb11);have HQ11:=hid (hb11.heap HQ10.out);clear hb11;rcases int_zero rr with rfl|⟨hr0,b1⟩)|(refine wpList_load_mid rfl 26 (.tmp 3) rfl (w.heap.size) 0 rfl (ptC p) _ (ptC_range (HB11.out.heap HP2.out)) Tryz.underlying26 rfl pt_size ?_)|(refine wpList_load_mid rfl 26 (.tmp 5) rfl (W2.heap.size) 0 rfl (ptC tq) _ (ptC_range HQ11.out) Tryz.underlying26 rfl pt_size ?_)|(refine wpList_store_blk rfl 26 (.tmp 4) (.tmp 60) rfl (w.heap.size+1) (ptC tq) rfl rfl pt_size (ptC_one _) (ptC zeroP) _ (HB11.out.heap HZ2.out) rfl ?_;intro WZ hcz hoz hsz hbz;have HBZ:=hid (hbz w ((HB1.out.trans HB2.out).trans HB11.out) (by omega));have HCZ:=hid hcz;clear hoz hsz hbz hcz)|(refine wpList_store_blk rfl 26 (.tmp 4) (.tmp 59) rfl (w.heap.size+1) (ptC p) rfl rfl pt_size (ptC_one _) (ptC zeroP) _ (HB11.out.heap HZ2.out) rfl ?_;intro WZ hcz hoz hsz hbz;have HBZ:=hid (hbz w ((HB1.out.trans HB2.out).trans HB11.out) (by omega));have HCZ:=hid hcz;clear hoz hsz hbz hcz))
       ·have HX:=hid (show pathC h ts p=tq by rw[HP.out,if_neg (fun f=>f rfl)])
        have hl2:=load_pt (cs:=ptC tq) HCZ.out rfl
        exact bodyPost_ret (v:=.agg (ptC (tq)).toArray) (by simp[results,Tryz.results13,asAddr,hl2,Act.put]) rfl ⟨by rw[HX.out],HBZ.out⟩
       ·have HX:=hid (show pathC h ts p=p by rw[HP.out,if_pos hr0])
        have hl2:=load_pt (cs:=ptC p) HCZ.out rfl
        exact bodyPost_ret (v:=.agg (ptC (p)).toArray) (by simp[results,Tryz.results13,asAddr,hl2,Act.put]) rfl ⟨by rw[HX.out],HBZ.out⟩
 ·have b1:(rightP p==0)=false:=by simpa using h1
  have HX:=hid (show pathC h ts p=p by unfold pathC;rw[if_pos (.inl h1)])
  go_enter Tryz.func13,Tryz.ntmps13
  go_wp2_with (first|((try rw[←hW1]);refine wpList_load_mid rfl 26 (.tmp 3) rfl (w.heap.size) 0 rfl (ptC p) _ (ptC_range HP1.out) Tryz.underlying26 rfl pt_size ?_)|(go_at_call 36;(try rw[←hW1]);refine(HR.out W1 (HW.out.next HB1.out).lay).mono ?_;rintro _ W2 ⟨rfl,hb2⟩;have HB2:=hid hb2;have HP2:=hid (hb2.heap HP1.out);have HZ2:=hid (hb2.heap HZ1.out);have HS2:=hid hb2.size;have k2:=pt_cells (hb2.heap HP1.out);clear hb2)|(refine wpList_load_mid rfl 26 (.tmp 3) rfl (w.heap.size) 0 rfl (ptC p) _ (ptC_range (HP2.out)) Tryz.underlying26 rfl pt_size ?_)|(refine wpList_store_blk rfl 26 (.tmp 4) (.tmp 22) rfl (w.heap.size+1) (ptC p) rfl rfl pt_size (ptC_one _) (ptC zeroP) _ (HZ2.out) rfl ?_;intro WZ hcz hoz hsz hbz;have HBZ:=hid (hbz w (HB1.out.trans HB2.out) (by omega));have HCZ:=hid hcz;clear hoz hsz hbz hcz))
  have hl2:=load_pt (cs:=ptC p) HCZ.out rfl
  exact bodyPost_ret (v:=.agg (ptC (p)).toArray) (by simp[results,Tryz.results13,asAddr,hl2,Act.put]) rfl ⟨by rw[HX.out],HBZ.out⟩
end Go.Proofs.YtmlmkmhkmifnkaaGreatDoor.Tb