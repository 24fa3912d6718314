import Derived.Test.YtmlmkmhkmifnkaaGreatDoorM31
import Derived.Test.YtmlmkmhkmifnkaaGreatDoorM18
set_option maxHeartbeats 16000000
set_option maxRecDepth 1000000
namespace Go.Proofs.YtmlmkmhkmifnkaaGreatDoor.Tb
open Go.RowKit
open Ci (Bel hid)
open Ma (lowL rlower_run)
theorem rexact_run(a:Option Addr)(es:List En)(key:ByteArray)(w:World)(hA:Asc es)(hT:RTabAt w a es)(hk:key.size<35184372088832):
 Calls Tryz.prog 44 #[.pointer a,.string key] w fun e w'=>e=.returned (.tuple (optV (exactQ es key.data.toList)))∧Bel w w':=by
 rw[exact_low hT.srt hA]
 obtain⟨b,x,c,rfl,hb,hE⟩:=hT.at_
 have HT:=hid hT
 have HB:=hid hb
 have HE:=hid hE
 have HL:=hid (rlower_run key w (by omega))
 have hn:=hT.num
 have HP:=(show Hid (∀W,Bel w W→Calls Tryz.prog 85 #[.pointer (some ⟨b,0,none⟩),.string ⟨(lowL key.data.toList).toArray⟩] W fun e w'=>e=.returned (.tuple #[.int .i64 (rank es (lowL key.data.toList):Nat),.bool (foundB es (lowL key.data.toList))])∧Bel W w')from
  fun W hW=>rplace_run b x es c ⟨(lowL key.data.toList).toArray⟩ W (hW.heap HB.out) (fun k hk=>(HE.out.next hW).place k hk) HT.out.srt hn)
 have HX:Hid (exactL es key.data.toList=if foundB es (lowL key.data.toList)then(es[rank es (lowL key.data.toList)]?).map (·.val)else none):=hid rfl
 have hfr:foundB es (lowL key.data.toList)=true→rank es (lowL key.data.toList)<es.length:=fun h=>by
  unfold foundB at h
  cases hr:es[rank es (lowL key.data.toList)]? with
  |none=>rw[hr]at h;cases h
  |some e=>exact(List.getElem?_eq_some_iff.1 hr).1
 clear hT hb hE
 generalize lowL key.data.toList=k at HL HP HX hfr
 cases hf:foundB es k with
 |false=>
  rw[hf]at HP HX
  have HY:=hid (show exactL es key.data.toList=none from HX.out)
  clear hf hfr HX
  go_enter Tryz.func44,Tryz.ntmps44
  go_wp2_with (first|(go_at_call 38;refine HL.out.mono ?_;rintro e w1 ⟨rfl,hb1⟩;have HB1:=hid hb1;clear hb1)|(go_at_call 85;refine(HP.out _ HB1.out).mono ?_;rintro e w2 ⟨rfl,hb2⟩;have HB2:=hid (HB1.out.trans hb2);clear hb2))
  go_ret2
  exact⟨by rw[HY.out];rfl,HB2.out⟩
 |true=>
  have hr:=hfr hf
  rw[hf]at HP HX
  have HY:=hid (show exactL es key.data.toList=some (es[rank es k]'hr).val by rw[HX.out,if_pos rfl,List.getElem?_eq_getElem hr];rfl)
  obtain⟨b2,rfl,-,-⟩:=HE.out.cell hr
  have HC:=(show Hid (∀W,Bel w W→W.cell? ⟨b,0,none⟩=some (.slice (some ⟨b2,0,none⟩) es.length c)∧W.cell? ⟨b2,rank es k*2+1,none⟩=some (.string ⟨es[rank es k].val.toArray⟩))from fun W hW=>⟨by rw[Lib.cell_of_heap (hW.heap HB.out)];rfl,by
   obtain⟨b3,e,-,f⟩:=(HE.out.next hW).cell hr
   cases e;exact f⟩)
  clear hf hfr HX HE HT HB
  generalize es[rank es k].val=v at HC HY
  generalize rank es k=r at HP HC hr
  generalize es.length=n at HC hr hn
  go_enter Tryz.func44,Tryz.ntmps44
  go_wp2_with (first|(go_at_call 38;refine HL.out.mono ?_;rintro e w1 ⟨rfl,hb1⟩;have HB1:=hid hb1;clear hb1)|(go_at_call 85;refine(HP.out _ HB1.out).mono ?_;rintro e w2 ⟨rfl,hb2⟩;have HB2:=hid (HB1.out.trans hb2);clear hb2;have c0:=(HC.out w2 HB2.out).1;have c1:=(HC.out w2 HB2.out).2))
  go_ret2
  exact⟨by rw[HY.out];rfl,HB2.out⟩
theorem rtaddr_run(a:Option Addr)(es:List En)(l d:ByteArray)(w:World)(hA:Asc es)(hT:RTabAt w a es)(hl:l.size≤4194304)(hd:d.size≤4194304):
 Calls Tryz.prog 45 #[.pointer a,.string l,.string d] w fun e w'=>e=.returned (.tuple (optV (addrQ es l.data.toList d.data.toList)))∧Bel w w':=by
 have HT:=hid hT
 have h1:((l++⟨#[64]⟩)++d).data.toList=l.data.toList++[64]++d.data.toList:=by rw[Ci.app_data,Ci.app_data]
 have h2:((⟨#[64]⟩:ByteArray)++d).data.toList=[64]++d.data.toList:=by rw[Ci.app_data]
 have HE1:=(show Hid (Calls Tryz.prog 44 #[.pointer a,.string ((l++⟨#[64]⟩)++d)] w fun e w'=>e=.returned (.tuple (optV (exactQ es (l.data.toList++[64]++d.data.toList))))∧Bel w w')from by
  have:=rexact_run a es ((l++⟨#[64]⟩)++d) w hA HT.out (by rw[ByteArray.size_append,ByteArray.size_append];show l.size+1+d.size<_;omega)
  rwa[h1]at this)
 have HE2:=(show Hid (∀W,Bel w W→Calls Tryz.prog 44 #[.pointer a,.string (⟨#[64]⟩++d)] W fun e w'=>e=.returned (.tuple (optV (exactQ es ([64]++d.data.toList))))∧Bel W w')from fun W hW=>by
  have:=rexact_run a es (⟨#[64]⟩++d) W hA (HT.out.next hW) (by rw[ByteArray.size_append];show 1+d.size<_;omega)
  rwa[h2]at this)
 have HX:Hid (addrQ es l.data.toList d.data.toList=match exactQ es (l.data.toList++[64]++d.data.toList)with|some v=>some v|none=>exactQ es ([64]++d.data.toList)):=hid rfl
 have a1:∀W:World,(Op.stringOp .add l ⟨#[64]⟩).run Tryz.prog W=.ok (.string (l++⟨#[64]⟩)) W:=fun W=>run_string_add_sum W _ _ (by show l.size+1≤_;omega)
 have a2:∀W:World,(Op.stringOp .add (l++⟨#[64]⟩) d).run Tryz.prog W=.ok (.string ((l++⟨#[64]⟩)++d)) W:=fun W=>run_string_add_sum W _ _ (by rw[ByteArray.size_append];show l.size+1+d.size≤_;omega)
 have a3:∀W:World,(Op.stringOp .add ⟨#[64]⟩ d).run Tryz.prog W=.ok (.string (⟨#[64]⟩++d)) W:=fun W=>run_string_add_sum W _ _ (by show 1+d.size≤_;omega)
 generalize exactQ es (l.data.toList++[64]++d.data.toList)=r1 at HE1 HX
 generalize exactQ es ([64]++d.data.toList)=r2 at HE2 HX
 clear hT h1 h2 HT
 cases r1 with
 |some v=>
  have HY:=hid (show addrQ es l.data.toList d.data.toList=some v from HX.out)
  have HE1:=(show Hid (Calls Tryz.prog 44 #[.pointer a,.string ((l++⟨#[64]⟩)++d)] w fun e w'=>e=.returned (.tuple #[.string ⟨v.toArray⟩,.bool true])∧Bel w w')from HE1.out)
  clear HX HE2
  go_enter Tryz.func45,Tryz.ntmps45
  go_wp2_with (first|(go_at_call 44;refine HE1.out.mono ?_;rintro e w1 ⟨rfl,hb1⟩;have HB1:=hid hb1;clear hb1))
  go_ret2
  exact⟨by rw[HY.out];rfl,HB1.out⟩
 |none=>
  have HY:=hid (show addrQ es l.data.toList d.data.toList=r2 from HX.out)
  have HE1:=(show Hid (Calls Tryz.prog 44 #[.pointer a,.string ((l++⟨#[64]⟩)++d)] w fun e w'=>e=.returned (.tuple #[.string ⟨#[]⟩,.bool false])∧Bel w w')from HE1.out)
  obtain⟨vs,vb,hv⟩:∃vs vb,optV r2=#[.string vs,.bool vb]:=by cases r2 with
   |none=>exact⟨_,_,rfl⟩
   |some v=>exact⟨_,_,rfl⟩
  rw[hv]at HE2
  have HV:=hid hv
  clear HX hv
  go_enter Tryz.func45,Tryz.ntmps45
  go_wp2_with (first|(go_at_call 44;with_reducible refine HE1.out.mono ?_;rintro e w1 ⟨rfl,hb1⟩;have HB1:=hid hb1;clear hb1)|(go_at_call 44;with_reducible refine(HE2.out _ HB1.out).mono ?_;rintro e w2 ⟨rfl,hb2⟩;have HB2:=hid (HB1.out.trans hb2);clear hb2))
  go_ret2
  exact⟨by rw[HY.out,HV.out];rfl,HB2.out⟩
structure RTabs (W:World) (x:Option Addr) (ts:List (List En)):Prop where
 at_:ts=[]∨∃b o,x=some ⟨b,o,none⟩∧b<W.heap.size∧∀k (hk:k<ts.length),∃p,W.cell? ⟨b,o+k,none⟩=some (.pointer p)∧RTabAt W p ts[k]
theorem RTabs.next{W W':World}{x:Option Addr}{ts:List (List En)}(h:RTabs W x ts)(hb:Bel W W'):RTabs W' x ts:=by
 refine⟨?_⟩
 rcases h.at_ with f|⟨b,o,e,hs,f⟩
 ·exact .inl f
 ·refine .inr ⟨b,o,e,Nat.lt_of_lt_of_le hs hb.size,fun k hk=> ?_⟩
  obtain⟨p,h1,h2⟩:=f k hk
  exact⟨p,(bel_cell hb hs).trans h1,h2.next hb⟩
theorem RTabs.place{W:World}{x:Option Addr}{ts:List (List En)}(h:RTabs W x ts){k:Nat}(hk:k<ts.length):∃b o p,x=some ⟨b,o,none⟩∧W.cell? ⟨b,o+k,none⟩=some (.pointer p)∧RTabAt W p ts[k]:=by
 rcases h.at_ with f|⟨b,o,e,-,f⟩
 ·rw[f]at hk;cases hk
 ·obtain⟨p,h1,h2⟩:=f k hk
  exact⟨b,o,p,e,h1,h2⟩
theorem rask_run(x:Option Addr)(c:Nat)(ts:List (List En))(l d:ByteArray)(w:World)(hT:RTabs w x ts)(hA:∀es∈ts,Asc es)(hn:ts.length≤8)(hl:l.size≤4194304)(hd:d.size≤4194304):
 Calls Tryz.prog 18 #[.slice x ts.length c,.int .i64 1,.string l,.string d] w fun e w'=>e=.returned (.tuple (optV (askQ ts l.data.toList d.data.toList)))∧Bel w w':=by
 have HT:=hid hT
 have HA:=hid hA
 have HZ:=hid (And.intro hl hd)
 clear hT hA hl hd
 go_enter Tryz.func18,Tryz.ntmps18
 go_wp2_with fail
 go_loopg [10] ts.length (fun gg v10 wr=>∃k:Nat,v10=.int .i64 k∧k+gg=ts.length∧Hid (askQ ts l.data.toList d.data.toList=askQ (ts.drop k) l.data.toList d.data.toList)∧Hid (Bel w wr))
 case atStart=>exact⟨0,rfl,by omega,hid rfl,hid (Bel.refl w)⟩
 case round=>
  obtain⟨k,rfl,hk,HQ,HB⟩:=hrel
  have Hk:=hid hk
  have hkn:k≤ts.length:=by omega
  clear hk
  by_cases hlt:k<ts.length
  ·have hT0:=HT.out.next HB.out
   obtain⟨b,o,p,rfl,c0,ht⟩:=hT0.place hlt
   obtain⟨tb,-,-,rfl,-⟩:=ht.at_
   have HC:=hid (show∀W,Bel wr W→W.cell? ⟨b,o+k,none⟩=some (.pointer (some ⟨tb,0,none⟩))from fun W hW=>(bel_cell hW (cell_lt c0)).trans c0)
   have HAd:=hid (rtaddr_run _ ts[k] l d wr (HA.out _ (List.getElem_mem hlt)) ht HZ.out.1 HZ.out.2)
   have HD:=hid (show askQ (ts.drop k) l.data.toList d.data.toList=match addrQ ts[k] l.data.toList d.data.toList with|some v=>some v|none=>askQ (ts.drop (k+1)) l.data.toList d.data.toList from by
    rw[List.drop_eq_getElem_cons hlt]
    unfold askQ
    rw[List.findSome?_cons]
    cases addrQ ts[k] l.data.toList d.data.toList<;>rfl)
   clear ht hT0
   generalize addrQ ts[k] l.data.toList d.data.toList=r at HAd HD
   cases r with
   |some v=>
    have HAd:=(show Hid (Calls Tryz.prog 45 #[.pointer (some ⟨tb,0,none⟩),.string l,.string d] wr fun e w'=>e=.returned (.tuple #[.string ⟨v.toArray⟩,.bool true])∧Bel wr w')from HAd.out)
    have HY:=hid (show askQ ts l.data.toList d.data.toList=some v from HQ.out.trans HD.out)
    clear HQ HD
    go_wp2_with (first|(go_at_call 45;refine HAd.out.mono ?_;rintro e w2 ⟨rfl,hb2⟩))
    go_ret2
    exact⟨by rw[HY.out];rfl,HB.out.trans hb2⟩
   |none=>
    have HAd:=(show Hid (Calls Tryz.prog 45 #[.pointer (some ⟨tb,0,none⟩),.string l,.string d] wr fun e w'=>e=.returned (.tuple #[.string ⟨#[]⟩,.bool false])∧Bel wr w')from HAd.out)
    have HY:=hid (show askQ ts l.data.toList d.data.toList=askQ (ts.drop (k+1)) l.data.toList d.data.toList from HQ.out.trans HD.out)
    clear HQ HD
    go_wp2_with (first|(go_at_call 45;refine HAd.out.mono ?_;rintro e w2 ⟨rfl,hb2⟩))
    go_roundg (gk-1)
    case measure=>have:=Hk.out;omega
    case rel=>exact⟨k+1,by go_num,by have:=Hk.out;omega,HY,hid (HB.out.trans hb2)⟩
  ·obtain rfl:k=ts.length:=by omega
   have HY:=hid (show askQ ts l.data.toList d.data.toList=none by rw[HQ.out,List.drop_length];rfl)
   go_wp2_with fail
   go_ret2
   exact⟨by rw[HY.out];rfl,HB.out⟩
end Go.Proofs.YtmlmkmhkmifnkaaGreatDoor.Tb
namespace Go.Proofs.YtmlmkmhkmifnkaaGreatDoor.Tb
open Go.RowKit
open Ci (Bel hid own_bel row_shape own_base addr_add Aft wp_region_aft Lay)
open Ma (Pt ptC ptC_one pt_size zeroP domainQ wpList_store_blk rdomain_run)
theorem rptr_infos:(Tryz.prog.info? 75).map (fun i=>(i.zero,i.size,i.bytes))=some (some (.pointer none),1,8):=by kernel_rfl
theorem RTabAt.keep{W W':World}{a:Option Addr}{es:List En}(h:RTabAt W a es)(hk:∀(b:Nat) (cur:Array Value) (T:TypeId),W.heap[b]?=some (.cells cur T (0,0))→(T=80∨T=82)→W'.heap[b]?=W.heap[b]?):RTabAt W' a es:=by
 obtain⟨b,x,c,e,h1,h2⟩:=h.at_
 refine⟨⟨b,x,c,e,(hk _ _ _ h1 (.inl rfl)).trans h1,?_⟩,h.srt,h.num⟩
 rcases h2 with f|⟨b2,cur,e2,h3,h4⟩
 ·exact .inl f
 ·exact .inr ⟨b2,cur,e2,(hk _ _ _ h3 (.inr rfl)).trans h3,h4⟩
structure RcnI (w:World) (h:ByteArray) (L:List (List UInt8)) (cb:Nat) (k:Nat) (W:World) (v:Value) (ps:List (Option Addr)) (ts:List (List En)):Prop where
 bel:Bel w W
 blk:W.heap[cb]?=some (.cells #[.string h,v] 44 (0,0))
 row:W.ownsRow w.heap.size 75 1 v ps.length (ptrs ps)
 lp:ps.length=k
 lt:ts.length=k
 tab:∀i (hi:i<ps.length) (hi2:i<ts.length),RTabAt W ps[i] ts[i]
 vals:∀es∈ts,Asc es
 eq:newT (L.drop k) ts=newT L []
theorem rcn_rel {w W w9:World} {h:ByteArray} {L:List (List UInt8)} {cb k c9:Nat} {x9:Option Addr} {v:Value} {ps:List (Option Addr)} {ts:List (List En)} {a:Option Addr} {es:List En} (hcb:w.heap.size≤cb) (hB:Bel w W) (hblk:W.heap[cb]?=some (.cells #[.string h,v] 44 (0,0))) (hrow:W.ownsRow w.heap.size 75 1 v ps.length (ptrs ps)) (hp:ps.length=k) (ht:ts.length=k)
 (htab:∀i (hi:i<ps.length) (hi2:i<ts.length),RTabAt W ps[i] ts[i]) (hvals:∀es∈ts,Asc es) (hnew:RTabAt W a es) (hes:Asc es) (hn:newT (L.drop (k+1)) (ts++[es])=newT L [])
 (hown:w9.ownsRow w.heap.size 75 1 (.slice x9 (ps.length+1) c9) (ps.length+1) (ptrs ps++[.pointer a])) (hg:(W.alloc (.cells #[.pointer a] 75)).grownBy w9 v.ownBlock):
 w9.heap[cb]?=some (.cells #[.string h,v] 44 (0,0))∧RcnI w h L cb (k+1) (w9.setCell ⟨cb,1,none⟩ (.slice x9 (ps.length+1) c9)) (.slice x9 (ps.length+1) c9) (ps++[a]) (ts++[es]):=by
 have hrow2:=hrow.alloc (.cells #[.pointer a] 75)
 have keep:∀{j:Nat} {cur:Array Value} {T:TypeId},W.heap[j]?=some (.cells cur T (0,0))→T≠75→w9.heap[j]?=W.heap[j]?:=fun hj hT=>by
  have hlt:=(Array.getElem?_eq_some_iff.1 hj).1
  rw[hg.block _ (by rw[World.size_alloc];omega) fun e=>own_ne hrow hj hT e.symm]
  exact heap_alloc_old W _ hlt
 have hblk9:=(keep hblk (by decide)).trans hblk
 have go:∀{p:Option Addr} {t:List En},RTabAt W p t→RTabAt (w9.setCell ⟨cb,1,none⟩ (.slice x9 (ps.length+1) c9)) p t:=fun h=>h.keep fun b cur T hb hT=>by
  rw[heap_setCell_other _ _ _ _ (fun e=>by
   have e:b=cb:=e
   subst e
   rw[hblk]at hb
   cases hb
   rcases hT with f|f<;>exact absurd f (by decide))]
  exact keep hb (by rcases hT with f|f<;>(rw[f];decide))
 refine⟨hblk9,(Ci.Bel.grown (hB.alloc _) hg hrow2).setCell hcb _,heap_setCell_same _ _ _ _ _ _ hblk9,?_,by rw[List.length_append,hp];rfl,by rw[List.length_append,ht];rfl,?_,?_,hn⟩
 ·have:ptrs (ps++[a])=ptrs ps++[.pointer a]:=by unfold ptrs;rw[List.map_append];rfl
  rw[this,List.length_append]
  have hne:=own_ne hown hblk9 (by decide)
  exact own_keep hown fun r hr=>heap_setCell_other _ _ _ _ fun e=>hne (by rw[hr,e])
 ·intro i hi hi2
  by_cases e:i<ps.length
  ·rw[List.getElem_append_left e,List.getElem_append_left (by omega)]
   exact go (htab i e (by omega))
  ·have e2:i=ps.length:=by rw[List.length_append]at hi;simp at hi;omega
   subst e2
   have e3:ps.length-ts.length=0:=by omega
   rw[List.getElem_append_right (Nat.le_refl _),List.getElem_append_right (by omega)]
   simp only[Nat.sub_self,e3,List.getElem_cons_zero]
   exact go hnew
 ·intro e he
  rcases List.mem_append.1 he with he|he
  ·exact hvals e he
  ·rw[List.mem_singleton.1 he];exact hes
theorem newT_le:∀(L:List (List UInt8)) (acc ts:List (List En)),newT L acc=some ts→(∀es∈acc,ValsOk es)→∀es∈ts,ValsOk es
 |[],acc,ts,h,ha=>by cases h;exact ha
 |t::r,acc,ts,h,ha=>by
  unfold newT at h
  split at h
  ·cases h
  ·rename_i es he
   split at h
   ·refine newT_le r _ ts h fun x hx=> ?_
    rcases List.mem_append.1 hx with hx|hx
    ·exact ha x hx
    ·rw[List.mem_singleton.1 hx];exact tparse_vals he
   ·cases h
structure RCnAt (W:World) (a:Option Addr) (h:List UInt8) (ts:List (List En)):Prop where
 at_:∃b x c,a=some ⟨b,0,none⟩∧W.heap[b]?=some (.cells #[.string ⟨h.toArray⟩,.slice x ts.length c] 44 (0,0))∧RTabs W x ts
 asc:∀es∈ts,Asc es
 vals:∀es∈ts,ValsOk es
 ok:∀es∈ts,valsC es=true
 host:hostC h=true
 num:ts.length≤8
theorem RCnAt.next{W W':World}{a:Option Addr}{h:List UInt8}{ts:List (List En)}(c:RCnAt W a h ts)(hb:Bel W W'):RCnAt W' a h ts:=by
 obtain⟨b,x,n,e,h1,h2⟩:=c.at_
 exact⟨⟨b,x,n,e,hb.heap h1,h2.next hb⟩,c.asc,c.vals,c.ok,c.host,c.num⟩
def RcPost(h:List UInt8)(L:List (List UInt8))(w:World)(e:Ending)(w':World):Prop:=match newC h L with
 |.error c=>e=.returned (.tuple #[.pointer none,.int .i64 c])∧Bel w w'
 |.ok ts=>∃a,e=.returned (.tuple #[.pointer a,.int .i64 0])∧Bel w w'∧RCnAt w' a h ts
theorem rc_arg{h:List UInt8}{L:List (List UInt8)}{w w':World}(hh:hostC h=false∨8<L.length)(hb:Bel w w'):RcPost h L w (.returned (.tuple #[.pointer none,.int .i64 1])) w':=by
 unfold RcPost newC
 rw[if_pos]
 ·exact⟨rfl,hb⟩
 ·rcases hh with f|f
  ·rw[f];rfl
  ·rw[decide_eq_true f,Bool.or_true]
theorem rc_form{h:List UInt8}{L:List (List UInt8)}{w w':World}(hh:hostC h=true)(h8:¬8<L.length)(hn:newT L []=none)(hb:Bel w w'):RcPost h L w (.returned (.tuple #[.pointer none,.int .i64 150])) w':=by
 unfold RcPost newC
 rw[hh,decide_eq_false h8,if_neg (by decide),hn]
 exact⟨rfl,hb⟩
theorem rc_ok{h:List UInt8}{L:List (List UInt8)}{w w':World}{a:Option Addr}{ts:List (List En)}(hh:hostC h=true)(h8:¬8<L.length)(hn:newT L []=some ts)(hb:Bel w w')(hc:RCnAt w' a h ts):RcPost h L w (.returned (.tuple #[.pointer a,.int .i64 0])) w':=by
 unfold RcPost newC
 rw[hh,decide_eq_false h8,if_neg (by decide),hn]
 exact⟨a,rfl,hb,hc⟩
theorem rtabs_of_row{W:World}{base n c:Nat}{x:Option Addr}{ps:List (Option Addr)}{ts:List (List En)}(h:W.ownsRow base 75 1 (.slice x n c) ps.length (ptrs ps))(hl:ps.length=ts.length)(ht:∀k (hk:k<ps.length) (hk2:k<ts.length),RTabAt W ps[k] ts[k]):RTabs W x ts:=by
 refine⟨?_⟩
 rcases h.2 with⟨-,h0⟩|⟨g,cap,cur,e,-,hh,-⟩
 ·exact .inl (List.eq_nil_of_length_eq_zero (by omega))
 ·obtain⟨rfl,rfl,rfl⟩:=Value.slice.inj e
  refine .inr ⟨g,0,rfl,(Array.getElem?_eq_some_iff.1 hh).1,fun k hk=>⟨ps[k]'(by omega),?_,ht k (by omega) hk⟩⟩
  rw[Nat.zero_add,World.ownsRow.cellAt h k (by omega)]
  unfold ptrs
  rw[List.getElem?_map,List.getElem?_eq_getElem (by omega)];rfl
theorem rcnew_run(h:ByteArray)(x:Option Addr)(bs:List ByteArray)(c:Nat)(w:World)(hh:h.size≤4194304)(hS:Sts w x bs):
 Calls Tryz.prog 12 #[.string h,.slice x bs.length c] w (RcPost h.data.toList (bs.map (·.data.toList)) w):=by
 have HS:=hid hS
 have HD:=hid (rdomain_run h w hh)
 have HH:=hid (host_cases (h:=h.data.toList) (Prod.eta _).symm)
 clear hS
 generalize domainQ h.data.toList=D at HD HH
 obtain⟨d,lit,e⟩:=D
 simp only at HD HH
 obtain⟨db,hdb⟩:∃db:ByteArray,db=⟨d.toArray⟩:=⟨_,rfl⟩
 have HDB:=hid (show db.data.toList=d by rw[hdb])
 rw[←hdb]at HD
 clear hdb
 by_cases he:e=0
 ·subst he
  cases lit with
  |true=>
   have HX:=hid (show hostC h.data.toList=false by rw[HH.out];rfl)
   go_enter Tryz.func12,Tryz.ntmps12
   go_wp2_with (first|(go_at_call 33;refine HD.out.mono ?_;rintro e w1 ⟨rfl,hb1⟩))
   exact bodyPost_ret (v:=.tuple #[.pointer none,.int .i64 1]) (by simp[results,Tryz.results12,go_sem]) rfl (rc_arg (.inl HX.out) hb1)
  |false=>
   by_cases hdh:d=h.data.toList
   ·have b3:(db.toList==h.toList)=true:=by rw[ByteArray.toList_eq,ByteArray.toList_eq,HDB.out,hdh];simp
    have b3':db.toList=h.toList:=by simpa using b3
    have HX:=hid (show hostC h.data.toList=true by rw[HH.out,decide_eq_true hdh];rfl)
    clear hdh
    by_cases h8:8<bs.length
    ·have b1:decide ((8:Int)<(bs.length:Int))=true:=decide_eq_true (by omega)
     have HX8:=hid (show 8<(bs.map (·.data.toList)).length by rw[List.length_map];exact h8)
     clear h8
     generalize bs.length=n at b1⊢
     go_enter Tryz.func12,Tryz.ntmps12
     go_wp2_with (first|(go_at_call 33;refine HD.out.mono ?_;rintro e w1 ⟨rfl,hb1⟩))
     exact bodyPost_ret (v:=.tuple #[.pointer none,.int .i64 1]) (by simp[results,Tryz.results12,go_sem]) rfl (rc_arg (.inr HX8.out) hb1)
    ·have b1:decide ((8:Int)<(bs.length:Int))=false:=decide_eq_false (by omega)
     have h8':bs.length≤8:=by omega
     have HX8:=hid (show¬8<(bs.map (·.data.toList)).length by rw[List.length_map];exact h8)
     go_enter Tryz.func12,Tryz.ntmps12
     go_wp2_with (first|(go_at_call 33;refine HD.out.mono ?_;rintro e w1 ⟨rfl,hb1⟩;have HBD:=hid hb1;have hcbs:=hb1.size;clear hb1))
     have HI0:=hid (show RcnI w h (bs.map (·.data.toList)) w1.heap.size 0 (w1.alloc (.cells #[.string h,.slice none 0 0] 44)) (.slice none 0 0) [] []from⟨HBD.out.alloc _,heap_alloc_new w1 _,World.ownsRow_nil _ _ _ _,rfl,rfl,fun i hi=>absurd hi (Nat.not_lt_zero _),fun es he=>(by cases he),rfl⟩)
     generalize w1.heap.size=cb at hcbs HI0⊢
     go_loopg [10] bs.length (fun gg v10 wr=>∃(k:Nat) (v:Value) (ps:List (Option Addr)) (ts:List (List En)),v10=.int .i64 k∧k+gg=bs.length∧Hid (RcnI w h (bs.map (·.data.toList)) cb k wr v ps ts))
     case atStart=>exact⟨0,_,[],[],rfl,by omega,HI0⟩
     case round=>
      clear HI0
      obtain⟨k,v,ps,ts,rfl,hk,HI⟩:=hrel
      obtain⟨W0,hW0⟩:∃W0,W0=wr:=⟨_,rfl⟩
      subst hW0
      obtain⟨g0,hg0⟩:∃g0,g0=gk:=⟨_,rfl⟩
      subst hg0
      have Hk:=hid hk
      have hkn:k≤bs.length:=by omega
      clear hk
      by_cases hlt:k<bs.length
      ·obtain⟨b,o,rfl,c0⟩:=(HS.out.next HI.out.bel).place hlt
       have hkL:k<(bs.map (·.data.toList)).length:=by rw[List.length_map];exact hlt
       have hstep:=newT_at (acc:=ts) hkL
       rw[HI.out.eq,List.getElem_map]at hstep
       have HP:=hid (rtparse_run bs[k] W0)
       generalize bs[k]=tx at c0 hstep HP
       unfold RParsePost at HP
       cases htp:tparse tx.data.toList with
       |none=>
        rw[htp]at hstep HP
        have HN:=hid (show newT (bs.map (·.data.toList)) []=none from hstep)
        have HP:=(show Hid (Calls Tryz.prog 34 #[.string tx] W0 fun e w'=>∃code at_:Int,code≠0∧e=.returned (.tuple #[.pointer none,.agg #[.int .i64 code,.int .i64 at_]])∧Bel W0 w')from HP)
        clear hstep
        go_wp2_with (first|(go_at_call 34;refine HP.out.mono ?_;rintro e w1 ⟨code,at_,hc,rfl,hb1⟩;have b4:(code==0)=false:=(by simpa using hc)))
        exact bodyPost_ret (v:=.tuple #[.pointer none,.int .i64 150]) (by simp[results,Tryz.results12,go_sem]) rfl (rc_form HX.out HX8.out HN.out ((HI.out.bel.trans hb1).alloc _))
       |some es=>
        rw[htp]at hstep HP
        have HSt:=hid (show newT (bs.map (·.data.toList)) []=if valsC es then newT ((bs.map (·.data.toList)).drop (k+1)) (ts++[es])else none from hstep)
        have HP:=(show Hid (Calls Tryz.prog 34 #[.string tx] W0 fun e w'=>∃a,e=.returned (.tuple #[.pointer a,.agg #[.int .i64 0,.int .i64 0]])∧Bel W0 w'∧RTabAt w' a es)from HP)
        have HVs:=hid (tparse_vals htp)
        have HAsc:=hid (tparse_asc htp).1
        clear hstep htp
        go_wp2_with (first|(go_at_call 34;refine HP.out.mono ?_;rintro e w1 ⟨a,rfl,hb1,ht1⟩;have HB01:=hid hb1;have HB1:=hid (HI.out.bel.trans hb1);have HTA:=hid ht1;clear hb1 ht1))
        obtain⟨W2,hW2⟩:∃W2,W2=w1.alloc (.cells #[.int .i64 0,.int .i64 0] 62):=⟨_,rfl⟩
        first|rw[←hW2]|skip
        have HB12:=hid (show Bel w1 W2 by rw[hW2];exact(Bel.refl w1).alloc _)
        clear hW2
        obtain⟨tb,xt,ct,rfl,htb,hen⟩:=HTA.out.at_
        have HTB:=hid htb
        have HEn:=hid hen
        clear htb hen
        go_loopg [13] es.length (fun gg v13 wr=>∃(j:Nat),v13=.int .i64 j∧j+gg=es.length∧Hid (Bel W2 wr∧∀i (hi:i<es.length),i<j→(valueC es[i].val).2.2=true))
        case atStart=>exact⟨0,rfl,by omega,hid ⟨Bel.refl W2,fun i _ h=>absurd h (Nat.not_lt_zero _)⟩⟩
        case round=>
         obtain⟨j,rfl,hj,HJ⟩:=hrel
         have Hj:=hid hj
         have hjn:j≤es.length:=by omega
         have hen:es.length≤2000:=HTA.out.num
         clear hj
         have HB3:=hid (HB12.out.trans HJ.out.1)
         have ct0:wr.cell? ⟨tb,0,none⟩=some (.slice xt es.length ct):=by rw[Lib.cell_of_heap (HB3.out.heap HTB.out)];rfl
         by_cases hjl:j<es.length
         ·obtain⟨eb,rfl,-,ce⟩:=(HEn.out.next HB3.out).cell hjl
          have HVR:=(show Hid (∀W,Calls Tryz.prog 35 #[.string ⟨es[j].val.toArray⟩] W fun e w'=>e=.returned (.tuple #[.agg (ptC (valueC es[j].val).1).toArray,.bool (valueC es[j].val).2.1,.bool (valueC es[j].val).2.2])∧Bel W w')from fun W=>rcvalue_run ⟨es[j].val.toArray⟩ W (by rw[Lib.size_eq];have:=HVs.out es[j] (List.getElem_mem hjl);show es[j].val.length≤_;omega))
          cases hv:(valueC es[j].val).2.2 with
          |false=>
           rw[hv]at HVR
           have hvr:valsC es=false:=by
            unfold valsC
            rw[List.all_eq_false]
            exact⟨es[j],List.getElem_mem hjl,by rw[hv];decide⟩
           have HN:=hid (show newT (bs.map (·.data.toList)) []=none by rw[HSt.out,hvr];rfl)
           clear hv hvr
           generalize es[j]=y at HVR ce
           generalize (valueC y.val).1=p at HVR
           generalize (valueC y.val).2.1=isat at HVR
           go_wp2_with (first|(go_at_call 35;refine(HVR.out _).mono ?_;rintro e w5 ⟨rfl,hb5⟩;have HB5:=hid hb5;clear hb5)|(refine wpList_store_blk rfl 26 (.tmp 14) (.tmp 77) rfl w5.heap.size (ptC p) rfl rfl pt_size (ptC_one p) (ptC zeroP) _ (heap_alloc_new w5 _) rfl ?_;intro w6 hc6 ho6 hs6 hb6;have HB6:=hid (hb6 w5 ((Bel.refl w5).alloc _) (Nat.le_refl _));clear hc6 ho6 hs6 hb6))
           exact bodyPost_ret (v:=.tuple #[.pointer none,.int .i64 150]) (by simp[results,Tryz.results12,go_sem]) rfl (rc_form HX.out HX8.out HN.out (HB1.out.trans (HB3.out.trans (HB5.out.trans HB6.out))))
          |true=>
           rw[hv]at HVR
           have HV:=hid hv
           clear hv
           have HJL:=hid hjl
           generalize hy:es[j]=y at HVR HV ce
           have HYY:=hid hy
           clear hy
           generalize (valueC y.val).1=p at HVR
           generalize (valueC y.val).2.1=isat at HVR
           go_wp2_with (first|(go_at_call 35;refine(HVR.out _).mono ?_;rintro e w5 ⟨rfl,hb5⟩;have HB5:=hid hb5;clear hb5)|(refine wpList_store_blk rfl 26 (.tmp 14) (.tmp 77) rfl w5.heap.size (ptC p) rfl rfl pt_size (ptC_one p) (ptC zeroP) _ (heap_alloc_new w5 _) rfl ?_;intro w6 hc6 ho6 hs6 hb6;have HB6:=hid (hb6 w5 ((Bel.refl w5).alloc _) (Nat.le_refl _));clear hc6 ho6 hs6 hb6))
           go_roundg (gk-1)
           case measure=>have:=Hj.out;omega
           case rel=>exact⟨j+1,by go_num,by have:=Hj.out;omega,hid ⟨HJ.out.1.trans (HB5.out.trans HB6.out),fun i hi hij=>by
            by_cases e:i=j
            ·subst e;exact(congrArg (fun z=>(valueC z.val).2.2) HYY.out).trans HV.out
            ·exact HJ.out.2 i hi (by omega)⟩⟩
         ·obtain rfl:j=es.length:=by omega
          have hvr:valsC es=true:=by
           unfold valsC
           rw[List.all_eq_true]
           intro y hy
           obtain⟨i,hi,rfl⟩:=List.getElem_of_mem hy
           exact HJ.out.2 i hi hi
          have HN:=hid (show newT ((bs.map (·.data.toList)).drop (k+1)) (ts++[es])=newT (bs.map (·.data.toList)) [] by rw[HSt.out,hvr];rfl)
          clear hvr
          have HBR:=hid (HB1.out.trans HB3.out)
          have HB0:=hid (HB01.out.trans HB3.out)
          have HRow:=hid (own_bel HI.out.row HB0.out)
          have HTE:=hid (HTA.out.next HB3.out)
          have HBk:=hid (HB0.out.heap HI.out.blk)
          obtain⟨x4,c4,rfl,-,-⟩:=row_shape HI.out.row
          have cc1:wr.cell? ⟨cb,1,none⟩=some (.slice x4 ps.length c4):=by rw[Lib.cell_of_heap HBk.out];rfl
          generalize hpl:ps.length=m at HRow cc1
          have HPL:=hid hpl
          have hm8:m≤8:=by have:=HI.out.lp;omega
          clear hpl
          go_wp2_with (first|(at_builtin;refine wpList_push_at (W:=wr) rfl (.tmp 86) (.tmp 88) 42 rfl 75 (.pointer none) 1 8 Tryz.underlying42 rptr_infos rfl (by decide) w.heap.size (.slice x4 m c4) m (ptrs ps) rfl HRow.out HBR.out.size _ rfl rfl (by intro u hu;simp at hu;subst hu;rfl) (by unfold maxLen;omega) (by omega) ?_;intro v9 w9 hown9 hg9 _;obtain⟨x9,c9,rfl,-,-⟩:=row_shape hown9;(have HR9:=hid (rcn_rel (v:=.slice x4 ps.length c4) hcbs HBR.out HBk.out (by rw[HPL.out];exact HRow.out) HI.out.lp HI.out.lt (fun i hi hi2=>(HI.out.tab i hi hi2).next HB0.out) HI.out.vals HTE.out HAsc.out HN.out (by rw[HPL.out];exact hown9) (by rw[HPL.out];exact hg9)));have cc9:w9.cell? ⟨cb,1,none⟩=some (.slice x4 ps.length c4):=(by rw[Lib.cell_of_heap HR9.out.1];rfl);have cf9:w9.frozen? ⟨cb,1,none⟩=false:=Lib.frozen_of_heap HR9.out.1 1;clear hown9 hg9))
          go_roundg (g0-1)
          case measure=>have:=Hk.out;omega
          case rel=>exact⟨k+1,_,ps++[some ⟨tb,0,none⟩],ts++[es],by go_num,by have:=Hk.out;omega,hid (by have:=HR9.out.2;rw[HPL.out]at this;exact this)⟩
      ·obtain rfl:k=bs.length:=by omega
       have hlt2:=HI.out.lt
       have hlp:=HI.out.lp
       have hn:newT (bs.map (·.data.toList)) []=some ts:=by
        rw[←HI.out.eq,show bs.length=(bs.map (·.data.toList)).length by rw[List.length_map],List.drop_length];rfl
       have HN:=hid hn
       obtain⟨x4,c4,rfl,-,-⟩:=row_shape HI.out.row
       have hTs:RTabs W0 x4 ts:=rtabs_of_row (n:=ps.length) (c:=c4) (base:=w.heap.size) HI.out.row (by omega) HI.out.tab
       have hok:=newT_vals _ _ _ hn (fun es he=>by cases he)
       have hvl:=newT_le _ _ _ hn (fun es he=>by cases he)
       have hcn:=hid (show RCnAt W0 (some ⟨cb,0,none⟩) h.data.toList ts from⟨⟨cb,x4,c4,rfl,by have:=HI.out.blk;rw[show ps.length=ts.length by omega]at this;exact this,hTs⟩,HI.out.vals,hvl,hok,HX.out,by omega⟩)
       have HB:=hid HI.out.bel
       clear hn hTs HI hlt2 hlp hok hvl
       go_wp2_with fail
       exact bodyPost_ret (v:=.tuple #[.pointer (some ⟨cb,0,none⟩),.int .i64 0]) (by simp[results,Tryz.results12,go_sem]) rfl (rc_ok HX.out HX8.out HN.out HB.out hcn.out)
   ·have b3:(db.toList==h.toList)=false:=by
     rw[ByteArray.toList_eq,ByteArray.toList_eq,HDB.out];simpa using hdh
    have b3':¬db.toList=h.toList:=by simpa using b3
    have HX:=hid (show hostC h.data.toList=false by rw[HH.out,decide_eq_false hdh];rfl)
    go_enter Tryz.func12,Tryz.ntmps12
    go_wp2_with (first|(go_at_call 33;refine HD.out.mono ?_;rintro e w1 ⟨rfl,hb1⟩))
    exact bodyPost_ret (v:=.tuple #[.pointer none,.int .i64 1]) (by simp[results,Tryz.results12,go_sem]) rfl (rc_arg (.inl HX.out) hb1)
 ·have b1:(e==0)=false:=by simpa using he
  have HX:=hid (show hostC h.data.toList=false by rw[HH.out,decide_eq_false he];rfl)
  go_enter Tryz.func12,Tryz.ntmps12
  go_wp2_with (first|(go_at_call 33;refine HD.out.mono ?_;rintro e w1 ⟨rfl,hb1⟩))
  exact bodyPost_ret (v:=.tuple #[.pointer none,.int .i64 1]) (by simp[results,Tryz.results12,go_sem]) rfl (rc_arg (.inl HX.out) hb1)
end Go.Proofs.YtmlmkmhkmifnkaaGreatDoor.Tb
namespace Go.Proofs.YtmlmkmhkmifnkaaGreatDoor.Tb
open Go.RowKit
open Ci (Bel hid own_bel row_shape own_base addr_add Aft wp_region_aft Lay Calls.aft)
open Ma (Pt ptC ptC_one ptC_range pt_size zeroP domainQ rightP wpList_store_blk load_pt rright_run)
theorem rRight_pt(q:Pt)(W:World)(hl:q.loc.length≤4194304)(hd:q.dom.length≤4194304):Calls Tryz.prog 17 #[.agg (ptC q).toArray] W fun e w'=>e=.returned (.int .i64 (rightP q))∧Bel W w':=
 rright_run q.null ⟨q.loc.toArray⟩ ⟨q.dom.toArray⟩ q.lit W (by rw[Lib.size_eq];exact hl) (by rw[Lib.size_eq];exact hd)
theorem rcpath_run(a:Option Addr)(h:List UInt8)(ts:List (List En))(p:Pt)(w:World)(hC:RCnAt w a h ts)(hl:p.loc.length≤4194304)(hd:p.dom.length≤4194304):
 Calls Tryz.prog 14 #[.pointer a,.agg (ptC p).toArray] w fun e w'=>e=.returned (.agg (ptC (pathC h ts p)).toArray)∧Bel w w':=by
 obtain⟨cb,xt,ct,rfl,hcb,hch⟩:=hC.at_
 have HCB:=hid (show∀W,Bel w W→W.cell? ⟨cb,0,none⟩=some (.string ⟨h.toArray⟩)∧W.cell? ⟨cb,1,none⟩=some (.slice xt ts.length ct)from fun W hW=>⟨by rw[Lib.cell_of_heap (hW.heap hcb)];rfl,by rw[Lib.cell_of_heap (hW.heap hcb)];rfl⟩)
 have HA:=(show Hid (∀(l d:List UInt8),l.length≤4194304→d.length≤4194304→∀W,Bel w W→Calls Tryz.prog 18 #[.slice xt ts.length ct,.int .i64 1,.string ⟨l.toArray⟩,.string ⟨d.toArray⟩] W fun e w'=>e=.returned (.tuple (optV (askQ ts l d)))∧Bel W w')from fun l d hl hd W hW=>rask_run xt ct ts ⟨l.toArray⟩ ⟨d.toArray⟩ W (hch.next hW) hC.asc hC.num (by rw[Lib.size_eq];exact hl) (by rw[Lib.size_eq];exact hd))
 have HV:=(show Hid (∀(v:List UInt8),v.length≤1000→∀W,Bel w W→Calls Tryz.prog 35 #[.string ⟨v.toArray⟩] W fun e w'=>e=.returned (.tuple #[.agg (ptC (valueC v).1).toArray,.bool (valueC v).2.1,.bool (valueC v).2.2])∧Bel W w')from fun v hv W hW=>rcvalue_run ⟨v.toArray⟩ W (by rw[Lib.size_eq];show v.length≤_;omega))
 have HRq:=(show Hid (∀q:Pt,q.loc.length≤4194304→q.dom.length≤4194304→∀W,Bel w W→Calls Tryz.prog 17 #[.agg (ptC q).toArray] W fun e w'=>e=.returned (.int .i64 (rightP q))∧Bel W w')from fun q hl hd W hW=>rRight_pt q W hl hd)
 have HR:=(show Hid (∀W,Calls Tryz.prog 17 #[.agg (ptC p).toArray] W fun e w'=>e=.returned (.int .i64 (rightP p))∧Bel W w')from fun W=>rRight_pt p W hl hd)
 have HVl:=hid (fun(l d v:List UInt8) (hq:askQ ts l d=some v)=>vals_le hC.vals hq)
 have HOK:=hid (fun(l d v:List UInt8) (hq:askQ ts l d=some v)=>ask_ok hC.ok hq)
 have hh:=host_small hC.host
 obtain⟨W1,hW1⟩:∃W1,W1=(w.alloc (.cells (ptC p).toArray 26)).alloc (.cells #[.bool false,.string ⟨#[]⟩,.string ⟨#[]⟩,.bool false] 26):=⟨_,rfl⟩
 have HB1:=hid (show Bel w W1 by rw[hW1];exact((Bel.refl w).alloc _).alloc _)
 have HP1:=hid (show W1.heap[w.heap.size]?=some (.cells (ptC p).toArray 26 (0,0)) by rw[hW1];exact Bel.heap ((Bel.refl _).alloc _) (heap_alloc_new w _))
 have HZ1:=hid (show W1.heap[w.heap.size+1]?=some (.cells (ptC zeroP).toArray 26 (0,0)) by rw[hW1];exact Ci.alloc_second w _ _)
 have HL:=hid (And.intro hl hd)
 clear hcb hch hC hl hd
 by_cases h1:rightP p=0
 ·rw[h1]at HR
  by_cases h2:p.null=true
  ·have HX:=hid (show pathC h ts p=p by unfold pathC;rw[if_pos (.inr (.inl h2))])
   go_enter Tryz.func14,Tryz.ntmps14
   go_wp2_with (first|((try rw[←hW1]);refine wpList_load_mid rfl 26 (.tmp 3) rfl (w.heap.size) 0 rfl (ptC p) _ (ptC_range HP1.out) Tryz.underlying26 rfl pt_size ?_)|(go_at_call 17;(try rw[←hW1]);refine(HR.out W1).mono ?_;rintro _ W2 ⟨rfl,hb2⟩;have HB2:=hid hb2;have HP2:=hid (hb2.heap HP1.out);have HZ2:=hid (hb2.heap HZ1.out);have HS2:=hid hb2.size;have k2:=pt_cells (hb2.heap HP1.out);rw[h2]at k2;clear hb2)|(refine wpList_load_mid rfl 26 (.tmp 3) rfl (w.heap.size) 0 rfl (ptC p) _ (ptC_range (HP2.out)) Tryz.underlying26 rfl pt_size ?_)|(refine wpList_store_blk rfl 26 (.tmp 4) (.tmp 24) rfl (w.heap.size+1) (ptC p) rfl rfl pt_size (ptC_one _) (ptC zeroP) _ (HZ2.out) rfl ?_;intro WZ hcz hoz hsz hbz;have HBZ:=hid (hbz w (HB1.out.trans HB2.out) (by omega));have HCZ:=hid hcz;clear hoz hsz hbz hcz))
   have hl2:=load_pt (cs:=ptC p) HCZ.out rfl
   exact bodyPost_ret (v:=.agg (ptC (p)).toArray) (by simp[results,Tryz.results14,asAddr,hl2,Act.put]) rfl ⟨by rw[HX.out],HBZ.out⟩
  ·have h2:p.null=false:=by simpa using h2
   by_cases h3:p.lit=true
   ·have HX:=hid (show pathC h ts p=p by unfold pathC;rw[if_pos (.inr (.inr h3))])
    go_enter Tryz.func14,Tryz.ntmps14
    go_wp2_with (first|((try rw[←hW1]);refine wpList_load_mid rfl 26 (.tmp 3) rfl (w.heap.size) 0 rfl (ptC p) _ (ptC_range HP1.out) Tryz.underlying26 rfl pt_size ?_)|(go_at_call 17;(try rw[←hW1]);refine(HR.out W1).mono ?_;rintro _ W2 ⟨rfl,hb2⟩;have HB2:=hid hb2;have HP2:=hid (hb2.heap HP1.out);have HZ2:=hid (hb2.heap HZ1.out);have HS2:=hid hb2.size;have k2:=pt_cells (hb2.heap HP1.out);rw[h2,h3]at k2;clear hb2)|(refine wpList_load_mid rfl 26 (.tmp 3) rfl (w.heap.size) 0 rfl (ptC p) _ (ptC_range (HP2.out)) Tryz.underlying26 rfl pt_size ?_)|(refine wpList_store_blk rfl 26 (.tmp 4) (.tmp 24) rfl (w.heap.size+1) (ptC p) rfl rfl pt_size (ptC_one _) (ptC zeroP) _ (HZ2.out) rfl ?_;intro WZ hcz hoz hsz hbz;have HBZ:=hid (hbz w (HB1.out.trans HB2.out) (by omega));have HCZ:=hid hcz;clear hoz hsz hbz hcz))
    have hl2:=load_pt (cs:=ptC p) HCZ.out rfl
    exact bodyPost_ret (v:=.agg (ptC (p)).toArray) (by simp[results,Tryz.results14,asAddr,hl2,Act.put]) rfl ⟨by rw[HX.out],HBZ.out⟩
   ·have h3:p.lit=false:=by simpa using h3
    have HP:=hid (show pathC h ts p=if rightP (askC ts (domC h p))≠0 then p else askC ts (domC h p)from by
     unfold pathC
     rw[if_neg (by rintro(f|f|f);exact f h1;rw[h2]at f;cases f;rw[h3]at f;cases f)])
    obtain⟨q,hq0⟩:∃q,q=domC h p:=⟨_,rfl⟩
    have hdc:=dom_cases h p
    rw[←hq0]at HP hdc
    have hqs:=dom_facts h p hh HL.out h2 h3
    rw[←hq0]at hqs
    obtain⟨hql,hqd,hqn⟩:=hqs
    clear hq0
    obtain⟨db,hdb⟩:∃db:ByteArray,db=⟨p.dom.toArray⟩:=⟨_,rfl⟩
    rw[←hdb]at hdc
    have HDb:=hid hdb
    have HDc:=hid hdc
    clear hdb hdc
    go_enter Tryz.func14,Tryz.ntmps14
    go_wp2_with (first|((try rw[←hW1]);refine wpList_load_mid rfl 26 (.tmp 3) rfl (w.heap.size) 0 rfl (ptC p) _ (ptC_range HP1.out) Tryz.underlying26 rfl pt_size ?_)|(go_at_call 17;(try rw[←hW1]);refine(HR.out W1).mono ?_;rintro _ W2 ⟨rfl,hb2⟩;have HB2:=hid hb2;have HP2:=hid (hb2.heap HP1.out);have HZ2:=hid (hb2.heap HZ1.out);have HS2:=hid hb2.size;have k2:=pt_cells (hb2.heap HP1.out);rw[h2,h3]at k2;clear hb2)|(refine wpList_load_mid rfl 26 (.tmp 3) rfl (w.heap.size) 0 rfl (ptC p) _ (ptC_range HP2.out) Tryz.underlying26 rfl pt_size ?_)|(refine wpList_store_blk rfl 26 (.tmp 6) (.tmp 25) rfl (W2.heap.size) (ptC p) rfl rfl pt_size (ptC_one _) (ptC zeroP) _ (heap_alloc_new W2 _) rfl ?_;intro W3 hc3 ho3 hs3 hb3;have HB3:=hid (hb3 W2 ((Bel.refl W2).alloc _) (Nat.le_refl _));have HC3:=hid hc3;have m2:W3.cell? ⟨W2.heap.size,2,none⟩=some (.string db):=(by rw[HDb.out];exact(pt_cells hc3).2.2.1);have mf:W3.frozen? ⟨W2.heap.size,2,none⟩=false:=Lib.frozen_of_heap hc3 2;have mh:=(HCB.out W3 ((HB1.out.trans HB2.out).trans HB3.out)).1;clear hc3 ho3 hs3 hb3;rcases HDc.out with⟨d0,d1,hq⟩|⟨d0,d1,hq⟩<;>(have HQ0:=hid hq;clear hq)))
    all_goals first
     | (obtain⟨W4,hW4⟩:∃W4,W4=W3.setCell ⟨W2.heap.size,2,none⟩ (.string ⟨h.toArray⟩):=⟨_,rfl⟩
        rw[←hW4]
        have HB4:=hid (show Bel W2 W4 by rw[hW4];exact HB3.out.setCell (Nat.le_refl _) _)
        have HC4:=hid (show W4.heap[W2.heap.size]?=some (.cells (ptC q).toArray 26 (0,0)) by rw[hW4,HQ0.out];exact heap_setCell_same _ _ _ _ _ _ HC3.out)
        clear hW4 m2 mf mh HB3 HC3)
     | (have HB4:=HB3
        have HC4:=hid (show W3.heap[W2.heap.size]?=some (.cells (ptC q).toArray 26 (0,0)) by rw[HQ0.out];exact HC3.out)
        clear m2 mf mh HB3 HC3
        generalize W3=W4 at HB4 HC4⊢)
    all_goals
     clear k2 HQ0 HDc HDb d0 d1
     have HBw:=hid ((HB1.out.trans HB2.out).trans HB4.out)
     have e1:∀P:Aft W4,P.wd.cell? ⟨cb,1,none⟩=some (.slice xt ts.length ct):=fun P=>(HCB.out P.wd (HBw.out.trans P.bel)).2
     have e2:∀P:Aft W4,P.wd.cell? ⟨W2.heap.size,1,none⟩=some (.string ⟨q.loc.toArray⟩):=fun P=>(pt_cells (P.bel.heap HC4.out)).2.1
     have e3:∀P:Aft W4,P.wd.cell? ⟨W2.heap.size,2,none⟩=some (.string ⟨q.dom.toArray⟩):=fun P=>(pt_cells (P.bel.heap HC4.out)).2.2.1
     have HAq:=hid (fun P:Aft W4=>HA.out q.loc q.dom hql hqd P.wd (HBw.out.trans P.bel))
     have HPq:Hid (askC ts q=match askQ ts q.loc q.dom with|none=>q|some v=>toC v q):=hid rfl
     have HOq:=hid (HOK.out q.loc q.dom)
     have HVq:=hid (HVl.out q.loc q.dom)
     generalize askQ ts q.loc q.dom=av at HAq HPq HOq HVq
     cases av with
     |none=>
      have HAq:=(show Hid (∀P:Aft W4,Calls Tryz.prog 18 #[.slice xt ts.length ct,.int .i64 1,.string ⟨q.loc.toArray⟩,.string ⟨q.dom.toArray⟩] P.wd fun e w'=>e=.returned (.tuple #[.string ⟨#[]⟩,.bool false])∧Bel P.wd w')from HAq.out)
      rw[show askC ts q=q from HPq.out]at HP
      refine wp_region_aft (by kernel_rfl) (by kernel_rfl) ?_
      repeat (first|go_big_quiet_skip|go_big_quiet_step (first|(go_at_call 18;exact Calls.aft (HAq.out _)))|quiet_step (first|(go_at_call 18;exact Calls.aft (HAq.out _))))
      refine wpQuiet_nil ?_
      rintro _ ⟨P6,rfl⟩
      obtain⟨W6,hb6⟩:∃W6,W6=P6.wd:=⟨_,rfl⟩
      have HB6:=hid (show Bel W2 W6 by rw[hb6];exact HB4.out.trans P6.bel)
      have HQ6:=hid (show W6.heap[W2.heap.size]?=some (.cells (ptC q).toArray 26 (0,0)) by rw[hb6];exact P6.bel.heap HC4.out)
      rw[←hb6]
      clear hb6 e1 e2 e3
      have HRr:=hid (HRq.out q hql hqd)
      generalize rightP q=rr at HRr HP
      go_wp2_with (first|(refine wpList_load_mid rfl 26 (.tmp 6) rfl (W2.heap.size) 0 rfl (ptC q) _ (ptC_range HQ6.out) Tryz.underlying26 rfl pt_size ?_)|(go_at_call 17;refine(HRr.out _ ((HB1.out.trans HB2.out).trans HB6.out)).mono ?_;rintro _ W11 ⟨rfl,hb11⟩;have HB11:=hid (HB6.out.trans hb11);have HQ11:=hid (hb11.heap HQ6.out);clear hb11;rcases int_zero rr with rfl|⟨hr0,b1⟩)|(refine wpList_load_mid rfl 26 (.tmp 3) rfl (w.heap.size) 0 rfl (ptC p) _ (ptC_range (HB11.out.heap HP2.out)) Tryz.underlying26 rfl pt_size ?_)|(refine wpList_load_mid rfl 26 (.tmp 6) rfl (W2.heap.size) 0 rfl (ptC q) _ (ptC_range HQ11.out) Tryz.underlying26 rfl pt_size ?_)|(refine wpList_store_blk rfl 26 (.tmp 4) (.tmp 67) rfl (w.heap.size+1) (ptC q) rfl rfl pt_size (ptC_one _) (ptC zeroP) _ (HB11.out.heap HZ2.out) rfl ?_;intro WZ hcz hoz hsz hbz;have HBZ:=hid (hbz w ((HB1.out.trans HB2.out).trans HB11.out) (by omega));have HCZ:=hid hcz;clear hoz hsz hbz hcz)|(refine wpList_store_blk rfl 26 (.tmp 4) (.tmp 66) rfl (w.heap.size+1) (ptC p) rfl rfl pt_size (ptC_one _) (ptC zeroP) _ (HB11.out.heap HZ2.out) rfl ?_;intro WZ hcz hoz hsz hbz;have HBZ:=hid (hbz w ((HB1.out.trans HB2.out).trans HB11.out) (by omega));have HCZ:=hid hcz;clear hoz hsz hbz hcz))
      ·have HX:=hid (show pathC h ts p=q by rw[HP.out,if_neg (fun f=>f rfl)])
       have hl2:=load_pt (cs:=ptC q) HCZ.out rfl
       exact bodyPost_ret (v:=.agg (ptC (q)).toArray) (by simp[results,Tryz.results14,asAddr,hl2,Act.put]) rfl ⟨by rw[HX.out],HBZ.out⟩
      ·have HX:=hid (show pathC h ts p=p by rw[HP.out,if_pos hr0])
       have hl2:=load_pt (cs:=ptC p) HCZ.out rfl
       exact bodyPost_ret (v:=.agg (ptC (p)).toArray) (by simp[results,Tryz.results14,asAddr,hl2,Act.put]) rfl ⟨by rw[HX.out],HBZ.out⟩
     |some v=>
      have HAq:=(show Hid (∀P:Aft W4,Calls Tryz.prog 18 #[.slice xt ts.length ct,.int .i64 1,.string ⟨q.loc.toArray⟩,.string ⟨q.dom.toArray⟩] P.wd fun e w'=>e=.returned (.tuple #[.string ⟨v.toArray⟩,.bool true])∧Bel P.wd w')from HAq.out)
      rw[show askC ts q=toC v q from HPq.out]at HP
      have hvl:v.length≤1000:=HVq.out v rfl
      have hok:(valueC v).2.2=true:=HOq.out v rfl
      have hts:=toC_small hok hql
      have HVv:=hid (HV.out v hvl)
      have HTq:Hid (toC v q=if(valueC v).2.1 then⟨(valueC v).1.null,q.loc,(valueC v).1.dom,(valueC v).1.lit⟩else(valueC v).1):=hid rfl
      have HTr:=hid (to_ref (v:=v) hqn)
      clear hqn
      rw[hok]at HVv
      generalize (valueC v).1=tq at HVv HTq HTr
      generalize (valueC v).2.1=isat at HVv HTq HTr
      generalize toC v q=q1 at HP hts HTq HTr
      cases isat with
      |true=>
       obtain rfl:q1=⟨q.null,q.loc,tq.dom,q.lit⟩:=HTr.out
       refine wp_region_aft (by kernel_rfl) (by kernel_rfl) ?_
       repeat (first|go_big_quiet_skip|go_big_quiet_step (first|(go_at_call 18;exact Calls.aft (HAq.out _)))|quiet_step (first|(go_at_call 18;exact Calls.aft (HAq.out _))))
       refine wpQuiet_nil ?_
       rintro _ ⟨P6,rfl⟩
       obtain⟨W6,hb6⟩:∃W6,W6=P6.wd:=⟨_,rfl⟩
       have HB6:=hid (show Bel W2 W6 by rw[hb6];exact HB4.out.trans P6.bel)
       have HQ6:=hid (show W6.heap[W2.heap.size]?=some (.cells (ptC q).toArray 26 (0,0)) by rw[hb6];exact P6.bel.heap HC4.out)
       rw[←hb6]
       clear hb6 e1 e2 e3
       have HRr:=hid (HRq.out ⟨q.null,q.loc,tq.dom,q.lit⟩ hts.1 hts.2)
       generalize rightP ⟨q.null,q.loc,tq.dom,q.lit⟩=rr at HRr HP
       go_wp2_with (first|(go_at_call 35;refine(HVv.out W6 ((HB1.out.trans HB2.out).trans HB6.out)).mono ?_;rintro _ W7 ⟨rfl,hb7⟩;have HB7:=hid (HB6.out.trans hb7);have HQ7:=hid (hb7.heap HQ6.out);clear hb7)|(refine wpList_store_blk rfl 26 (.tmp 9) (.tmp 50) rfl (W7.heap.size) (ptC tq) rfl rfl pt_size (ptC_one _) (ptC zeroP) _ (heap_alloc_new W7 _) rfl ?_;intro W8 hc8 ho8 hs8 hb8;have HB8:=hid (HB7.out.trans (hb8 W7 ((Bel.refl W7).alloc _) (Nat.le_refl _)));have HQ8:=hid ((hb8 W7 ((Bel.refl W7).alloc _) (Nat.le_refl _)).heap HQ7.out);have n1:W8.cell? ⟨W7.heap.size,2,none⟩=some (.string ⟨tq.dom.toArray⟩):=(pt_cells hc8).2.2.1;have n2:W8.cell? ⟨W2.heap.size,2,none⟩=some (.string ⟨q.dom.toArray⟩):=(pt_cells HQ8.out).2.2.1;have nf:W8.frozen? ⟨W2.heap.size,2,none⟩=false:=Lib.frozen_of_heap HQ8.out 2;have HQ10:=hid (show(W8.setCell ⟨W2.heap.size,2,none⟩ (.string ⟨tq.dom.toArray⟩)).heap[W2.heap.size]?=some (.cells (ptC ⟨q.null,q.loc,tq.dom,q.lit⟩).toArray 26 (0,0))from heap_setCell_same _ _ _ _ _ _ HQ8.out);have HB10:=hid (HB8.out.setCell (Nat.le_refl _) (.string ⟨tq.dom.toArray⟩) (o:=2));clear hc8 ho8 hs8 hb8)|(refine wpList_load_mid rfl 26 (.tmp 6) rfl (W2.heap.size) 0 rfl (ptC ⟨q.null,q.loc,tq.dom,q.lit⟩) _ (ptC_range HQ10.out) Tryz.underlying26 rfl pt_size ?_)|(go_at_call 17;refine(HRr.out _ ((HB1.out.trans HB2.out).trans HB10.out)).mono ?_;rintro _ W11 ⟨rfl,hb11⟩;have HB11:=hid (HB10.out.trans hb11);have HQ11:=hid (hb11.heap HQ10.out);clear hb11;rcases int_zero rr with rfl|⟨hr0,b1⟩)|(refine wpList_load_mid rfl 26 (.tmp 3) rfl (w.heap.size) 0 rfl (ptC p) _ (ptC_range (HB11.out.heap HP2.out)) Tryz.underlying26 rfl pt_size ?_)|(refine wpList_load_mid rfl 26 (.tmp 6) rfl (W2.heap.size) 0 rfl (ptC ⟨q.null,q.loc,tq.dom,q.lit⟩) _ (ptC_range HQ11.out) Tryz.underlying26 rfl pt_size ?_)|(refine wpList_store_blk rfl 26 (.tmp 4) (.tmp 67) rfl (w.heap.size+1) (ptC ⟨q.null,q.loc,tq.dom,q.lit⟩) rfl rfl pt_size (ptC_one _) (ptC zeroP) _ (HB11.out.heap HZ2.out) rfl ?_;intro WZ hcz hoz hsz hbz;have HBZ:=hid (hbz w ((HB1.out.trans HB2.out).trans HB11.out) (by omega));have HCZ:=hid hcz;clear hoz hsz hbz hcz)|(refine wpList_store_blk rfl 26 (.tmp 4) (.tmp 66) rfl (w.heap.size+1) (ptC p) rfl rfl pt_size (ptC_one _) (ptC zeroP) _ (HB11.out.heap HZ2.out) rfl ?_;intro WZ hcz hoz hsz hbz;have HBZ:=hid (hbz w ((HB1.out.trans HB2.out).trans HB11.out) (by omega));have HCZ:=hid hcz;clear hoz hsz hbz hcz))
       ·have HX:=hid (show pathC h ts p=⟨q.null,q.loc,tq.dom,q.lit⟩ by rw[HP.out,if_neg (fun f=>f rfl)])
        have hl2:=load_pt (cs:=ptC ⟨q.null,q.loc,tq.dom,q.lit⟩) HCZ.out rfl
        exact bodyPost_ret (v:=.agg (ptC (⟨q.null,q.loc,tq.dom,q.lit⟩)).toArray) (by simp[results,Tryz.results14,asAddr,hl2,Act.put]) rfl ⟨by rw[HX.out],HBZ.out⟩
       ·have HX:=hid (show pathC h ts p=p by rw[HP.out,if_pos hr0])
        have hl2:=load_pt (cs:=ptC p) HCZ.out rfl
        exact bodyPost_ret (v:=.agg (ptC (p)).toArray) (by simp[results,Tryz.results14,asAddr,hl2,Act.put]) rfl ⟨by rw[HX.out],HBZ.out⟩
      |false=>
       obtain rfl:tq=q1:=HTq.out.symm
       refine wp_region_aft (by kernel_rfl) (by kernel_rfl) ?_
       repeat (first|go_big_quiet_skip|go_big_quiet_step (first|(go_at_call 18;exact Calls.aft (HAq.out _)))|quiet_step (first|(go_at_call 18;exact Calls.aft (HAq.out _))))
       refine wpQuiet_nil ?_
       rintro _ ⟨P6,rfl⟩
       obtain⟨W6,hb6⟩:∃W6,W6=P6.wd:=⟨_,rfl⟩
       have HB6:=hid (show Bel W2 W6 by rw[hb6];exact HB4.out.trans P6.bel)
       have HQ6:=hid (show W6.heap[W2.heap.size]?=some (.cells (ptC q).toArray 26 (0,0)) by rw[hb6];exact P6.bel.heap HC4.out)
       rw[←hb6]
       clear hb6 e1 e2 e3
       have HRr:=hid (HRq.out tq hts.1 hts.2)
       generalize rightP tq=rr at HRr HP
       go_wp2_with (first|(go_at_call 35;refine(HVv.out W6 ((HB1.out.trans HB2.out).trans HB6.out)).mono ?_;rintro _ W7 ⟨rfl,hb7⟩;have HB7:=hid (HB6.out.trans hb7);have HQ7:=hid (hb7.heap HQ6.out);clear hb7)|(refine wpList_store_blk rfl 26 (.tmp 9) (.tmp 50) rfl (W7.heap.size) (ptC tq) rfl rfl pt_size (ptC_one _) (ptC zeroP) _ (heap_alloc_new W7 _) rfl ?_;intro W8 hc8 ho8 hs8 hb8;have HB8:=hid (HB7.out.trans (hb8 W7 ((Bel.refl W7).alloc _) (Nat.le_refl _)));have HQ8:=hid ((hb8 W7 ((Bel.refl W7).alloc _) (Nat.le_refl _)).heap HQ7.out);have HT8:=hid hc8;clear hc8 ho8 hs8 hb8)|(refine wpList_load_mid rfl 26 (.tmp 9) rfl (W7.heap.size) 0 rfl (ptC tq) _ (ptC_range HT8.out) Tryz.underlying26 rfl pt_size ?_)|(refine wpList_store_blk rfl 26 (.tmp 6) (.tmp 61) rfl (W2.heap.size) (ptC tq) rfl rfl pt_size (ptC_one _) (ptC q) _ (HQ8.out) rfl ?_;intro W10 hc10 ho10 hs10 hb10;have HB10:=hid (hb10 W2 HB8.out (Nat.le_refl _));have HQ10:=hid hc10;clear hc10 ho10 hs10 hb10)|(refine wpList_load_mid rfl 26 (.tmp 6) rfl (W2.heap.size) 0 rfl (ptC tq) _ (ptC_range HQ10.out) Tryz.underlying26 rfl pt_size ?_)|(go_at_call 17;refine(HRr.out _ ((HB1.out.trans HB2.out).trans HB10.out)).mono ?_;rintro _ W11 ⟨rfl,hb11⟩;have HB11:=hid (HB10.out.trans hb11);have HQ11:=hid (hb11.heap HQ10.out);clear hb11;rcases int_zero rr with rfl|⟨hr0,b1⟩)|(refine wpList_load_mid rfl 26 (.tmp 3) rfl (w.heap.size) 0 rfl (ptC p) _ (ptC_range (HB11.out.heap HP2.out)) Tryz.underlying26 rfl pt_size ?_)|(refine wpList_load_mid rfl 26 (.tmp 6) rfl (W2.heap.size) 0 rfl (ptC tq) _ (ptC_range HQ11.out) Tryz.underlying26 rfl pt_size ?_)|(refine wpList_store_blk rfl 26 (.tmp 4) (.tmp 67) rfl (w.heap.size+1) (ptC tq) rfl rfl pt_size (ptC_one _) (ptC zeroP) _ (HB11.out.heap HZ2.out) rfl ?_;intro WZ hcz hoz hsz hbz;have HBZ:=hid (hbz w ((HB1.out.trans HB2.out).trans HB11.out) (by omega));have HCZ:=hid hcz;clear hoz hsz hbz hcz)|(refine wpList_store_blk rfl 26 (.tmp 4) (.tmp 66) rfl (w.heap.size+1) (ptC p) rfl rfl pt_size (ptC_one _) (ptC zeroP) _ (HB11.out.heap HZ2.out) rfl ?_;intro WZ hcz hoz hsz hbz;have HBZ:=hid (hbz w ((HB1.out.trans HB2.out).trans HB11.out) (by omega));have HCZ:=hid hcz;clear hoz hsz hbz hcz))
       ·have HX:=hid (show pathC h ts p=tq by rw[HP.out,if_neg (fun f=>f rfl)])
        have hl2:=load_pt (cs:=ptC tq) HCZ.out rfl
        exact bodyPost_ret (v:=.agg (ptC (tq)).toArray) (by simp[results,Tryz.results14,asAddr,hl2,Act.put]) rfl ⟨by rw[HX.out],HBZ.out⟩
       ·have HX:=hid (show pathC h ts p=p by rw[HP.out,if_pos hr0])
        have hl2:=load_pt (cs:=ptC p) HCZ.out rfl
        exact bodyPost_ret (v:=.agg (ptC (p)).toArray) (by simp[results,Tryz.results14,asAddr,hl2,Act.put]) rfl ⟨by rw[HX.out],HBZ.out⟩
 ·have b1:(rightP p==0)=false:=by simpa using h1
  have HX:=hid (show pathC h ts p=p by unfold pathC;rw[if_pos (.inl h1)])
  go_enter Tryz.func14,Tryz.ntmps14
  go_wp2_with (first|((try rw[←hW1]);refine wpList_load_mid rfl 26 (.tmp 3) rfl (w.heap.size) 0 rfl (ptC p) _ (ptC_range HP1.out) Tryz.underlying26 rfl pt_size ?_)|(go_at_call 17;(try rw[←hW1]);refine(HR.out W1).mono ?_;rintro _ W2 ⟨rfl,hb2⟩;have HB2:=hid hb2;have HP2:=hid (hb2.heap HP1.out);have HZ2:=hid (hb2.heap HZ1.out);have HS2:=hid hb2.size;have k2:=pt_cells (hb2.heap HP1.out);clear hb2)|(refine wpList_load_mid rfl 26 (.tmp 3) rfl (w.heap.size) 0 rfl (ptC p) _ (ptC_range (HP2.out)) Tryz.underlying26 rfl pt_size ?_)|(refine wpList_store_blk rfl 26 (.tmp 4) (.tmp 24) rfl (w.heap.size+1) (ptC p) rfl rfl pt_size (ptC_one _) (ptC zeroP) _ (HZ2.out) rfl ?_;intro WZ hcz hoz hsz hbz;have HBZ:=hid (hbz w (HB1.out.trans HB2.out) (by omega));have HCZ:=hid hcz;clear hoz hsz hbz hcz))
  have hl2:=load_pt (cs:=ptC p) HCZ.out rfl
  exact bodyPost_ret (v:=.agg (ptC (p)).toArray) (by simp[results,Tryz.results14,asAddr,hl2,Act.put]) rfl ⟨by rw[HX.out],HBZ.out⟩
end Go.Proofs.YtmlmkmhkmifnkaaGreatDoor.Tb