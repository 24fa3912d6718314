import Derived.Test.YtmlmkmhkmifnkaaGreatDoorM12
import Derived.RangeFuncNested
import Derived.RangeFuncBound
import Derived.RangeFuncCalls
import Derived.RangeFuncLeaves
import Derived.OwnWalkIn
import Derived.TacticsInMore
import Derived.LoopNIn
import Derived.LoopIn
set_option maxHeartbeats 16000000
set_option maxRecDepth 1000000
namespace Go.Proofs.YtmlmkmhkmifnkaaGreatDoor.Tb
open Go.RowKit
open Ci (Bel hid)
def optV:Option (List UInt8)→Array Value
 |some v=>#[.string ⟨v.toArray⟩,.bool true]
 |none=>#[.string ⟨#[]⟩,.bool false]
theorem len_run(a:Option Addr)(es:List En)(w:World)(hT:TabAt w a es):Calls Tryz.prog 28 #[.pointer a] w fun e w'=>e=.returned (.int .i64 es.length)∧Bel w w':=by
 obtain⟨b,x,c,rfl,hb,-⟩:=hT.at_
 have c0:w.cell? ⟨b,0,none⟩=some (.slice x es.length c):=by rw[Lib.cell_of_heap hb];rfl
 clear hb hT
 generalize es.length=n at c0⊢
 go_enter Tryz.func28,Tryz.ntmps28
 go_wp2_with fail
 go_ret
 exact⟨rfl,Bel.refl w⟩
theorem at_run(a:Option Addr)(es:List En)(k:Nat)(w:World)(hT:TabAt w a es)(hk:k<es.length):
 Calls Tryz.prog 29 #[.pointer a,.int .i64 k] w fun e w'=>e=.returned (.tuple #[.string ⟨es[k].key.toArray⟩,.string ⟨es[k].val.toArray⟩,.bool true])∧Bel w w':=by
 obtain⟨b,x,c,rfl,hb,hE⟩:=hT.at_
 obtain⟨b2,o,rfl,h1,h2⟩:=hE.place hk
 have hn:=hT.num
 have c0:∀p:Ci.Aft w,p.wd.cell? ⟨b,0,none⟩=some (.slice (some ⟨b2,o,none⟩) es.length c):=fun p=>by rw[Lib.cell_of_heap (p.bel.heap hb)];rfl
 have d0:w.cell? ⟨b,0,none⟩=some (.slice (some ⟨b2,o,none⟩) es.length c):=by rw[Lib.cell_of_heap hb];rfl
 have c1:∀p:Ci.Aft w,p.wd.cell? ⟨b2,o+k*2,none⟩=some (.string ⟨es[k].key.toArray⟩):=fun p=>(((hE.next p.bel).place hk).elim fun b3 h=>h.elim fun o3 h=>by obtain⟨e,f,-⟩:=h;cases e;exact f)
 have c2:∀p:Ci.Aft w,p.wd.cell? ⟨b2,o+k*2+1,none⟩=some (.string ⟨es[k].val.toArray⟩):=fun p=>(((hE.next p.bel).place hk).elim fun b3 h=>h.elim fun o3 h=>by obtain⟨e,-,f⟩:=h;cases e;exact f)
 clear hb hE h1 h2
 generalize es[k]=y at c1 c2⊢
 generalize es.length=n at c0 d0 hk hn
 have b1:decide ((k:Int)<0)=false:=decide_eq_false (by omega)
 have b2:decide ((n:Int)≤(k:Int))=false:=decide_eq_false (by omega)
 go_enter Tryz.func29,Tryz.ntmps29
 go_wp2_with fail
 refine Ci.wp_region_aft (by kernel_rfl) (by kernel_rfl) ?_
 repeat (first
  |go_big_quiet_skip
  |go_big_quiet_step (fail)
  |quiet_step (fail))
 refine wpQuiet_nil ?_
 rintro _ ⟨p,rfl⟩
 go_wp2_with fail
 exact bodyPost_ret (v:=.tuple #[.string ⟨y.key.toArray⟩,.string ⟨y.val.toArray⟩,.bool true]) (by simp[results,Tryz.results29,go_sem]) rfl ⟨rfl,p.bel⟩
theorem exact_run(a:Option Addr)(es:List En)(key:ByteArray)(w:World)(hw:Lat w)(hT:TabAt w a es)(hk:key.size<35184372088832):
 Calls Tryz.prog 159 #[.pointer a,.string key] w fun e w'=>e=.returned (.tuple (optV (exactQ es key.data.toList)))∧Bel w w':=by
 obtain⟨b,x,c,rfl,hb,hE⟩:=hT.at_
 have HT:=hid hT
 have HB:=hid hb
 have HE:=hid hE
 have HL:=hid (tlower_run key w hw hk)
 have hn:=hT.num
 have HP:=(show Hid (∀W,Bel w W→Calls Tryz.prog 69 #[.pointer (some ⟨b,0,none⟩),.string ⟨(lowR key.data.toList).toArray⟩] W fun e w'=>e=.returned (.tuple #[.int .i64 (rank es (lowR key.data.toList):Nat),.bool (foundB es (lowR key.data.toList))])∧Bel W w')from
  fun W hW=>place_run b x es c ⟨(lowR key.data.toList).toArray⟩ W (hW.heap HB.out) (HE.out.next hW) HT.out.srt (by omega))
 have HX:Hid (exactQ es key.data.toList=if foundB es (lowR key.data.toList)then(es[rank es (lowR key.data.toList)]?).map (·.val)else none):=hid rfl
 have hfr:foundB es (lowR key.data.toList)=true→rank es (lowR key.data.toList)<es.length:=fun h=>by
  unfold foundB at h
  cases hr:es[rank es (lowR key.data.toList)]? with
  |none=>rw[hr]at h;cases h
  |some e=>exact(List.getElem?_eq_some_iff.1 hr).1
 clear hT hb hE hw
 generalize lowR key.data.toList=k at HL HP HX hfr
 cases hf:foundB es k with
 |false=>
  rw[hf]at HP HX
  have HY:=hid (show exactQ es key.data.toList=none from HX.out)
  clear hf hfr HX
  go_enter Tryz.func159,Tryz.ntmps159
  go_wp2_with (first|(go_at_call 135;refine HL.out.mono ?_;rintro e w1 ⟨rfl,hb1⟩;have HB1:=hid hb1;clear hb1)|(go_at_call 69;refine(HP.out _ HB1.out).mono ?_;rintro e w2 ⟨rfl,hb2⟩;have HB2:=hid (HB1.out.trans hb2);clear hb2))
  go_ret2
  exact⟨by rw[HY.out];rfl,HB2.out⟩
 |true=>
  have hr:=hfr hf
  rw[hf]at HP HX
  have HY:=hid (show exactQ es key.data.toList=some (es[rank es k]'hr).val by rw[HX.out,if_pos rfl,List.getElem?_eq_getElem hr];rfl)
  obtain⟨b2,o,rfl,-,-⟩:=HE.out.place hr
  have HC:=(show Hid (∀W,Bel w W→W.cell? ⟨b,0,none⟩=some (.slice (some ⟨b2,o,none⟩) es.length c)∧W.cell? ⟨b2,o+rank es k*2+1,none⟩=some (.string ⟨es[rank es k].val.toArray⟩))from fun W hW=>⟨by rw[Lib.cell_of_heap (hW.heap HB.out)];rfl,by
   obtain⟨b3,o3,e,-,f⟩:=(HE.out.next hW).place hr
   cases e;exact f⟩)
  clear hf hfr HX HE HT HB
  generalize es[rank es k].val=v at HC HY
  generalize rank es k=r at HP HC hr
  generalize es.length=n at HC hr hn
  go_enter Tryz.func159,Tryz.ntmps159
  go_wp2_with (first|(go_at_call 135;refine HL.out.mono ?_;rintro e w1 ⟨rfl,hb1⟩;have HB1:=hid hb1;clear hb1)|(go_at_call 69;refine(HP.out _ HB1.out).mono ?_;rintro e w2 ⟨rfl,hb2⟩;have HB2:=hid (HB1.out.trans hb2);clear hb2;have c0:=(HC.out w2 HB2.out).1;have c1:=(HC.out w2 HB2.out).2))
  go_ret2
  exact⟨by rw[HY.out];rfl,HB2.out⟩
theorem taddr_run(a:Option Addr)(es:List En)(l d:ByteArray)(w:World)(hw:Lat w)(hT:TabAt w a es)(hl:l.size≤4194304)(hd:d.size≤4194304):
 Calls Tryz.prog 92 #[.pointer a,.string l,.string d] w fun e w'=>e=.returned (.tuple (optV (addrQ es l.data.toList d.data.toList)))∧Bel w w':=by
 have HT:=hid hT
 have HW:=hid hw
 have h1:((l++⟨#[64]⟩)++d).data.toList=l.data.toList++[64]++d.data.toList:=by rw[Ci.app_data,Ci.app_data]
 have h2:((⟨#[64]⟩:ByteArray)++d).data.toList=[64]++d.data.toList:=by rw[Ci.app_data]
 have HE1:=(show Hid (Calls Tryz.prog 159 #[.pointer a,.string ((l++⟨#[64]⟩)++d)] w fun e w'=>e=.returned (.tuple (optV (exactQ es (l.data.toList++[64]++d.data.toList))))∧Bel w w')from by
  have:=exact_run a es ((l++⟨#[64]⟩)++d) w HW.out HT.out (by rw[ByteArray.size_append,ByteArray.size_append];show l.size+1+d.size<_;omega)
  rwa[h1]at this)
 have HE2:=(show Hid (∀W,Bel w W→Calls Tryz.prog 159 #[.pointer a,.string (⟨#[64]⟩++d)] W fun e w'=>e=.returned (.tuple (optV (exactQ es ([64]++d.data.toList))))∧Bel W w')from fun W hW=>by
  have:=exact_run a es (⟨#[64]⟩++d) W (HW.out.next hW) (HT.out.next hW) (by rw[ByteArray.size_append];show 1+d.size<_;omega)
  rwa[h2]at this)
 have HX:Hid (addrQ es l.data.toList d.data.toList=match exactQ es (l.data.toList++[64]++d.data.toList)with|some v=>some v|none=>exactQ es ([64]++d.data.toList)):=hid rfl
 have a1:∀W:World,(Op.stringOp .add l ⟨#[64]⟩).run Tryz.prog W=.ok (.string (l++⟨#[64]⟩)) W:=fun W=>run_string_add_sum W _ _ (by show l.size+1≤_;omega)
 have a2:∀W:World,(Op.stringOp .add (l++⟨#[64]⟩) d).run Tryz.prog W=.ok (.string ((l++⟨#[64]⟩)++d)) W:=fun W=>run_string_add_sum W _ _ (by rw[ByteArray.size_append];show l.size+1+d.size≤_;omega)
 have a3:∀W:World,(Op.stringOp .add ⟨#[64]⟩ d).run Tryz.prog W=.ok (.string (⟨#[64]⟩++d)) W:=fun W=>run_string_add_sum W _ _ (by show 1+d.size≤_;omega)
 generalize exactQ es (l.data.toList++[64]++d.data.toList)=r1 at HE1 HX
 generalize exactQ es ([64]++d.data.toList)=r2 at HE2 HX
 clear hT hw h1 h2 HT HW
 cases r1 with
 |some v=>
  have HY:=hid (show addrQ es l.data.toList d.data.toList=some v from HX.out)
  have HE1:=(show Hid (Calls Tryz.prog 159 #[.pointer a,.string ((l++⟨#[64]⟩)++d)] w fun e w'=>e=.returned (.tuple #[.string ⟨v.toArray⟩,.bool true])∧Bel w w')from HE1.out)
  clear HX HE2
  go_enter Tryz.func92,Tryz.ntmps92
  go_wp2_with (first|(go_at_call 159;refine HE1.out.mono ?_;rintro e w1 ⟨rfl,hb1⟩;have HB1:=hid hb1;clear hb1))
  go_ret2
  exact⟨by rw[HY.out];rfl,HB1.out⟩
 |none=>
  have HY:=hid (show addrQ es l.data.toList d.data.toList=r2 from HX.out)
  have HE1:=(show Hid (Calls Tryz.prog 159 #[.pointer a,.string ((l++⟨#[64]⟩)++d)] w fun e w'=>e=.returned (.tuple #[.string ⟨#[]⟩,.bool false])∧Bel w w')from HE1.out)
  obtain⟨vs,vb,hv⟩:∃vs vb,optV r2=#[.string vs,.bool vb]:=by cases r2 with
   |none=>exact⟨_,_,rfl⟩
   |some v=>exact⟨_,_,rfl⟩
  rw[hv]at HE2
  have HV:=hid hv
  clear HX hv
  go_enter Tryz.func92,Tryz.ntmps92
  go_wp2_with (first|(go_at_call 159;with_reducible refine HE1.out.mono ?_;rintro e w1 ⟨rfl,hb1⟩;have HB1:=hid hb1;clear hb1)|(go_at_call 159;with_reducible refine(HE2.out _ HB1.out).mono ?_;rintro e w2 ⟨rfl,hb2⟩;have HB2:=hid (HB1.out.trans hb2);clear hb2))
  go_ret2
  exact⟨by rw[HY.out,HV.out];rfl,HB2.out⟩
structure Tabs (W:World) (x:Option Addr) (ts:List (List En)):Prop where
 at_:ts=[]∨∃b o,x=some ⟨b,o,none⟩∧b<W.heap.size∧∀k (hk:k<ts.length),∃p,W.cell? ⟨b,o+k,none⟩=some (.pointer p)∧TabAt W p ts[k]
theorem Tabs.next{W W':World}{x:Option Addr}{ts:List (List En)}(h:Tabs W x ts)(hb:Bel W W'):Tabs W' x ts:=by
 refine⟨?_⟩
 rcases h.at_ with f|⟨b,o,e,hs,f⟩
 ·exact .inl f
 ·refine .inr ⟨b,o,e,Nat.lt_of_lt_of_le hs hb.size,fun k hk=> ?_⟩
  obtain⟨p,h1,h2⟩:=f k hk
  exact⟨p,(bel_cell hb hs).trans h1,h2.next hb⟩
theorem Tabs.place{W:World}{x:Option Addr}{ts:List (List En)}(h:Tabs W x ts){k:Nat}(hk:k<ts.length):∃b o p,x=some ⟨b,o,none⟩∧W.cell? ⟨b,o+k,none⟩=some (.pointer p)∧TabAt W p ts[k]:=by
 rcases h.at_ with f|⟨b,o,e,-,f⟩
 ·rw[f]at hk;cases hk
 ·obtain⟨p,h1,h2⟩:=f k hk
  exact⟨b,o,p,e,h1,h2⟩
structure ChAt (W:World) (a:Option Addr) (ts:List (List En)):Prop where
 at_:∃b x c,a=some ⟨b,0,none⟩∧W.heap[b]?=some (.cells #[.slice x ts.length c] 141 (0,0))∧Tabs W x ts
 num:ts.length≤8
theorem ChAt.next{W W':World}{a:Option Addr}{ts:List (List En)}(h:ChAt W a ts)(hb:Bel W W'):ChAt W' a ts:=by
 obtain⟨b,x,c,e,h1,h2⟩:=h.at_
 exact⟨⟨b,x,c,e,hb.heap h1,h2.next hb⟩,h.num⟩
theorem chC_run(a:Option Addr)(es:List En)(l d:ByteArray)(b1 b2:Nat)(w:World)(hw:Lat w)(hT:TabAt w a es)(hl:l.size≤4194304)(hd:d.size≤4194304)(c1:w.cell? ⟨b1,0,none⟩=some (.string l))(c2:w.cell? ⟨b2,0,none⟩=some (.string d)):
 Calls Tryz.prog 91 #[.pointer a,.pointer (some ⟨b1,0,none⟩),.pointer (some ⟨b2,0,none⟩)] w fun e w'=>e=.returned (.tuple (optV (addrQ es l.data.toList d.data.toList)))∧Bel w w':=by
 have HA:=hid (taddr_run a es l d w hw hT hl hd)
 clear hT hw
 obtain⟨vs,vb,hv⟩:∃vs vb,optV (addrQ es l.data.toList d.data.toList)=#[.string vs,.bool vb]:=by cases addrQ es l.data.toList d.data.toList with
  |none=>exact⟨_,_,rfl⟩
  |some v=>exact⟨_,_,rfl⟩
 rw[hv]at HA⊢
 clear hv
 go_enter Tryz.func91,Tryz.ntmps91
 go_wp2_with (first|(go_at_call 92;refine HA.out.mono ?_;rintro e w1 ⟨rfl,hb1⟩))
 go_ret2
 exact⟨rfl,hb1⟩
theorem ask_drop(ts:List (List En))(l d:List UInt8)(k:Nat)(hk:k<ts.length):askQ (ts.drop k) l d=match addrQ ts[k] l d with|some v=>some v|none=>askQ (ts.drop (k+1)) l d:=by
 unfold askQ
 rw[List.drop_eq_getElem_cons hk,List.findSome?_cons]
 cases addrQ ts[k] l d<;>rfl
theorem ask_run(a:Option Addr)(ts:List (List En))(l d:ByteArray)(b1 b2:Nat)(w:World)(hw:Lat w)(hC:ChAt w a ts)(hl:l.size≤4194304)(hd:d.size≤4194304)(c1:w.cell? ⟨b1,0,none⟩=some (.string l))(c2:w.cell? ⟨b2,0,none⟩=some (.string d)):
 Calls Tryz.prog 90 #[.pointer a,.func (.func 91) #[] #[.pointer (some ⟨b1,0,none⟩),.pointer (some ⟨b2,0,none⟩)]] w fun e w'=>e=.returned (.tuple (optV (askQ ts l.data.toList d.data.toList)))∧Bel w w':=by
 obtain⟨b,x,c,rfl,hb,hTs⟩:=hC.at_
 have hnum:=hC.num
 have HTs:=hid hTs
 have HW:=hid hw
 have HCl:=(show Hid (∀W p es,Bel w W→TabAt W p es→Calls Tryz.prog 91 #[.pointer p,.pointer (some ⟨b1,0,none⟩),.pointer (some ⟨b2,0,none⟩)] W fun e w'=>e=.returned (.tuple (optV (addrQ es l.data.toList d.data.toList)))∧Bel W w')from
  fun W p es hW hT=>chC_run p es l d b1 b2 W (hw.next hW) hT hl hd ((bel_cell hW (World.block_lt_of_cell? w _ c1)).trans c1) ((bel_cell hW (World.block_lt_of_cell? w _ c2)).trans c2))
 have eg:∀args w,(callFunc 91 args).run Tryz.prog w=.ok (.enter 91 args) w:=enters_of Tryz.func91 (by kernel_rfl) rfl
 have c0:w.cell? ⟨b,0,none⟩=some (.slice x ts.length c):=by rw[Lib.cell_of_heap hb];rfl
 have H0:=hid (show askQ ts l.data.toList d.data.toList=askQ (ts.drop 0) l.data.toList d.data.toList by rw[List.drop_zero])
 clear hC hb hTs hw c1 c2 hl hd
 go_enter Tryz.func90,Tryz.ntmps90
 go_wp2_with fail
 go_loopg [15] ts.length (fun gg v15 wr=>∃k:Nat,v15=.int .i64 k∧k+gg=ts.length∧Hid (askQ ts l.data.toList d.data.toList=askQ (ts.drop k) l.data.toList d.data.toList)∧Hid (Bel w wr))
 case atStart=>exact⟨0,rfl,by omega,H0.out,hid (Bel.refl w)⟩
 case round=>
  clear H0 c0
  obtain⟨k,rfl,hk,HQ,HB⟩:=hrel
  have Hk:=hid hk
  have hkn:k≤ts.length:=by omega
  clear hk
  by_cases hlt:k<ts.length
  ·obtain⟨b3,o3,p,rfl,h3,hT⟩:=(HTs.out.next HB.out).place hlt
   have HA:=hid (HCl.out wr p ts[k] HB.out hT)
   have HD:=hid (ask_drop ts l.data.toList d.data.toList k hlt)
   generalize addrQ ts[k] l.data.toList d.data.toList=r at HA HD
   clear hT
   cases r with
   |some v=>
    have HA:=(show Hid (Calls Tryz.prog 91 #[.pointer p,.pointer (some ⟨b1,0,none⟩),.pointer (some ⟨b2,0,none⟩)] wr fun e w'=>e=.returned (.tuple #[.string ⟨v.toArray⟩,.bool true])∧Bel wr w')from HA.out)
    have HY:=hid (show askQ ts l.data.toList d.data.toList=some v from HQ.out.trans HD.out)
    clear HQ HD
    go_wp2_with (first|(go_at_fn 91;refine HA.out.mono ?_;rintro e w2 ⟨rfl,hb2⟩))
    go_ret2
    exact⟨by rw[HY.out];rfl,HB.out.trans hb2⟩
   |none=>
    have HA:=(show Hid (Calls Tryz.prog 91 #[.pointer p,.pointer (some ⟨b1,0,none⟩),.pointer (some ⟨b2,0,none⟩)] wr fun e w'=>e=.returned (.tuple #[.string ⟨#[]⟩,.bool false])∧Bel wr w')from HA.out)
    have HY:=hid (show askQ ts l.data.toList d.data.toList=askQ (ts.drop (k+1)) l.data.toList d.data.toList from HQ.out.trans HD.out)
    clear HQ HD
    go_wp2_with (first|(go_at_fn 91;refine HA.out.mono ?_;rintro e w2 ⟨rfl,hb2⟩))
    go_roundg (gk-1)
    case measure=>have:=Hk.out;omega
    case rel=>exact⟨k+1,by go_num,by have:=Hk.out;omega,HY.out,hid (HB.out.trans hb2)⟩
  ·obtain rfl:k=ts.length:=by omega
   have HY:=hid (show askQ ts l.data.toList d.data.toList=none by rw[HQ.out,List.drop_length];rfl)
   go_wp2_with fail
   go_ret2
   exact⟨by rw[HY.out];rfl,HB.out⟩
theorem chAddr_run(a:Option Addr)(ts:List (List En))(l d:ByteArray)(w:World)(hw:Lat w)(hC:ChAt w a ts)(hl:l.size≤4194304)(hd:d.size≤4194304):
 Calls Tryz.prog 37 #[.pointer a,.string l,.string d] w fun e w'=>e=.returned (.tuple (optV (askQ ts l.data.toList d.data.toList)))∧Bel w w':=by
 obtain⟨W,hW⟩:∃W,W=(w.alloc (.cells #[.string l] 9)).alloc (.cells #[.string d] 9):=⟨_,rfl⟩
 have HX:=hid (show Bel w W by rw[hW];exact((Bel.refl w).alloc _).alloc _)
 have hb1:W.heap[w.heap.size]?=some (.cells #[.string l] 9 (0,0)):=by
  rw[hW]
  exact(Below.heap_alloc _ _ _ (by simp)).trans (heap_alloc_new w _)
 have hb2:W.heap[w.heap.size+1]?=some (.cells #[.string d] 9 (0,0)):=by
  rw[hW];exact Ci.alloc_second w _ _
 have HA:=hid (ask_run a ts l d w.heap.size (w.heap.size+1) W (hw.next HX.out) (hC.next HX.out) hl hd (by rw[Lib.cell_of_heap hb1];rfl) (by rw[Lib.cell_of_heap hb2];rfl))
 have hmf:∀(fn:Fn) (first cap:Array Value) (w:World),(Instr.makeFunc fn first cap).run Tryz.prog w=.ok (.func fn first cap) w:=fun _ _ _ _=>rfl
 clear hw hC hb1 hb2
 obtain⟨vs,vb,hv⟩:∃vs vb,optV (askQ ts l.data.toList d.data.toList)=#[.string vs,.bool vb]:=by cases askQ ts l.data.toList d.data.toList with
  |none=>exact⟨_,_,rfl⟩
  |some v=>exact⟨_,_,rfl⟩
 rw[hv]at HA⊢
 clear hv
 go_enter Tryz.func37,Tryz.ntmps37
 go_wp2_with (first|(rw[←hW];clear hW;go_at_call 90;refine HA.out.mono ?_;rintro e w1 ⟨rfl,hb1⟩)|(go_at_call 90;refine HA.out.mono ?_;rintro e w1 ⟨rfl,hb1⟩))
 go_ret2
 exact⟨rfl,HX.out.trans hb1⟩
end Go.Proofs.YtmlmkmhkmifnkaaGreatDoor.Tb
namespace Go.Proofs.YtmlmkmhkmifnkaaGreatDoor.Tb
open Go.RowKit
open Ci (Bel hid own_bel row_shape own_base addr_add splitL)
section
variable {P:Program}
def KeepB(lo hi:Nat)(W W':World):Prop:=∀k,lo≤k→k<hi→W'.heap[k]?=W.heap[k]?
def KeepI(lo hi:Nat)(W W':World):Prop:=KeepB lo hi W W'∧KeepB 0 8 W W'
end
attribute [local go_sem] Oper.semAt_some
structure SsW (b:Nat) (c:UInt8) (W:World) (r:ByteArray):Prop where
 s:W.heap[b]?=some (.cells #[.string r] 9 (0,0))
 sep:W.heap[b+1]?=some (.cells #[.string ⟨#[c]⟩] 9 (0,0))
 n:W.heap[b+2]?=some (.cells #[.int .i64 0] 3 (0,0))
 most:∃m,W.cell? ⟨1,0,none⟩=some (.int .i64 m)
end Go.Proofs.YtmlmkmhkmifnkaaGreatDoor.Tb
namespace Go.Proofs.YtmlmkmhkmifnkaaGreatDoor.Tb
open Go.RowKit
open Ci (Bel hid own_bel row_shape own_base addr_add trim_run)
section
variable {P:Program}
theorem wpList_push_at {W:World} {ops:Array Oper} {rest:List Oper} {o:Oper} {a:Act} {Q:Exit→Act→World→Prop} (hgd:o.guard=none) (s x:Operand) (t:TypeId)
 (ho:o.op=.call {callee:=.builtin .append,args:=#[s,x],argTypes:=#[t,t]})
 (e:TypeId) (z:Value) (size bytes:Nat) (ht:P.underlying t=some (.slice e)) (hi:(P.info? e).map (fun i=>(i.zero,i.size,i.bytes))=some (some z,size,bytes)) (hzs:z.cells.size=size) (hsz:0<size)
 (base:Nat) (v:Value) (n:Nat) (xs:List Value) (hs:a.eval s=v) (hown:W.ownsRow base e size v n xs) (hb:base≤W.heap.size)
 (c:Array Value) (hx:a.eval x=.slice (some ⟨W.heap.size,0,none⟩) 1 1) (hc:c.size=size) (h1:∀u∈c.toList,u.oneCell'=true) (hm:n+1≤maxLen) (hbytes:(n+1)*bytes≤140737488355328)
 (h:∀v' w',w'.ownsRow base e size v' (n+1) (xs++c.toList)→(W.alloc (.cells c e)).grownBy w' v.ownBlock→(v'.ownBlock=v.ownBlock∨∃g,v'.ownBlock=some g∧W.heap.size≤g)→wpList P ops Q rest (a.put o.dst v') w'):
 wpList P ops Q (o::rest) a (W.alloc (.cells c e)):=by
 obtain⟨i,hi,j2,j3,j4⟩:=info_parts hi
 have hnew:∀j u,c.toList[j]?=some u→(W.alloc (.cells c e)).cell? ((⟨W.heap.size,0,none⟩:Addr).add j)=some u:=fun j u hu=>by
  rw[addr_add,Nat.zero_add]
  have e:=heap_alloc_new W (.cells c e)
  simp only[World.cell?,e]
  simpa using hu
 have hl:c.toList.length=1*size:=by rw[Array.length_toList,hc,Nat.one_mul]
 have hbase:base≤(W.alloc (.cells c e)).heap.size:=by rw[World.size_alloc];omega
 have hrun:=run_append_own (P:=P) (W.alloc (.cells c e)) base t o.type e i z size bytes ht hi j2 j3 j4 hzs hsz v n xs (hown.alloc _) ⟨W.heap.size,0,none⟩ 1 1 c.toList hl hnew h1 hm hbytes hbase
 obtain⟨v',w',hr,h2,h3,-⟩:=hrun
 have hfr:v'.ownBlock=v.ownBlock∨∃g,v'.ownBlock=some g∧W.heap.size≤g:=by
  have hm2:n+1≤9223372036854775807:=by unfold maxLen at hm;omega
  rcases(hown.alloc (.cells c e)).2 with⟨rfl,rfl⟩|⟨g,cap,cur,rfl,-,hg,hnc,-,hcs,-⟩
  ·have hr2:=run_append_nil (P:=P) (W.alloc (.cells c e)) t o.type e i z ht hi j2 ⟨W.heap.size,0,none⟩ 1 1 c.toList (by rw[j3];exact hl) hnew (by decide) (by omega) (by rw[j4];omega)
   rw[hr]at hr2
   injection hr2 with e1 e2
   rw[e1]
   exact .inr ⟨(W.alloc (.cells c e)).heap.size,rfl,by rw[World.size_alloc];exact Nat.le_succ _⟩
  ·by_cases hroom:n+1≤cap
   ·have hr2:=run_append_room (P:=P) (W.alloc (.cells c e)) t o.type e i ht hi g n cap cur hg ⟨W.heap.size,0,none⟩ 1 1 c.toList (by rw[j3];exact hl) hnew h1 hroom (by
     rw[j3,hl,hcs,←Nat.add_mul];exact Nat.mul_le_mul_right _ hroom)
    rw[hr]at hr2
    injection hr2 with e1 e2
    rw[e1]
    exact .inl rfl
   ·have holds:∀j u,xs[j]?=some u→(W.alloc (.cells c e)).cell? ((⟨g,0,none⟩:Addr).add j)=some u:=(hown.alloc _).cells (g:=g) rfl
    have hr2:=run_append_grow (P:=P) (W.alloc (.cells c e)) t o.type e i z ht hi j2 ⟨g,0,none⟩ n cap xs (by rw[j3];exact hown.1) holds ⟨W.heap.size,0,none⟩ 1 1 c.toList (by rw[j3];exact hl) hnew (by omega) (by omega) (by rw[j4];exact growslice_fits (by omega) hbytes)
    rw[hr]at hr2
    injection hr2 with e1 e2
    rw[e1]
    exact .inr ⟨(W.alloc (.cells c e)).heap.size,rfl,by rw[World.size_alloc];exact Nat.le_succ _⟩
 refine wpList_plain hgd fun _ hK=> ?_
 unfold Oper.wp execOp
 simp only[ho,resolve,invoke,builtin,Sem.run_bind,Sem.run_pure,Result.andThen_ok,List.map_toArray,List.map_cons,List.map_nil,hs,hx,hr]
 exact hK _ _ (h v' w' h2 h3 hfr)
theorem own_ne{w:World}{base e size n b:Nat}{v:Value}{xs:List Value}{cur:Array Value}{T:TypeId}{fz:Nat×Nat}(h:w.ownsRow base e size v n xs)(hb:w.heap[b]?=some (.cells cur T fz))(hT:T≠e):v.ownBlock≠some b:=by
 intro hv
 rcases h.2 with⟨rfl,-⟩|⟨g,cap,cu,rfl,-,hg,-⟩
 ·cases hv
 ·cases hv
  rw[hb]at hg
  cases hg
  exact hT rfl
end
def strs(l:List (List UInt8)):List Value:=l.map fun x=>Value.string ⟨x.toArray⟩
theorem str_infos:(Tryz.prog.info? 9).map (fun i=>(i.zero,i.size,i.bytes))=some (some (.string ⟨#[]⟩),1,16):=by kernel_rfl
structure AddP (base b o:Nat) (pv:Value) (cur:Array Value) (L:List (List UInt8)) (w w':World) (pv':Value):Prop where
 blk:w'.heap[b]?=some (.cells (cur.setIfInBounds (o+2) pv') 116 (0,0))
 row:w'.ownsRow base 9 1 pv' L.length (strs L)
 keep:∀k,k<w.heap.size→k≠b→some k≠pv.ownBlock→w'.heap[k]?=w.heap[k]?
 os:w'.os=w.os
 tape:w'.tape=w.tape
 output:w'.output=w.output
 size:w.heap.size≤w'.heap.size
 fresh:pv'.ownBlock=pv.ownBlock∨∃g,pv'.ownBlock=some g∧w.heap.size≤g
theorem add_run (base b o:Nat) (s:ByteArray) (pv:Value) (pcs:List (List UInt8)) (cur:Array Value) (w:World) (hb:w.heap[b]?=some (.cells cur 116 (0,0))) (ho:cur[o+2]?=some pv)
 (hown:w.ownsRow base 9 1 pv pcs.length (strs pcs)) (hbase:base≤w.heap.size) (hs:s.size≤9223372036854775807) (hn:pcs.length≤1000000):
 Calls Tryz.prog 136 #[.pointer (some ⟨b,o,none⟩),.string s] w fun e w'=>e=.returned (.tuple #[])∧∃pv',AddP base b o pv cur (addPc pcs s.data.toList) w w' pv':=by
 have HT:=hid (trim_run s ⟨#[32,9]⟩ w hs (by decide) (by decide))
 have HX:Hid (addPc pcs s.data.toList=if Lib.trimS s.data.toList [32,9]=[]then pcs else pcs++[Lib.trimS s.data.toList [32,9]]):=hid rfl
 obtain⟨t,ht⟩:∃t:ByteArray,t=⟨(Lib.trimS s.data.toList [32,9]).toArray⟩:=⟨_,rfl⟩
 have ht2:t.data.toList=Lib.trimS s.data.toList [32,9]:=by rw[ht]
 have HT2:=(show Hid (Calls Tryz.prog 133 #[.string s,.string ⟨#[32,9]⟩] w fun e w'=>e=.returned (.string t)∧Bel w w')from by rw[ht];exact HT.out)
 rw[←ht2]at HX
 clear HT ht ht2
 have hbw:b<w.heap.size:=(Array.getElem?_eq_some_iff.1 hb).1
 have hol:o+2<cur.size:=(Array.getElem?_eq_some_iff.1 ho).1
 obtain⟨ax,np,cp,rfl⟩:∃ax np cp,pv=.slice ax np cp:=by
  obtain⟨x,c,e,-⟩:=row_shape hown
  exact⟨_,_,_,e⟩
 have HA:=hid (And.intro hb (And.intro ho (And.intro hown hbase)))
 clear hb ho hown hbase
 by_cases h0:t.data.toList=[]
 ·have b1:(t.toList==[])=true:=by rw[ByteArray.toList_eq,h0];rfl
  have b2:(t.toList !=[])=false:=by rw[ByteArray.toList_eq,h0];rfl
  have b3:t.toList.isEmpty=true:=by rw[ByteArray.toList_eq,h0];rfl
  have HY:=hid (show addPc pcs s.data.toList=pcs by rw[HX.out,if_pos h0])
  clear h0 HX
  go_enter Tryz.func136,Tryz.ntmps136
  go_wp2_with (first|(go_at_call 133;refine HT2.out.mono ?_;rintro e w1 ⟨rfl,hb1⟩;have HB1:=hid hb1;clear hb1))
  go_end0
  obtain⟨hb,ho,hown,hbase⟩:=HA.out
  have hB:=HB1.out
  refine⟨rfl,.slice ax np cp,⟨?_,?_,fun k hk _ _=>hB.block k hk,hB.os,hB.tape,hB.output,hB.size,.inl rfl⟩⟩
  ·rw[hB.heap hb]
   congr 2
   refine Array.ext (by simp) fun i h1 h2=> ?_
   rw[Array.getElem_setIfInBounds]
   split
   ·rename_i e
    subst e
    exact((Array.getElem?_eq_some_iff.1 ho).2)
   ·rfl
  ·rw[HY.out];exact own_bel hown hB
 ·have b1:(t.toList==[])=false:=by
   rw[ByteArray.toList_eq]
   cases h:t.data.toList with
   |nil=>exact absurd h h0
   |cons=>rfl
  have b2:(t.toList !=[])=true:=by
   rw[ByteArray.toList_eq]
   cases h:t.data.toList with
   |nil=>exact absurd h h0
   |cons=>rfl
  have b3:t.toList.isEmpty=false:=by
   rw[ByteArray.toList_eq]
   cases h:t.data.toList with
   |nil=>exact absurd h h0
   |cons=>rfl
  have HY:=hid (show addPc pcs s.data.toList=pcs++[t.data.toList] by rw[HX.out,if_neg h0])
  clear h0 HX
  go_enter Tryz.func136,Tryz.ntmps136
  go_wp2_with (first|(go_at_call 133;refine HT2.out.mono ?_;rintro e w1 ⟨rfl,hb1⟩;have HB1:=hid hb1;clear hb1;have c0:w1.cell? ⟨b,o+2,none⟩=some (.slice ax np cp):=(by rw[Lib.cell_of_heap (HB1.out.heap HA.out.1)];exact HA.out.2.1))|(at_builtin;refine wpList_push_at (W:=w1) rfl _ _ 22 rfl 9 (.string ⟨#[]⟩) 1 16 Tryz.underlying22 str_infos rfl (by decide) base (.slice ax np cp) pcs.length _ rfl (own_bel HA.out.2.2.1 HB1.out) (Nat.le_trans HA.out.2.2.2 HB1.out.size) _ rfl rfl (by intro u hu;simp at hu;rcases hu with rfl;rfl) (by unfold maxLen;omega) (by omega) ?_;intro v' w9 hown9 hg9 hf9;have H9:=hid (And.intro hown9 (And.intro hg9 hf9));obtain⟨x9,n9,p9,hv9⟩:∃x n p,v'=.slice x n p:=(by obtain⟨x,c,e,-⟩:=row_shape hown9;exact⟨_,_,_,e⟩);clear hown9 hg9 hf9;subst hv9;have e9:w9.heap[b]?=some (.cells cur 116 (0,0)):=(by rw[H9.out.2.1.block b (by rw[World.size_alloc];have:=HB1.out.size;omega) (fun e=>own_ne HA.out.2.2.1 HA.out.1 (by decide) e.symm),heap_alloc_old w1 _ (Nat.lt_of_lt_of_le hbw HB1.out.size)];exact HB1.out.heap HA.out.1);have c9:w9.cell? ⟨b,o+2,none⟩=some (.slice ax np cp):=(by rw[Lib.cell_of_heap e9];exact HA.out.2.1);have f9:w9.frozen? ⟨b,o+2,none⟩=false:=Lib.frozen_of_heap e9 (o+2)))
  go_end0
  obtain⟨hb,ho,hown,hbase⟩:=HA.out
  obtain⟨hown9,hg9,hf9⟩:=H9.out
  have hB:=HB1.out
  refine⟨rfl,.slice x9 n9 p9,⟨heap_setCell_same _ _ _ _ _ _ e9,?_,?_,?_,?_,?_,?_,?_⟩⟩
  ·rw[HY.out]
   have e:strs (pcs++[t.data.toList])=strs pcs++[.string t]:=by unfold strs;rw[List.map_append];rfl
   rw[e,List.length_append]
   have hne:=own_ne hown9 e9 (by decide)
   rcases hown9.2 with f|⟨g,cap,cu,ev,hg,hh,rest⟩
   ·exact⟨hown9.1,.inl f⟩
   ·refine⟨hown9.1,.inr ⟨g,cap,cu,ev,hg,?_,rest⟩⟩
    rw[heap_setCell_other _ _ _ _ (fun e=>hne (by rw[ev];simp[Value.ownBlock,e]))]
    exact hh
  ·intro k hk h1 h2
   rw[heap_setCell_other _ _ _ _ h1,hg9.block k (by rw[World.size_alloc];have:=hB.size;omega) h2,heap_alloc_old w1 _ (Nat.lt_of_lt_of_le hk hB.size)]
   exact hB.block k hk
  ·exact hg9.os.trans hB.os
  ·exact hg9.tape.trans hB.tape
  ·exact hg9.output.trans hB.output
  ·rw[World.size_setCell]
   have:=hg9.size
   rw[World.size_alloc]at this
   have:=hB.size
   omega
  ·rcases hf9 with f|⟨g,e,f⟩
   ·exact .inl f
   ·exact .inr ⟨g,e,Nat.le_trans hB.size f⟩
end Go.Proofs.YtmlmkmhkmifnkaaGreatDoor.Tb
namespace Go.Proofs.YtmlmkmhkmifnkaaGreatDoor.Tb
open Go.RowKit
open Ci (Bel hid own_bel row_shape own_base addr_add splitL splitL_app splitL_none)
def line1(l:List UInt8):List UInt8:=(Lib.cut l [10]).1
theorem split_cut(l:List UInt8):(10∈l∧(line1 l).length<l.length∧splitL 10 l=line1 l::splitL 10 (l.drop ((line1 l).length+1)))∨(line1 l=l∧splitL 10 l=[l]):=by
 by_cases h:(10:UInt8)∈l
 ·obtain⟨p,t,rfl,hp⟩:=List.eq_append_cons_of_mem h
  have hc:line1 (p++10::t)=p:=by
   unfold line1 Lib.cut
   rw[Ci.index_one_some 10 _ _ hp,if_pos (by omega)]
   simp
  refine .inl ⟨h,by rw[hc];simp,?_⟩
  rw[hc,splitL_app 10 p t hp]
  congr 2
  rw[show p++(10:UInt8)::t=(p++[10])++t by simp,List.drop_left' (by simp)]
 ·refine .inr ⟨?_,splitL_none 10 l h⟩
  unfold line1 Lib.cut
  rw[Ci.index_one_none 10 l h,if_neg (by decide)]
def restL(s:List UInt8)(k:Nat):List (List UInt8):=if k≤s.length then splitL 10 (s.drop k)else[]
structure CutI (s:List UInt8) (c:Cs):Prop where
 eq:cutT s=(restL s c.at_).foldl lnStep c
 le:c.at_≤s.length+1
 num:c.out.length≤c.at_
 few:∀l∈c.out,l.pcs.length≤c.at_
theorem CutI.start(s:List UInt8):CutI s ⟨0,[],badAt s⟩:=⟨by unfold restL;rw[if_pos (Nat.zero_le _),List.drop_zero];rfl,Nat.zero_le _,Nat.le_refl _,fun l hl=>by cases hl⟩
theorem out_le(at_:Nat)(out:List Ln)(s:List UInt8):(lnOut at_ out s).length≤out.length+1:=by
 unfold lnOut
 split
 ·omega
 ·split
  ·simp
  ·split
   ·omega
   ·rename_i l hl
    have:out≠[]:=by rintro rfl;cases hl
    have:=List.length_pos_iff.2 this
    simp only[List.length_append,List.length_dropLast,List.length_cons,List.length_nil];omega
theorem addPc_le(p:List (List UInt8))(s:List UInt8):(addPc p s).length≤p.length+1:=by
 unfold addPc
 split
 ·omega
 ·simp
theorem out_few{m at_:Nat}{out:List Ln}(h:∀l∈out,l.pcs.length≤m)(s:List UInt8):∀l∈lnOut at_ out s,l.pcs.length≤m+1:=by
 intro l hl
 unfold lnOut at hl
 split at hl
 ·have:=h l hl;omega
 ·split at hl
  ·rcases List.mem_append.1 hl with hl|hl
   ·have:=h l hl;omega
   ·rw[List.mem_singleton.1 hl]
    have:=addPc_le [] (s.drop (keyN s))
    simp at this⊢;omega
  ·split at hl
   ·have:=h l hl;omega
   ·rename_i x hx
    rcases List.mem_append.1 hl with hl|hl
    ·have:=h l (List.dropLast_subset _ hl);omega
    ·rw[List.mem_singleton.1 hl]
     have:=h x (List.mem_of_getLast? hx)
     have:=addPc_le x.pcs s
     show(addPc x.pcs s).length≤_
     omega
theorem CutI.step{s:List UInt8}{c:Cs}(h:CutI s c)(hlt:c.at_<s.length):CutI s (lnStep c (line1 (s.drop c.at_))):=by
 have hr:restL s c.at_=line1 (s.drop c.at_)::restL s (c.at_+(line1 (s.drop c.at_)).length+1)∧c.at_+(line1 (s.drop c.at_)).length+1≤s.length+1:=by
  unfold restL
  rw[if_pos (by omega)]
  rcases split_cut (s.drop c.at_)with⟨-,h1,h2⟩|⟨h1,h2⟩
  ·rw[List.length_drop]at h1
   rw[if_pos (by omega),h2,List.drop_drop]
   exact⟨by rw[Nat.add_assoc],by omega⟩
  ·rw[h2,h1,List.length_drop,if_neg (by omega)]
   exact⟨rfl,by omega⟩
 refine⟨?_,hr.2,?_,?_⟩
 ·rw[h.eq,hr.1,List.foldl_cons];rfl
 ·have:=out_le c.at_ c.out (line1 (s.drop c.at_))
  have:=h.num
  show(lnOut _ _ _).length≤c.at_+_+1
  omega
 ·intro l hl
  have:=out_few h.few (line1 (s.drop c.at_)) l hl
  show _≤c.at_+_+1
  omega
theorem CutI.done{s:List UInt8}{c:Cs}(h:CutI s c)(hge:s.length≤c.at_):(cutT s).out=c.out∧(cutT s).bad=c.bad:=by
 rw[h.eq]
 unfold restL
 by_cases he:c.at_≤s.length
 ·rw[if_pos he,List.drop_eq_nil_of_le hge]
  exact⟨rfl,rfl⟩
 ·rw[if_neg he]
  exact⟨rfl,rfl⟩
def lnC(x:Ln×Value):List Value:=[.int .i64 x.1.at_,.string ⟨x.1.key.toArray⟩,x.2]
def lnCs(M:List (Ln×Value)):List Value:=M.flatMap lnC
theorem lnCs_len:∀M:List (Ln×Value),(lnCs M).length=M.length*3
 |[]=>rfl
 |x::M=>by
  show(lnC x++lnCs M).length=_
  rw[List.length_append,lnCs_len M,List.length_cons]
  show 3+_=_
  omega
theorem lnCs_snoc(M:List (Ln×Value))(x:Ln×Value):lnCs (M++[x])=lnCs M++lnC x:=by unfold lnCs;rw[List.flatMap_append];simp
structure LnM (w0 W:World) (v:Value) (M:List (Ln×Value)):Prop where
 row:W.ownsRow w0.heap.size 116 3 v M.length (lnCs M)
 pcs:∀x∈M,W.ownsRow w0.heap.size 9 1 x.2 x.1.pcs.length (strs x.1.pcs)
 apart:M.Pairwise fun x y=>x.2.ownBlock=none∨x.2.ownBlock≠y.2.ownBlock
theorem LnM.next{w0 W W':World}{v:Value}{M:List (Ln×Value)}(h:LnM w0 W v M)(hb:Bel W W'):LnM w0 W' v M:=⟨own_bel h.row hb,fun x hx=>own_bel (h.pcs x hx) hb,h.apart⟩
theorem lnM_nil(w0 W:World):LnM w0 W (.slice none 0 0) []:=⟨World.ownsRow_nil _ _ _ _,fun x hx=>(by cases hx),.nil⟩
theorem own_keep{W W':World}{base e size n:Nat}{v:Value}{xs:List Value}(h:W.ownsRow base e size v n xs)(hk:∀g,v.ownBlock=some g→W'.heap[g]?=W.heap[g]?):W'.ownsRow base e size v n xs:=by
 refine⟨h.1,?_⟩
 rcases h.2 with f|⟨g,cap,cur,rfl,hg,hh,rest⟩
 ·exact .inl f
 ·exact .inr ⟨g,cap,cur,rfl,hg,(hk g rfl).trans hh,rest⟩
theorem own_lt{W:World}{base e size n:Nat}{v:Value}{xs:List Value}(h:W.ownsRow base e size v n xs){g:Nat}(hg:v.ownBlock=some g):base≤g∧g<W.heap.size:=h.lt g hg
theorem AddP.bel{w0 w w':World}{b o:Nat}{pv pv':Value}{cur:Array Value}{L L0:List (List UInt8)}(h:AddP w0.heap.size b o pv cur L w w' pv')(hB:Bel w0 w)(hb:w0.heap.size≤b)(hown:w.ownsRow w0.heap.size 9 1 pv L0.length (strs L0)):Bel w0 w':=
 ⟨h.os.trans hB.os,h.tape.trans hB.tape,h.output.trans hB.output,Nat.le_trans hB.size h.size,fun k hk=>(h.keep k (Nat.lt_of_lt_of_le hk hB.size) (by omega) (fun e=>by have:=own_lt hown e.symm;omega)).trans (hB.block k hk)⟩
theorem LnM.row_add{w0 W W1 W2:World}{v:Value}{M:List (Ln×Value)}{pv':Value}{L:List (List UInt8)}{cur:Array Value}{o:Obj}(h:LnM w0 W v M)(hb:Bel W W1)(hA:AddP w0.heap.size W1.heap.size 0 (.slice none 0 0) cur L (W1.alloc o) W2 pv'):
 W2.ownsRow w0.heap.size 116 3 v M.length (lnCs M):=
 own_keep h.row fun g hg=>by
  have hlt:=(own_lt h.row hg).2
  have:=hb.size
  rw[hA.keep g (by rw[World.size_alloc];omega) (by omega) (by simp[Value.ownBlock]),heap_alloc_old W1 _ (by omega)]
  exact hb.block g hlt
theorem LnM.push {w0 W W1 W2:World} {v v':Value} {M:List (Ln×Value)} {at_:Nat} {key:List UInt8} {lb:Nat} {pv':Value} {L:List (List UInt8)} {cur:Array Value} {o:Obj} {v0:Value} (h:LnM w0 W v M)
 (hb:Bel W W1) (hlb:W.heap.size≤lb) (hA:AddP w0.heap.size lb 0 v0 cur L W1 W2 pv') (hv0:v0.ownBlock=none) {W3:World} (hg:(W2.alloc o).grownBy W3 v.ownBlock)
 (hrow:W3.ownsRow w0.heap.size 116 3 v' (M.length+1) (lnCs M++lnC (⟨at_,key,L⟩,pv'))):LnM w0 W3 v' (M++[(⟨at_,key,L⟩,pv')]):=by
 have hkeep:∀k,k<W.heap.size→W2.heap[k]?=W.heap[k]?:=fun k hk=>(hA.keep k (Nat.lt_of_lt_of_le hk hb.size) (by omega) (by rw[hv0];simp)).trans (hb.block k hk)
 have hsz:W.heap.size≤W2.heap.size:=Nat.le_trans hb.size hA.size
 have hk3:∀k,k<W2.heap.size→some k≠v.ownBlock→W3.heap[k]?=W2.heap[k]?:=fun k hk hne=>(hg.block k (by rw[World.size_alloc];omega) hne).trans (heap_alloc_old W2 _ hk)
 have hvT:∀(y:Value) (n:Nat) (xs:List Value),W2.ownsRow w0.heap.size 9 1 y n xs→∀g,y.ownBlock=some g→some g≠v.ownBlock:=fun y n xs hy g hgy e=>by
  rcases h.row.2 with⟨rfl,-⟩|⟨g2,cap,cu,rfl,-,hh,-⟩
  ·cases e
  ·cases e
   have hg2:=(Array.getElem?_eq_some_iff.1 hh).1
   exact own_ne hy ((hkeep g2 hg2).trans hh) (by decide) hgy
 refine⟨?_,?_,?_⟩
 ·rw[List.length_append,lnCs_snoc];exact hrow
 ·intro x hx
  rcases List.mem_append.1 hx with hx|hx
  ·have h2:=own_keep (h.pcs x hx) fun g hg'=>hkeep g (own_lt (h.pcs x hx) hg').2
   exact own_keep h2 fun g hg'=>hk3 g (own_lt h2 hg').2 (hvT _ _ _ h2 g hg')
  ·rw[List.mem_singleton.1 hx]
   exact own_keep hA.row fun g hg'=>hk3 g (own_lt hA.row hg').2 (hvT _ _ _ hA.row g hg')
 ·rw[List.pairwise_append]
  refine⟨h.apart,List.pairwise_singleton ..,fun x hx y hy=> ?_⟩
  rw[List.mem_singleton.1 hy]
  cases hxb:x.2.ownBlock with
  |none=>exact .inl rfl
  |some g=>
   refine .inr fun e=> ?_
   have hlt:=(own_lt (h.pcs x hx) hxb).2
   rcases hA.fresh with f|⟨g2,f,hg2⟩
   ·have e2:some g=pv'.ownBlock:=e
    rw[f,hv0]at e2
    cases e2
   ·have e2:some g=pv'.ownBlock:=e
    rw[f]at e2
    cases e2
    have:=hb.size
    omega
theorem LnM.more {w0 W W2:World} {g cap:Nat} {cur:Array Value} {M:List (Ln×Value)} {l:Ln} {pv pv':Value} {L:List (List UInt8)} (h:LnM w0 W (.slice (some ⟨g,0,none⟩) (M.length+1) cap) (M++[(l,pv)]))
 (hg:W.heap[g]?=some (.cells cur 116 (0,0))) (hA:AddP w0.heap.size g (M.length*3) pv cur L W W2 pv'):LnM w0 W2 (.slice (some ⟨g,0,none⟩) (M.length+1) cap) (M++[(⟨l.at_,l.key,L⟩,pv')]):=by
 have hpv:=h.pcs (l,pv) (by simp)
 have hap:∀x∈M,x.2.ownBlock=none∨x.2.ownBlock≠pv.ownBlock:=fun x hx=>(List.pairwise_append.1 h.apart).2.2 x hx _ (List.mem_singleton.2 rfl)
 have hlen:(M++[(l,pv)]).length=M.length+1:=by simp
 have hrow:=h.row
 rw[hlen]at hrow
 rcases hrow.2 with⟨e,-⟩|⟨g2,cap2,cu,e,hbg,hh,hnc,hcm,hcs,htk⟩
 ·cases e
 cases e
 rw[hg]at hh
 cases hh
 have hne:∀(y:Value) (n:Nat) (xs:List Value),W.ownsRow w0.heap.size 9 1 y n xs→∀k,y.ownBlock=some k→k≠g:=fun y n xs hy k hk e=>own_ne hy hg (by decide) (by rw[hk,e])
 refine⟨?_,?_,?_⟩
 ·rw[show(M++[((⟨l.at_,l.key,L⟩:Ln),pv')]).length=M.length+1 by simp]
  refine⟨by rw[lnCs_len];simp,.inr ⟨g,cap,_,rfl,hbg,hA.blk,hnc,hcm,by rw[Array.size_setIfInBounds];exact hcs,?_⟩⟩
  rw[Array.toList_setIfInBounds,List.take_set,htk,lnCs_snoc,lnCs_snoc,List.set_append_right _ _ (by rw[lnCs_len];omega),lnCs_len]
  rw[show M.length*3+2-M.length*3=2 by omega]
  rfl
 ·intro x hx
  rcases List.mem_append.1 hx with hx|hx
  ·have hx0:=h.pcs x (List.mem_append_left _ hx)
   refine own_keep hx0 fun k hk=>hA.keep k (own_lt hx0 hk).2 (hne _ _ _ hx0 k hk) fun e=> ?_
   rcases hap x hx with f|f
   ·rw[f]at hk;cases hk
   ·exact f (by rw[hk,e])
  ·rw[List.mem_singleton.1 hx];exact hA.row
 ·rw[List.pairwise_append]
  refine⟨(List.pairwise_append.1 h.apart).1,List.pairwise_singleton ..,fun x hx y hy=> ?_⟩
  rw[List.mem_singleton.1 hy]
  show x.2.ownBlock=none∨x.2.ownBlock≠pv'.ownBlock
  rcases hA.fresh with f|⟨g3,f,hg3⟩
  ·rw[f];exact hap x hx
  ·cases hxb:x.2.ownBlock with
   |none=>exact .inl rfl
   |some k=>
    refine .inr fun e=> ?_
    rw[f]at e
    cases e
    have:=(own_lt (h.pcs x (List.mem_append_left _ hx)) hxb).2
    omega
end Go.Proofs.YtmlmkmhkmifnkaaGreatDoor.Tb