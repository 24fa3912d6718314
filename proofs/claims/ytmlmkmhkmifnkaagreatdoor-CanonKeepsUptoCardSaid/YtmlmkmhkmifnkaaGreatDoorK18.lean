import Derived.Test.YtmlmkmhkmifnkaaGreatDoorK17
import Derived.Shelf.Abstract
import Derived.RangeFuncNested
import Derived.RangeFuncBound
import Derived.RangeFuncCalls
import Derived.RangeFuncLeaves
import Derived.OwnWalkIn
import Derived.TacticsInMore
import Derived.LoopNIn
import Derived.LoopIn
set_option maxHeartbeats 16000000
set_option maxRecDepth 1000000
namespace Go.Proofs.YtmlmkmhkmifnkaaGreatDoor.Tb
open Go.RowKit
open Ma (Pt domainQ rightP mbQ zeroP)
def valueC(v:List UInt8):Pt×Bool×Bool:=
 if v.head?=some 64 then(⟨false,[],(domainQ (v.drop 1)).1,false⟩,true,decide ((domainQ (v.drop 1)).2.2=0)&& !(domainQ (v.drop 1)).2.1)
 else((mbQ v).1,false,decide ((mbQ v).2=0)&&(!(mbQ v).1.null&& !(mbQ v).1.dom.isEmpty))
def valsC(es:List En):Bool:=es.all fun e=>(valueC e.val).2.2
def newT:List (List UInt8)→List (List En)→Option (List (List En))
 |[],acc=>some acc
 |t::r,acc=>match tparse t with
  |none=>none
  |some es=>if valsC es then newT r (acc++[es])else none
def hostC(h:List UInt8):Bool:=decide ((domainQ h).2.2=0)&&(!(domainQ h).2.1&&decide ((domainQ h).1=h))
def newC(h:List UInt8)(L:List (List UInt8)):Except Int (List (List En)):=
 if !hostC h||decide (8<L.length)then .error 1 else match newT L []with
 |none=>.error 150
 |some ts=>.ok ts
def domC(h:List UInt8)(p:Pt):Pt:=if p.dom=[]then⟨p.null,p.loc,h,p.lit⟩else p
def toC(v:List UInt8)(q:Pt):Pt:=if(valueC v).2.1 then⟨(valueC v).1.null,q.loc,(valueC v).1.dom,(valueC v).1.lit⟩else(valueC v).1
def askC(ts:List (List En))(q:Pt):Pt:=match askQ ts q.loc q.dom with
 |none=>q
 |some v=>toC v q
def pathC(h:List UInt8)(ts:List (List En))(p:Pt):Pt:=
 if rightP p≠0∨p.null=true∨p.lit=true then p else
 if rightP (askC ts (domC h p))≠0 then p else askC ts (domC h p)
theorem newT_vals:∀(L:List (List UInt8)) (acc ts:List (List En)),newT L acc=some ts→(∀es∈acc,valsC es=true)→∀es∈ts,valsC es=true
 |[],acc,ts,h,ha=>by cases h;exact ha
 |t::r,acc,ts,h,ha=>by
  unfold newT at h
  split at h
  ·cases h
  ·rename_i es he
   split at h
   ·rename_i hv
    refine newT_vals r _ ts h fun x hx=> ?_
    rcases List.mem_append.1 hx with hx|hx
    ·exact ha x hx
    ·rw[List.mem_singleton.1 hx];exact hv
   ·cases h
theorem exactC_in{es:List En}{k v:List UInt8}(h:exactQ es k=some v):∃e∈es,e.val=v:=by
 unfold exactQ at h
 split at h
 ·obtain⟨e,h1,rfl⟩:=Option.map_eq_some_iff.1 h
  exact⟨e,List.mem_of_getElem? h1,rfl⟩
 ·cases h
theorem askC_in{ts:List (List En)}{l d v:List UInt8}(h:askQ ts l d=some v):∃es∈ts,∃e∈es,e.val=v:=by
 unfold askQ at h
 obtain⟨es,h1,h2⟩:=List.exists_of_findSome?_eq_some h
 refine⟨es,h1,?_⟩
 unfold addrQ at h2
 split at h2
 ·rename_i v' h3
  cases h2
  exact exactC_in h3
 ·exact exactC_in h2
theorem ask_ok{ts:List (List En)}(hv:∀es∈ts,valsC es=true){l d v:List UInt8}(h:askQ ts l d=some v):(valueC v).2.2=true:=by
 obtain⟨es,h1,e,h2,rfl⟩:=askC_in h
 have:=hv es h1
 unfold valsC at this
 rw[List.all_eq_true]at this
 exact this e h2
end Go.Proofs.YtmlmkmhkmifnkaaGreatDoor.Tb
namespace Go.Proofs.YtmlmkmhkmifnkaaGreatDoor.Tb
open Go.RowKit
open Ci (Bel hid)
structure Ens (W:World) (x:Option Addr) (es:List En):Prop where
 at_:es=[]∨∃b o,x=some ⟨b,o,none⟩∧b<W.heap.size∧∀k (hk:k<es.length),W.cell? ⟨b,o+k*2,none⟩=some (.string ⟨es[k].key.toArray⟩)∧W.cell? ⟨b,o+k*2+1,none⟩=some (.string ⟨es[k].val.toArray⟩)
 ty:es=[]∨∃b o cur,x=some ⟨b,o,none⟩∧W.heap[b]?=some (.cells cur 122 (0,0))
theorem bel_cell{a w:World}(h:Bel a w){b o:Nat}(hb:b<a.heap.size):w.cell? ⟨b,o,none⟩=a.cell? ⟨b,o,none⟩:=Below.cell h hb
theorem Ens.next{W W':World}{x:Option Addr}{es:List En}(h:Ens W x es)(hb:Bel W W'):Ens W' x es:=by
 refine⟨?_,h.ty.imp id fun⟨b,o,cur,e,f⟩=>⟨b,o,cur,e,hb.heap f⟩⟩
 rcases h.at_ with f|⟨b,o,e,hs,f⟩
 ·exact .inl f
 ·exact .inr ⟨b,o,e,Nat.lt_of_lt_of_le hs hb.size,fun k hk=>⟨(bel_cell hb hs).trans (f k hk).1,(bel_cell hb hs).trans (f k hk).2⟩⟩
theorem Ens.place{W:World}{x:Option Addr}{es:List En}(h:Ens W x es){k:Nat}(hk:k<es.length):∃b o,x=some ⟨b,o,none⟩∧W.cell? ⟨b,o+k*2,none⟩=some (.string ⟨es[k].key.toArray⟩)∧W.cell? ⟨b,o+k*2+1,none⟩=some (.string ⟨es[k].val.toArray⟩):=by
 rcases h.at_ with f|⟨b,o,e,-,f⟩
 ·rw[f]at hk;cases hk
 ·exact⟨b,o,e,f k hk⟩
theorem cmp_run(a v k:ByteArray)(w:World):Calls Tryz.prog 138 #[.agg #[.string a,.string v],.string k] w fun e w'=>e=.returned (.int .i64 (Lib.compareBytes a.data.toList k.data.toList))∧Bel w w':=by
 have HC:=(show Hid (∀W,Calls Tryz.prog 139 #[.string a,.string k] W fun e w'=>e=.returned (.int .i64 (Lib.compareBytes a.data.toList k.data.toList))∧w'=W)from fun W=>Tryz.strings_Compare a k W)
 have HB:=hid ((Bel.refl w).alloc (.cells #[.string a,.string v] 122))
 generalize Lib.compareBytes a.data.toList k.data.toList=r at HC⊢
 go_enter Tryz.func138,Tryz.ntmps138
 go_wp2_with (first|(go_at_call 139;refine(HC.out _).mono ?_;rintro e w1 ⟨rfl,rfl⟩))
 go_ret
 exact⟨rfl,HB.out⟩
theorem srt_lt:∀{es:List En},Srt es→∀(i j:Nat) (hi:i<es.length) (hj:j<es.length),i<j→ltK es[i].key es[j].key=true
 |[],_,_,_,hi,_,_=>by cases hi
 |e::es,h,0,j+1,_,hj,_=>h.1 _ (List.getElem_mem _)
 |e::es,h,i+1,j+1,hi,hj,hij=>srt_lt h.2 i j (by simpa using hi) (by simpa using hj) (by omega)
theorem rank_eq{es:List En}{k:List UInt8}{lo:Nat}(hl:lo≤es.length)(h1:∀t (ht:t<es.length),t<lo→ltK es[t].key k=true)(h2:∀t (ht:t<es.length),lo≤t→ltK es[t].key k=false):rank es k=lo:=by
 have e:es=es.take lo++es.drop lo:=(List.take_append_drop lo es).symm
 have a:(es.take lo).countP (fun e=>ltK e.key k)=lo:=by
  rw[List.countP_eq_length.2 fun x hx=> ?_,List.length_take]
  ·omega
  ·obtain⟨t,ht,rfl⟩:=List.getElem_of_mem hx
   rw[List.length_take]at ht
   rw[List.getElem_take]
   exact h1 t (by omega) (by omega)
 have b:(es.drop lo).countP (fun e=>ltK e.key k)=0:=by
  rw[List.countP_eq_zero]
  intro x hx
  obtain⟨t,ht,rfl⟩:=List.getElem_of_mem hx
  rw[List.length_drop]at ht
  rw[List.getElem_drop]
  rw[h2 (lo+t) (by omega) (by omega)];simp
 unfold rank
 rw[e,List.countP_append,a,b]
 rfl
structure BsI (es:List En) (k:List UInt8) (lo hi:Nat):Prop where
 le:lo≤hi
 hle:hi≤es.length
 low:∀t (ht:t<es.length),t<lo→ltK es[t].key k=true
 high:∀t (ht:t<es.length),hi≤t→ltK es[t].key k=false
theorem BsI.up{es:List En}{k:List UInt8}{lo hi m:Nat}(h:BsI es k lo hi)(hs:Srt es)(hm:m<hi)(hm2:lo≤m)(hlt:ltK (es[m]'(Nat.lt_of_lt_of_le hm h.hle)).key k=true):BsI es k (m+1) hi:=
 ⟨hm,h.hle,fun t ht htm=>by
  by_cases e:t=m
  ·subst e;exact hlt
  ·exact lt_trans (srt_lt hs t m ht _ (by omega)) hlt,h.high⟩
theorem BsI.down{es:List En}{k:List UInt8}{lo hi m:Nat}(h:BsI es k lo hi)(hs:Srt es)(hm:m<hi)(hm2:lo≤m)(hlt:ltK (es[m]'(Nat.lt_of_lt_of_le hm h.hle)).key k=false):BsI es k lo m:=
 ⟨hm2,Nat.le_trans (Nat.le_of_lt hm) h.hle,h.low,fun t ht htm=>by
  by_cases e:t=m
  ·subst e;exact hlt
  ·cases hc:ltK es[t].key k with
   |false=>rfl
   |true=>rw[lt_trans (srt_lt hs m t _ ht (by omega)) hc]at hlt;cases hlt⟩
theorem found_at{es:List En}{k:List UInt8}{i:Nat}(hr:rank es k=i)(hi:i<es.length):foundB es k=decide (Lib.compareBytes es[i].key k=0):=by
 unfold foundB
 rw[hr,List.getElem?_eq_getElem hi]
theorem found_no{es:List En}{k:List UInt8}(hr:rank es k=es.length):foundB es k=false:=by
 unfold foundB
 rw[hr,List.getElem?_eq_none (Nat.le_refl _)]
theorem bs_run(x:Option Addr)(es:List En)(c:Nat)(key:ByteArray)(w:World)(hE:Ens w x es)(hs:Srt es)(hn:es.length<4611686018427387904):
 Calls Tryz.prog 137 #[.slice x es.length c,.string key,.func (.func 138) #[] #[]] w fun e w'=>
  e=.returned (.tuple #[.int .i64 (rank es key.data.toList:Nat),.bool (foundB es key.data.toList)])∧Bel w w':=by
 have HE:=hid hE
 have HS:=hid hs
 have eg:∀args w,(callFunc 138 args).run Tryz.prog w=.ok (.enter 138 args) w:=enters_of Tryz.func138 (by kernel_rfl) rfl
 have H0:=hid (show BsI es key.data.toList 0 es.length from⟨Nat.zero_le _,Nat.le_refl _,fun t _ h=>absurd h (Nat.not_lt_zero _),fun t ht h=>by omega⟩)
 clear hE hs
 go_enter Tryz.func137,Tryz.ntmps137
 go_wp2_with fail
 go_loopg [9,10] es.length (fun gg v9 v10 wr=>∃lo hi:Nat,v9=.int .i64 lo∧v10=.int .i64 hi∧hi≤lo+gg∧Hid (BsI es key.data.toList lo hi)∧Hid (Bel w wr))
 case atStart=>exact⟨0,es.length,rfl,rfl,by omega,H0.out,hid (Bel.refl w)⟩
 case round=>
  clear H0
  obtain⟨lo,hi,rfl,rfl,hg,HI,HB⟩:=hrel
  have Hg:=hid hg
  have hle:=HI.out.le
  have hhle:=HI.out.hle
  clear hg
  by_cases hlt:lo<hi
  ·have hm:(lo+hi)/2<es.length:=by omega
   obtain⟨b,o,rfl,c0,c1⟩:=(HE.out.next HB.out).place hm
   have HM:=(show Hid (∀W,Calls Tryz.prog 138 #[.agg #[.string ⟨es[(lo+hi)/2].key.toArray⟩,.string ⟨es[(lo+hi)/2].val.toArray⟩],.string key] W fun e w'=>e=.returned (.int .i64 (Lib.compareBytes es[(lo+hi)/2].key key.data.toList))∧Bel W w')from fun W=>cmp_run ⟨es[(lo+hi)/2].key.toArray⟩ ⟨es[(lo+hi)/2].val.toArray⟩ key W)
   cases hk:ltK es[(lo+hi)/2].key key.data.toList with
   |true=>
    have HU:=hid (HI.out.up HS.out (by omega:(lo+hi)/2<hi) (by omega) hk)
    have b0:decide (Lib.compareBytes es[(lo+hi)/2].key key.data.toList<0)=true:=hk
    generalize es[(lo+hi)/2]=y at c0 c1 HM b0
    generalize Lib.compareBytes y.key key.data.toList=r at HM b0
    clear hk HI
    go_wp2_with (first|(go_at_fn 138;refine(HM.out _).mono ?_;rintro e w2 ⟨rfl,hb2⟩))
    go_roundg (gk-1)
    case measure=>have:=Hg.out;omega
    case rel=>exact⟨(lo+hi)/2+1,hi,by rw[show((lo:Int)+(hi:Int))/2+1=(((lo+hi)/2+1:Nat):Int) by omega],rfl,by have:=Hg.out;omega,HU,hid (HB.out.trans hb2)⟩
   |false=>
    have HU:=hid (HI.out.down HS.out (by omega:(lo+hi)/2<hi) (by omega) hk)
    have b0:decide (Lib.compareBytes es[(lo+hi)/2].key key.data.toList<0)=false:=hk
    generalize es[(lo+hi)/2]=y at c0 c1 HM b0
    generalize Lib.compareBytes y.key key.data.toList=r at HM b0
    clear hk HI
    go_wp2_with (first|(go_at_fn 138;refine(HM.out _).mono ?_;rintro e w2 ⟨rfl,hb2⟩))
    go_roundg (gk-1)
    case measure=>have:=Hg.out;omega
    case rel=>exact⟨lo,(lo+hi)/2,rfl,by rw[show((lo:Int)+(hi:Int))/2=(((lo+hi)/2:Nat):Int) by omega],by have:=Hg.out;omega,HU,hid (HB.out.trans hb2)⟩
  ·obtain rfl:hi=lo:=by omega
   have HR:=hid (rank_eq hhle HI.out.low HI.out.high)
   by_cases hlast:hi<es.length
   ·obtain⟨b,o,rfl,c0,c1⟩:=(HE.out.next HB.out).place hlast
    have HM:=(show Hid (∀W,Calls Tryz.prog 138 #[.agg #[.string ⟨es[hi].key.toArray⟩,.string ⟨es[hi].val.toArray⟩],.string key] W fun e w'=>e=.returned (.int .i64 (Lib.compareBytes es[hi].key key.data.toList))∧Bel W w')from fun W=>cmp_run ⟨es[hi].key.toArray⟩ ⟨es[hi].val.toArray⟩ key W)
    have HF:=hid (found_at HR.out hlast)
    generalize es[hi]=y at c0 c1 HM HF
    generalize Lib.compareBytes y.key key.data.toList=r at HM HF
    go_wp2_with (first|(go_at_fn 138;refine(HM.out _).mono ?_;rintro e w2 ⟨rfl,hb2⟩))
    go_ret2
    exact⟨by rw[HR.out,HF.out];rfl,HB.out.trans hb2⟩
   ·obtain rfl:hi=es.length:=by omega
    have HF:=hid (found_no HR.out)
    go_wp2_with fail
    go_ret2
    exact⟨by rw[HR.out,HF.out];rfl,HB.out⟩
structure TabAt (W:World) (a:Option Addr) (es:List En):Prop where
 at_:∃b x c,a=some ⟨b,0,none⟩∧W.heap[b]?=some (.cells #[.slice x es.length c] 112 (0,0))∧Ens W x es
 srt:Srt es
 num:es.length≤2000
theorem TabAt.next{W W':World}{a:Option Addr}{es:List En}(h:TabAt W a es)(hb:Bel W W'):TabAt W' a es:=by
 obtain⟨b,x,c,e,h1,h2⟩:=h.at_
 exact⟨⟨b,x,c,e,hb.heap h1,h2.next hb⟩,h.srt,h.num⟩
theorem place_run(b:Nat)(x:Option Addr)(es:List En)(c:Nat)(key:ByteArray)(w:World)(hb:w.heap[b]?=some (.cells #[.slice x es.length c] 112 (0,0)))(hE:Ens w x es)(hs:Srt es)(hn:es.length<4611686018427387904):
 Calls Tryz.prog 69 #[.pointer (some ⟨b,0,none⟩),.string key] w fun e w'=>e=.returned (.tuple #[.int .i64 (rank es key.data.toList:Nat),.bool (foundB es key.data.toList)])∧Bel w w':=by
 have HM:=hid (bs_run x es c key w hE hs hn)
 have c0:w.cell? ⟨b,0,none⟩=some (.slice x es.length c):=by rw[Lib.cell_of_heap hb];rfl
 clear hE hs hb
 generalize rank es key.data.toList=r at HM⊢
 generalize foundB es key.data.toList=f at HM⊢
 generalize es.length=n at HM c0
 go_enter Tryz.func69,Tryz.ntmps69
 go_wp2_with (first|(go_at_call 137;refine HM.out.mono ?_;rintro e w1 ⟨rfl,hb1⟩))
 go_ret2
 exact⟨rfl,hb1⟩
end Go.Proofs.YtmlmkmhkmifnkaaGreatDoor.Tb
namespace Go.Proofs.YtmlmkmhkmifnkaaGreatDoor.Tb
open Go.RowKit
open Ci (Bel Lay hid own_bel row_shape addr_add own_base trim_run)
structure Lat (w:World):Prop where
 lay:Lay w
 size:8<w.heap.size
 tabs:∀w',Bel w w'→Lib.Utf8Tabs 2 3 w'
theorem Lat.next{a w:World}(h:Lat a)(hx:Bel a w):Lat w:=⟨h.lay.next hx,Nat.le_trans h.size hx.size,fun w' hw=>h.tabs w' (hx.trans hw)⟩
theorem low1_run(x:Nat)(hx:x≤1114111)(w:World):Calls Tryz.prog 214 #[.int .i32 (x:Int)] w fun e w'=>e=.returned (.int .i32 (lowI x))∧Bel w w':=by
 by_cases h1:65≤x
 ·have b1:decide ((65:Int)≤(x:Int))=true:=decide_eq_true (by omega)
  by_cases h2:x≤90
  ·have b2:decide ((x:Int)≤90)=true:=decide_eq_true (by omega)
   have HX:=hid (show lowI x=(x:Int)+32 by unfold lowI;rw[if_pos (by omega)])
   go_enter Tryz.func214,Tryz.ntmps214
   go_wp2_with fail
   go_ret
   exact⟨by rw[HX.out];rfl,Bel.refl w⟩
  ·have b2:decide ((x:Int)≤90)=false:=decide_eq_false (by omega)
   have HX:=hid (show lowI x=(x:Int) by unfold lowI;rw[if_neg (by omega)])
   go_enter Tryz.func214,Tryz.ntmps214
   go_wp2_with fail
   go_ret
   exact⟨by rw[HX.out];rfl,Bel.refl w⟩
 ·have b1:decide ((65:Int)≤(x:Int))=false:=decide_eq_false (by omega)
  have HX:=hid (show lowI x=(x:Int) by unfold lowI;rw[if_neg (by omega)])
  go_enter Tryz.func214,Tryz.ntmps214
  go_wp2_with fail
  go_ret
  exact⟨by rw[HX.out];rfl,Bel.refl w⟩
theorem map_run(s:ByteArray)(w:World)(hw:Lat w)(hs:s.size<35184372088832):
 Calls Tryz.prog 77 #[.func (.func 214) #[] #[],.string s] w fun e w'=>e=.returned (.string ⟨(lowR s.data.toList).toArray⟩)∧Bel w w':=
 Any.strings_Map_grows Tryz.lays230 Tryz.Builder_Extra_230 214 #[] (enters_of Tryz.func214 (by kernel_rfl) rfl) lowI s w hs (fun W x hx _=>by
  change Calls Tryz.prog 214 #[.int .i32 (x:Int)] W _
  exact low1_run x hx W) (fun x hx=>by unfold lowI;split<;>omega) (hw.tabs w (Bel.refl w))
theorem tlower_run(s:ByteArray)(w:World)(hw:Lat w)(hs:s.size<35184372088832):
 Calls Tryz.prog 135 #[.string s] w fun e w'=>e=.returned (.string ⟨(lowR s.data.toList).toArray⟩)∧Bel w w':=by
 have HM:=hid (map_run s w hw hs)
 clear hw
 generalize lowR s.data.toList=r at HM⊢
 go_enter Tryz.func135,Tryz.ntmps135
 go_wp2_with (first|(go_at_call 77;refine HM.out.mono ?_;rintro e w1 ⟨rfl,hb1⟩))
 go_ret
 exact⟨rfl,hb1⟩
def badR(x:Nat):Bool:=x !=9&&x !=10&&(decide (x<32)||decide (126<x))
def badI(s:List UInt8)(pos:Nat):Int:=match s.findIdx? badB with
 |some k=>pos+k
 |none=> -1
theorem badR_byte(b:UInt8):badR b.toNat=badB b:=by
 revert b
 exact Ma.u8_forall (by decide)
theorem badI_cons(b:UInt8)(l:List UInt8)(pos:Nat):badI (b::l) pos=if badB b then(pos:Int)else badI l (pos+1):=by
 unfold badI
 rw[List.findIdx?_cons]
 cases hb:badB b with
 |true=>simp
 |false=>
  simp only[Bool.false_eq_true,if_false]
  cases h:l.findIdx? badB with
  |none=>rfl
  |some k=>simp;omega
theorem idx_bad(s:ByteArray):∀(f pos:Nat),pos≤s.size→s.size-pos≤f→Lib.idxFuncFrom badR true s f pos=badI (s.data.toList.drop pos) pos
 |0,pos,h1,h2=>by
  have:=Lib.size_eq s
  rw[List.drop_eq_nil_of_le (by omega)]
  rfl
 |f+1,pos,h1,h2=>by
  have hsz:=Lib.size_eq s
  by_cases hp:pos<s.size
  ·unfold Lib.idxFuncFrom
   rw[if_pos hp,List.drop_eq_getElem_cons (by omega:pos<s.data.toList.length),badI_cons]
   have hg:s.get! pos=s.data.toList[pos]'(by omega):=by
    rw[Ci.get_at,List.getD_eq_getElem?_getD,List.getElem?_eq_getElem (by omega)]
    rfl
   rw[←hg]
   have hd:=Lib.decode_at s pos
   by_cases hb:(s.get! pos).toNat<128
   ·have e:Utf8.decode s pos=((s.get! pos).toNat,1):=by
     rw[hd];unfold Lib.decodeN;rw[if_pos hb]
    have ih:=idx_bad s f (pos+1) (by omega) (by omega)
    rw[e]
    simp only
    rw[badR_byte]
    cases badB (s.get! pos)with
    |true=>rfl
    |false=>exact ih
   ·have hB:=Ci.dec_big (s.size-pos) (s.get! pos).toNat (s.get! (pos+1)).toNat (s.get! (pos+2)).toNat (s.get! (pos+3)).toNat hb (by omega)
    rw[←hd]at hB
    have eo:badR (Utf8.decode s pos).1=true:=by
     unfold badR
     rw[decide_eq_true (by omega:126<(Utf8.decode s pos).1),Bool.or_true,Bool.and_true,bne_iff_ne.2 (by omega),bne_iff_ne.2 (by omega)];rfl
    have eb:badB (s.get! pos)=true:=by
     rw[←badR_byte];unfold badR
     rw[decide_eq_true (by omega:126<(s.get! pos).toNat),Bool.or_true,Bool.and_true,bne_iff_ne.2 (by omega),bne_iff_ne.2 (by omega)];rfl
    rw[eo,if_pos rfl,eb,if_pos rfl]
  ·rw[List.drop_eq_nil_of_le (by omega),Lib.idxFuncFrom_end _ _ _ _ _ hp]
   rfl
theorem bad1_run(x:Nat)(hx:x≤1114111)(w:World):Calls Tryz.prog 130 #[.int .i32 (x:Int)] w fun e w'=>e=.returned (.bool (badR x))∧Bel w w':=by
 by_cases h9:x=9
 ·subst h9
  go_enter Tryz.func130,Tryz.ntmps130
  go_wp2_with fail
  go_ret
  exact⟨rfl,Bel.refl w⟩
 ·by_cases h10:x=10
  ·subst h10
   go_enter Tryz.func130,Tryz.ntmps130
   go_wp2_with fail
   go_ret
   exact⟨rfl,Bel.refl w⟩
  ·have e9:((x:Int)==9)=false:=by rw[beq_eq_false_iff_ne];omega
   have e10:((x:Int)==10)=false:=by rw[beq_eq_false_iff_ne];omega
   have n9:((x:Int) !=9)=true:=by rw[bne_iff_ne];omega
   have n10:((x:Int) !=10)=true:=by rw[bne_iff_ne];omega
   have m9:¬(x:Int)=9:=by omega
   have m10:¬(x:Int)=10:=by omega
   have hx9:(x !=9)=true:=by rw[bne_iff_ne];exact h9
   have hx10:(x !=10)=true:=by rw[bne_iff_ne];exact h10
   by_cases h:x<32
   ·have b1:decide ((x:Int)<32)=true:=decide_eq_true (by omega)
    have HX:=hid (show badR x=true by unfold badR;rw[hx9,hx10,decide_eq_true h];rfl)
    clear h h9 h10 hx9 hx10
    go_enter Tryz.func130,Tryz.ntmps130
    go_wp2_with fail
    go_ret
    exact⟨by rw[HX.out];rfl,Bel.refl w⟩
   ·have b1:decide ((x:Int)<32)=false:=decide_eq_false (by omega)
    have HX:=hid (show badR x=decide ((126:Int)<(x:Int)) by
     unfold badR
     rw[hx9,hx10,decide_eq_false h,Bool.false_or,Bool.true_and,Bool.true_and,decide_eq_decide];omega)
    clear h h9 h10 hx9 hx10
    go_enter Tryz.func130,Tryz.ntmps130
    go_wp2_with fail
    go_ret
    exact⟨by rw[HX.out];rfl,Bel.refl w⟩
theorem badIdx_run(s:ByteArray)(w:World):Calls Tryz.prog 129 #[.string s,.func (.func 130) #[] #[]] w fun e w'=>e=.returned (.int .i64 (badAt s.data.toList))∧Bel w w':=by
 have e:Lib.idxFunc badR true s=badAt s.data.toList:=by
  have:=idx_bad s s.size 0 (Nat.zero_le _) (by omega)
  rw[List.drop_zero]at this
  refine Eq.trans this ?_
  unfold badI badAt
  cases s.data.toList.findIdx? badB with
  |none=>rfl
  |some k=>simp
 rw[←e]
 exact Tryz.strings_IndexFunc_grows 130 #[] (enters_of Tryz.func130 (by kernel_rfl) rfl) badR s w fun W x hx _=>by
  change Calls Tryz.prog 130 #[.int .i32 (x:Int)] W _
  exact bad1_run x hx W
end Go.Proofs.YtmlmkmhkmifnkaaGreatDoor.Tb
namespace Go.Proofs.YtmlmkmhkmifnkaaGreatDoor.Tb
open Go.RowKit
open Ci (Bel hid)
def optV:Option (List UInt8)→Array Value
 |some v=>#[.string ⟨v.toArray⟩,.bool true]
 |none=>#[.string ⟨#[]⟩,.bool false]
theorem len_run(a:Option Addr)(es:List En)(w:World)(hT:TabAt w a es):Calls Tryz.prog 28 #[.pointer a] w fun e w'=>e=.returned (.int .i64 es.length)∧Bel w w':=by
 obtain⟨b,x,c,rfl,hb,-⟩:=hT.at_
 have c0:w.cell? ⟨b,0,none⟩=some (.slice x es.length c):=by rw[Lib.cell_of_heap hb];rfl
 clear hb hT
 generalize es.length=n at c0⊢
 go_enter Tryz.func28,Tryz.ntmps28
 go_wp2_with fail
 go_ret
 exact⟨rfl,Bel.refl w⟩
theorem at_run(a:Option Addr)(es:List En)(k:Nat)(w:World)(hT:TabAt w a es)(hk:k<es.length):
 Calls Tryz.prog 29 #[.pointer a,.int .i64 k] w fun e w'=>e=.returned (.tuple #[.string ⟨es[k].key.toArray⟩,.string ⟨es[k].val.toArray⟩,.bool true])∧Bel w w':=by
 obtain⟨b,x,c,rfl,hb,hE⟩:=hT.at_
 obtain⟨b2,o,rfl,h1,h2⟩:=hE.place hk
 have hn:=hT.num
 have c0:∀p:Ci.Aft w,p.wd.cell? ⟨b,0,none⟩=some (.slice (some ⟨b2,o,none⟩) es.length c):=fun p=>by rw[Lib.cell_of_heap (p.bel.heap hb)];rfl
 have d0:w.cell? ⟨b,0,none⟩=some (.slice (some ⟨b2,o,none⟩) es.length c):=by rw[Lib.cell_of_heap hb];rfl
 have c1:∀p:Ci.Aft w,p.wd.cell? ⟨b2,o+k*2,none⟩=some (.string ⟨es[k].key.toArray⟩):=fun p=>(((hE.next p.bel).place hk).elim fun b3 h=>h.elim fun o3 h=>by obtain⟨e,f,-⟩:=h;cases e;exact f)
 have c2:∀p:Ci.Aft w,p.wd.cell? ⟨b2,o+k*2+1,none⟩=some (.string ⟨es[k].val.toArray⟩):=fun p=>(((hE.next p.bel).place hk).elim fun b3 h=>h.elim fun o3 h=>by obtain⟨e,-,f⟩:=h;cases e;exact f)
 clear hb hE h1 h2
 generalize es[k]=y at c1 c2⊢
 generalize es.length=n at c0 d0 hk hn
 have b1:decide ((k:Int)<0)=false:=decide_eq_false (by omega)
 have b2:decide ((n:Int)≤(k:Int))=false:=decide_eq_false (by omega)
 go_enter Tryz.func29,Tryz.ntmps29
 go_wp2_with fail
 refine Ci.wp_region_aft (by kernel_rfl) (by kernel_rfl) ?_
 repeat (first
  |go_big_quiet_skip
  |go_big_quiet_step (fail)
  |quiet_step (fail))
 refine wpQuiet_nil ?_
 rintro _ ⟨p,rfl⟩
 go_wp2_with fail
 exact bodyPost_ret (v:=.tuple #[.string ⟨y.key.toArray⟩,.string ⟨y.val.toArray⟩,.bool true]) (by simp[results,Tryz.results29,go_sem]) rfl ⟨rfl,p.bel⟩
theorem exact_run(a:Option Addr)(es:List En)(key:ByteArray)(w:World)(hw:Lat w)(hT:TabAt w a es)(hk:key.size<35184372088832):
 Calls Tryz.prog 159 #[.pointer a,.string key] w fun e w'=>e=.returned (.tuple (optV (exactQ es key.data.toList)))∧Bel w w':=by
 obtain⟨b,x,c,rfl,hb,hE⟩:=hT.at_
 have HT:=hid hT
 have HB:=hid hb
 have HE:=hid hE
 have HL:=hid (tlower_run key w hw hk)
 have hn:=hT.num
 have HP:=(show Hid (∀W,Bel w W→Calls Tryz.prog 69 #[.pointer (some ⟨b,0,none⟩),.string ⟨(lowR key.data.toList).toArray⟩] W fun e w'=>e=.returned (.tuple #[.int .i64 (rank es (lowR key.data.toList):Nat),.bool (foundB es (lowR key.data.toList))])∧Bel W w')from
  fun W hW=>place_run b x es c ⟨(lowR key.data.toList).toArray⟩ W (hW.heap HB.out) (HE.out.next hW) HT.out.srt (by omega))
 have HX:Hid (exactQ es key.data.toList=if foundB es (lowR key.data.toList)then(es[rank es (lowR key.data.toList)]?).map (·.val)else none):=hid rfl
 have hfr:foundB es (lowR key.data.toList)=true→rank es (lowR key.data.toList)<es.length:=fun h=>by
  unfold foundB at h
  cases hr:es[rank es (lowR key.data.toList)]? with
  |none=>rw[hr]at h;cases h
  |some e=>exact(List.getElem?_eq_some_iff.1 hr).1
 clear hT hb hE hw
 generalize lowR key.data.toList=k at HL HP HX hfr
 cases hf:foundB es k with
 |false=>
  rw[hf]at HP HX
  have HY:=hid (show exactQ es key.data.toList=none from HX.out)
  clear hf hfr HX
  go_enter Tryz.func159,Tryz.ntmps159
  go_wp2_with (first|(go_at_call 135;refine HL.out.mono ?_;rintro e w1 ⟨rfl,hb1⟩;have HB1:=hid hb1;clear hb1)|(go_at_call 69;refine(HP.out _ HB1.out).mono ?_;rintro e w2 ⟨rfl,hb2⟩;have HB2:=hid (HB1.out.trans hb2);clear hb2))
  go_ret2
  exact⟨by rw[HY.out];rfl,HB2.out⟩
 |true=>
  have hr:=hfr hf
  rw[hf]at HP HX
  have HY:=hid (show exactQ es key.data.toList=some (es[rank es k]'hr).val by rw[HX.out,if_pos rfl,List.getElem?_eq_getElem hr];rfl)
  obtain⟨b2,o,rfl,-,-⟩:=HE.out.place hr
  have HC:=(show Hid (∀W,Bel w W→W.cell? ⟨b,0,none⟩=some (.slice (some ⟨b2,o,none⟩) es.length c)∧W.cell? ⟨b2,o+rank es k*2+1,none⟩=some (.string ⟨es[rank es k].val.toArray⟩))from fun W hW=>⟨by rw[Lib.cell_of_heap (hW.heap HB.out)];rfl,by
   obtain⟨b3,o3,e,-,f⟩:=(HE.out.next hW).place hr
   cases e;exact f⟩)
  clear hf hfr HX HE HT HB
  generalize es[rank es k].val=v at HC HY
  generalize rank es k=r at HP HC hr
  generalize es.length=n at HC hr hn
  go_enter Tryz.func159,Tryz.ntmps159
  go_wp2_with (first|(go_at_call 135;refine HL.out.mono ?_;rintro e w1 ⟨rfl,hb1⟩;have HB1:=hid hb1;clear hb1)|(go_at_call 69;refine(HP.out _ HB1.out).mono ?_;rintro e w2 ⟨rfl,hb2⟩;have HB2:=hid (HB1.out.trans hb2);clear hb2;have c0:=(HC.out w2 HB2.out).1;have c1:=(HC.out w2 HB2.out).2))
  go_ret2
  exact⟨by rw[HY.out];rfl,HB2.out⟩
theorem taddr_run(a:Option Addr)(es:List En)(l d:ByteArray)(w:World)(hw:Lat w)(hT:TabAt w a es)(hl:l.size≤4194304)(hd:d.size≤4194304):
 Calls Tryz.prog 92 #[.pointer a,.string l,.string d] w fun e w'=>e=.returned (.tuple (optV (addrQ es l.data.toList d.data.toList)))∧Bel w w':=by
 have HT:=hid hT
 have HW:=hid hw
 have h1:((l++⟨#[64]⟩)++d).data.toList=l.data.toList++[64]++d.data.toList:=by rw[Ci.app_data,Ci.app_data]
 have h2:((⟨#[64]⟩:ByteArray)++d).data.toList=[64]++d.data.toList:=by rw[Ci.app_data]
 have HE1:=(show Hid (Calls Tryz.prog 159 #[.pointer a,.string ((l++⟨#[64]⟩)++d)] w fun e w'=>e=.returned (.tuple (optV (exactQ es (l.data.toList++[64]++d.data.toList))))∧Bel w w')from by
  have:=exact_run a es ((l++⟨#[64]⟩)++d) w HW.out HT.out (by rw[ByteArray.size_append,ByteArray.size_append];show l.size+1+d.size<_;omega)
  rwa[h1]at this)
 have HE2:=(show Hid (∀W,Bel w W→Calls Tryz.prog 159 #[.pointer a,.string (⟨#[64]⟩++d)] W fun e w'=>e=.returned (.tuple (optV (exactQ es ([64]++d.data.toList))))∧Bel W w')from fun W hW=>by
  have:=exact_run a es (⟨#[64]⟩++d) W (HW.out.next hW) (HT.out.next hW) (by rw[ByteArray.size_append];show 1+d.size<_;omega)
  rwa[h2]at this)
 have HX:Hid (addrQ es l.data.toList d.data.toList=match exactQ es (l.data.toList++[64]++d.data.toList)with|some v=>some v|none=>exactQ es ([64]++d.data.toList)):=hid rfl
 have a1:∀W:World,(Op.stringOp .add l ⟨#[64]⟩).run Tryz.prog W=.ok (.string (l++⟨#[64]⟩)) W:=fun W=>run_string_add_sum W _ _ (by show l.size+1≤_;omega)
 have a2:∀W:World,(Op.stringOp .add (l++⟨#[64]⟩) d).run Tryz.prog W=.ok (.string ((l++⟨#[64]⟩)++d)) W:=fun W=>run_string_add_sum W _ _ (by rw[ByteArray.size_append];show l.size+1+d.size≤_;omega)
 have a3:∀W:World,(Op.stringOp .add ⟨#[64]⟩ d).run Tryz.prog W=.ok (.string (⟨#[64]⟩++d)) W:=fun W=>run_string_add_sum W _ _ (by show 1+d.size≤_;omega)
 generalize exactQ es (l.data.toList++[64]++d.data.toList)=r1 at HE1 HX
 generalize exactQ es ([64]++d.data.toList)=r2 at HE2 HX
 clear hT hw h1 h2 HT HW
 cases r1 with
 |some v=>
  have HY:=hid (show addrQ es l.data.toList d.data.toList=some v from HX.out)
  have HE1:=(show Hid (Calls Tryz.prog 159 #[.pointer a,.string ((l++⟨#[64]⟩)++d)] w fun e w'=>e=.returned (.tuple #[.string ⟨v.toArray⟩,.bool true])∧Bel w w')from HE1.out)
  clear HX HE2
  go_enter Tryz.func92,Tryz.ntmps92
  go_wp2_with (first|(go_at_call 159;refine HE1.out.mono ?_;rintro e w1 ⟨rfl,hb1⟩;have HB1:=hid hb1;clear hb1))
  go_ret2
  exact⟨by rw[HY.out];rfl,HB1.out⟩
 |none=>
  have HY:=hid (show addrQ es l.data.toList d.data.toList=r2 from HX.out)
  have HE1:=(show Hid (Calls Tryz.prog 159 #[.pointer a,.string ((l++⟨#[64]⟩)++d)] w fun e w'=>e=.returned (.tuple #[.string ⟨#[]⟩,.bool false])∧Bel w w')from HE1.out)
  obtain⟨vs,vb,hv⟩:∃vs vb,optV r2=#[.string vs,.bool vb]:=by cases r2 with
   |none=>exact⟨_,_,rfl⟩
   |some v=>exact⟨_,_,rfl⟩
  rw[hv]at HE2
  have HV:=hid hv
  clear HX hv
  go_enter Tryz.func92,Tryz.ntmps92
  go_wp2_with (first|(go_at_call 159;with_reducible refine HE1.out.mono ?_;rintro e w1 ⟨rfl,hb1⟩;have HB1:=hid hb1;clear hb1)|(go_at_call 159;with_reducible refine(HE2.out _ HB1.out).mono ?_;rintro e w2 ⟨rfl,hb2⟩;have HB2:=hid (HB1.out.trans hb2);clear hb2))
  go_ret2
  exact⟨by rw[HY.out,HV.out];rfl,HB2.out⟩
structure Tabs (W:World) (x:Option Addr) (ts:List (List En)):Prop where
 at_:ts=[]∨∃b o,x=some ⟨b,o,none⟩∧b<W.heap.size∧∀k (hk:k<ts.length),∃p,W.cell? ⟨b,o+k,none⟩=some (.pointer p)∧TabAt W p ts[k]
theorem Tabs.next{W W':World}{x:Option Addr}{ts:List (List En)}(h:Tabs W x ts)(hb:Bel W W'):Tabs W' x ts:=by
 refine⟨?_⟩
 rcases h.at_ with f|⟨b,o,e,hs,f⟩
 ·exact .inl f
 ·refine .inr ⟨b,o,e,Nat.lt_of_lt_of_le hs hb.size,fun k hk=> ?_⟩
  obtain⟨p,h1,h2⟩:=f k hk
  exact⟨p,(bel_cell hb hs).trans h1,h2.next hb⟩
theorem Tabs.place{W:World}{x:Option Addr}{ts:List (List En)}(h:Tabs W x ts){k:Nat}(hk:k<ts.length):∃b o p,x=some ⟨b,o,none⟩∧W.cell? ⟨b,o+k,none⟩=some (.pointer p)∧TabAt W p ts[k]:=by
 rcases h.at_ with f|⟨b,o,e,-,f⟩
 ·rw[f]at hk;cases hk
 ·obtain⟨p,h1,h2⟩:=f k hk
  exact⟨b,o,p,e,h1,h2⟩
structure ChAt (W:World) (a:Option Addr) (ts:List (List En)):Prop where
 at_:∃b x c,a=some ⟨b,0,none⟩∧W.heap[b]?=some (.cells #[.slice x ts.length c] 141 (0,0))∧Tabs W x ts
 num:ts.length≤8
theorem ChAt.next{W W':World}{a:Option Addr}{ts:List (List En)}(h:ChAt W a ts)(hb:Bel W W'):ChAt W' a ts:=by
 obtain⟨b,x,c,e,h1,h2⟩:=h.at_
 exact⟨⟨b,x,c,e,hb.heap h1,h2.next hb⟩,h.num⟩
theorem chC_run(a:Option Addr)(es:List En)(l d:ByteArray)(b1 b2:Nat)(w:World)(hw:Lat w)(hT:TabAt w a es)(hl:l.size≤4194304)(hd:d.size≤4194304)(c1:w.cell? ⟨b1,0,none⟩=some (.string l))(c2:w.cell? ⟨b2,0,none⟩=some (.string d)):
 Calls Tryz.prog 91 #[.pointer a,.pointer (some ⟨b1,0,none⟩),.pointer (some ⟨b2,0,none⟩)] w fun e w'=>e=.returned (.tuple (optV (addrQ es l.data.toList d.data.toList)))∧Bel w w':=by
 have HA:=hid (taddr_run a es l d w hw hT hl hd)
 clear hT hw
 obtain⟨vs,vb,hv⟩:∃vs vb,optV (addrQ es l.data.toList d.data.toList)=#[.string vs,.bool vb]:=by cases addrQ es l.data.toList d.data.toList with
  |none=>exact⟨_,_,rfl⟩
  |some v=>exact⟨_,_,rfl⟩
 rw[hv]at HA⊢
 clear hv
 go_enter Tryz.func91,Tryz.ntmps91
 go_wp2_with (first|(go_at_call 92;refine HA.out.mono ?_;rintro e w1 ⟨rfl,hb1⟩))
 go_ret2
 exact⟨rfl,hb1⟩
theorem ask_drop(ts:List (List En))(l d:List UInt8)(k:Nat)(hk:k<ts.length):askQ (ts.drop k) l d=match addrQ ts[k] l d with|some v=>some v|none=>askQ (ts.drop (k+1)) l d:=by
 unfold askQ
 rw[List.drop_eq_getElem_cons hk,List.findSome?_cons]
 cases addrQ ts[k] l d<;>rfl
theorem ask_run(a:Option Addr)(ts:List (List En))(l d:ByteArray)(b1 b2:Nat)(w:World)(hw:Lat w)(hC:ChAt w a ts)(hl:l.size≤4194304)(hd:d.size≤4194304)(c1:w.cell? ⟨b1,0,none⟩=some (.string l))(c2:w.cell? ⟨b2,0,none⟩=some (.string d)):
 Calls Tryz.prog 90 #[.pointer a,.func (.func 91) #[] #[.pointer (some ⟨b1,0,none⟩),.pointer (some ⟨b2,0,none⟩)]] w fun e w'=>e=.returned (.tuple (optV (askQ ts l.data.toList d.data.toList)))∧Bel w w':=by
 obtain⟨b,x,c,rfl,hb,hTs⟩:=hC.at_
 have hnum:=hC.num
 have HTs:=hid hTs
 have HW:=hid hw
 have HCl:=(show Hid (∀W p es,Bel w W→TabAt W p es→Calls Tryz.prog 91 #[.pointer p,.pointer (some ⟨b1,0,none⟩),.pointer (some ⟨b2,0,none⟩)] W fun e w'=>e=.returned (.tuple (optV (addrQ es l.data.toList d.data.toList)))∧Bel W w')from
  fun W p es hW hT=>chC_run p es l d b1 b2 W (hw.next hW) hT hl hd ((bel_cell hW (World.block_lt_of_cell? w _ c1)).trans c1) ((bel_cell hW (World.block_lt_of_cell? w _ c2)).trans c2))
 have eg:∀args w,(callFunc 91 args).run Tryz.prog w=.ok (.enter 91 args) w:=enters_of Tryz.func91 (by kernel_rfl) rfl
 have c0:w.cell? ⟨b,0,none⟩=some (.slice x ts.length c):=by rw[Lib.cell_of_heap hb];rfl
 have H0:=hid (show askQ ts l.data.toList d.data.toList=askQ (ts.drop 0) l.data.toList d.data.toList by rw[List.drop_zero])
 clear hC hb hTs hw c1 c2 hl hd
 go_enter Tryz.func90,Tryz.ntmps90
 go_wp2_with fail
 go_loopg [15] ts.length (fun gg v15 wr=>∃k:Nat,v15=.int .i64 k∧k+gg=ts.length∧Hid (askQ ts l.data.toList d.data.toList=askQ (ts.drop k) l.data.toList d.data.toList)∧Hid (Bel w wr))
 case atStart=>exact⟨0,rfl,by omega,H0.out,hid (Bel.refl w)⟩
 case round=>
  clear H0 c0
  obtain⟨k,rfl,hk,HQ,HB⟩:=hrel
  have Hk:=hid hk
  have hkn:k≤ts.length:=by omega
  clear hk
  by_cases hlt:k<ts.length
  ·obtain⟨b3,o3,p,rfl,h3,hT⟩:=(HTs.out.next HB.out).place hlt
   have HA:=hid (HCl.out wr p ts[k] HB.out hT)
   have HD:=hid (ask_drop ts l.data.toList d.data.toList k hlt)
   generalize addrQ ts[k] l.data.toList d.data.toList=r at HA HD
   clear hT
   cases r with
   |some v=>
    have HA:=(show Hid (Calls Tryz.prog 91 #[.pointer p,.pointer (some ⟨b1,0,none⟩),.pointer (some ⟨b2,0,none⟩)] wr fun e w'=>e=.returned (.tuple #[.string ⟨v.toArray⟩,.bool true])∧Bel wr w')from HA.out)
    have HY:=hid (show askQ ts l.data.toList d.data.toList=some v from HQ.out.trans HD.out)
    clear HQ HD
    go_wp2_with (first|(go_at_fn 91;refine HA.out.mono ?_;rintro e w2 ⟨rfl,hb2⟩))
    go_ret2
    exact⟨by rw[HY.out];rfl,HB.out.trans hb2⟩
   |none=>
    have HA:=(show Hid (Calls Tryz.prog 91 #[.pointer p,.pointer (some ⟨b1,0,none⟩),.pointer (some ⟨b2,0,none⟩)] wr fun e w'=>e=.returned (.tuple #[.string ⟨#[]⟩,.bool false])∧Bel wr w')from HA.out)
    have HY:=hid (show askQ ts l.data.toList d.data.toList=askQ (ts.drop (k+1)) l.data.toList d.data.toList from HQ.out.trans HD.out)
    clear HQ HD
    go_wp2_with (first|(go_at_fn 91;refine HA.out.mono ?_;rintro e w2 ⟨rfl,hb2⟩))
    go_roundg (gk-1)
    case measure=>have:=Hk.out;omega
    case rel=>exact⟨k+1,by go_num,by have:=Hk.out;omega,HY.out,hid (HB.out.trans hb2)⟩
  ·obtain rfl:k=ts.length:=by omega
   have HY:=hid (show askQ ts l.data.toList d.data.toList=none by rw[HQ.out,List.drop_length];rfl)
   go_wp2_with fail
   go_ret2
   exact⟨by rw[HY.out];rfl,HB.out⟩
theorem chAddr_run(a:Option Addr)(ts:List (List En))(l d:ByteArray)(w:World)(hw:Lat w)(hC:ChAt w a ts)(hl:l.size≤4194304)(hd:d.size≤4194304):
 Calls Tryz.prog 37 #[.pointer a,.string l,.string d] w fun e w'=>e=.returned (.tuple (optV (askQ ts l.data.toList d.data.toList)))∧Bel w w':=by
 obtain⟨W,hW⟩:∃W,W=(w.alloc (.cells #[.string l] 9)).alloc (.cells #[.string d] 9):=⟨_,rfl⟩
 have HX:=hid (show Bel w W by rw[hW];exact((Bel.refl w).alloc _).alloc _)
 have hb1:W.heap[w.heap.size]?=some (.cells #[.string l] 9 (0,0)):=by
  rw[hW]
  exact(Below.heap_alloc _ _ _ (by simp)).trans (heap_alloc_new w _)
 have hb2:W.heap[w.heap.size+1]?=some (.cells #[.string d] 9 (0,0)):=by
  rw[hW];exact Ci.alloc_second w _ _
 have HA:=hid (ask_run a ts l d w.heap.size (w.heap.size+1) W (hw.next HX.out) (hC.next HX.out) hl hd (by rw[Lib.cell_of_heap hb1];rfl) (by rw[Lib.cell_of_heap hb2];rfl))
 have hmf:∀(fn:Fn) (first cap:Array Value) (w:World),(Instr.makeFunc fn first cap).run Tryz.prog w=.ok (.func fn first cap) w:=fun _ _ _ _=>rfl
 clear hw hC hb1 hb2
 obtain⟨vs,vb,hv⟩:∃vs vb,optV (askQ ts l.data.toList d.data.toList)=#[.string vs,.bool vb]:=by cases askQ ts l.data.toList d.data.toList with
  |none=>exact⟨_,_,rfl⟩
  |some v=>exact⟨_,_,rfl⟩
 rw[hv]at HA⊢
 clear hv
 go_enter Tryz.func37,Tryz.ntmps37
 go_wp2_with (first|(rw[←hW];clear hW;go_at_call 90;refine HA.out.mono ?_;rintro e w1 ⟨rfl,hb1⟩)|(go_at_call 90;refine HA.out.mono ?_;rintro e w1 ⟨rfl,hb1⟩))
 go_ret2
 exact⟨rfl,HX.out.trans hb1⟩
end Go.Proofs.YtmlmkmhkmifnkaaGreatDoor.Tb
namespace Go.Proofs.YtmlmkmhkmifnkaaGreatDoor.Tb
open Go.RowKit
open Ci (Bel hid own_bel row_shape own_base addr_add splitL)
section
variable {P:Program}
def KeepB(lo hi:Nat)(W W':World):Prop:=∀k,lo≤k→k<hi→W'.heap[k]?=W.heap[k]?
def KeepI(lo hi:Nat)(W W':World):Prop:=KeepB lo hi W W'∧KeepB 0 8 W W'
end
attribute [local go_sem] Oper.semAt_some
structure SsW (b:Nat) (c:UInt8) (W:World) (r:ByteArray):Prop where
 s:W.heap[b]?=some (.cells #[.string r] 9 (0,0))
 sep:W.heap[b+1]?=some (.cells #[.string ⟨#[c]⟩] 9 (0,0))
 n:W.heap[b+2]?=some (.cells #[.int .i64 0] 3 (0,0))
 most:∃m,W.cell? ⟨1,0,none⟩=some (.int .i64 m)
end Go.Proofs.YtmlmkmhkmifnkaaGreatDoor.Tb
namespace Go.Proofs.YtmlmkmhkmifnkaaGreatDoor.Tb
open Go.RowKit
open Ci (Bel hid own_bel row_shape own_base addr_add trim_run)
section
variable {P:Program}
theorem wpList_push_at {W:World} {ops:Array Oper} {rest:List Oper} {o:Oper} {a:Act} {Q:Exit→Act→World→Prop} (hgd:o.guard=none) (s x:Operand) (t:TypeId)
 (ho:o.op=.call {callee:=.builtin .append,args:=#[s,x],argTypes:=#[t,t]})
 (e:TypeId) (z:Value) (size bytes:Nat) (ht:P.underlying t=some (.slice e)) (hi:(P.info? e).map (fun i=>(i.zero,i.size,i.bytes))=some (some z,size,bytes)) (hzs:z.cells.size=size) (hsz:0<size)
 (base:Nat) (v:Value) (n:Nat) (xs:List Value) (hs:a.eval s=v) (hown:W.ownsRow base e size v n xs) (hb:base≤W.heap.size)
 (c:Array Value) (hx:a.eval x=.slice (some ⟨W.heap.size,0,none⟩) 1 1) (hc:c.size=size) (h1:∀u∈c.toList,u.oneCell'=true) (hm:n+1≤maxLen) (hbytes:(n+1)*bytes≤140737488355328)
 (h:∀v' w',w'.ownsRow base e size v' (n+1) (xs++c.toList)→(W.alloc (.cells c e)).grownBy w' v.ownBlock→(v'.ownBlock=v.ownBlock∨∃g,v'.ownBlock=some g∧W.heap.size≤g)→wpList P ops Q rest (a.put o.dst v') w'):
 wpList P ops Q (o::rest) a (W.alloc (.cells c e)):=by
 obtain⟨i,hi,j2,j3,j4⟩:=info_parts hi
 have hnew:∀j u,c.toList[j]?=some u→(W.alloc (.cells c e)).cell? ((⟨W.heap.size,0,none⟩:Addr).add j)=some u:=fun j u hu=>by
  rw[addr_add,Nat.zero_add]
  have e:=heap_alloc_new W (.cells c e)
  simp only[World.cell?,e]
  simpa using hu
 have hl:c.toList.length=1*size:=by rw[Array.length_toList,hc,Nat.one_mul]
 have hbase:base≤(W.alloc (.cells c e)).heap.size:=by rw[World.size_alloc];omega
 have hrun:=run_append_own (P:=P) (W.alloc (.cells c e)) base t o.type e i z size bytes ht hi j2 j3 j4 hzs hsz v n xs (hown.alloc _) ⟨W.heap.size,0,none⟩ 1 1 c.toList hl hnew h1 hm hbytes hbase
 obtain⟨v',w',hr,h2,h3,-⟩:=hrun
 have hfr:v'.ownBlock=v.ownBlock∨∃g,v'.ownBlock=some g∧W.heap.size≤g:=by
  have hm2:n+1≤9223372036854775807:=by unfold maxLen at hm;omega
  rcases(hown.alloc (.cells c e)).2 with⟨rfl,rfl⟩|⟨g,cap,cur,rfl,-,hg,hnc,-,hcs,-⟩
  ·have hr2:=run_append_nil (P:=P) (W.alloc (.cells c e)) t o.type e i z ht hi j2 ⟨W.heap.size,0,none⟩ 1 1 c.toList (by rw[j3];exact hl) hnew (by decide) (by omega) (by rw[j4];omega)
   rw[hr]at hr2
   injection hr2 with e1 e2
   rw[e1]
   exact .inr ⟨(W.alloc (.cells c e)).heap.size,rfl,by rw[World.size_alloc];exact Nat.le_succ _⟩
  ·by_cases hroom:n+1≤cap
   ·have hr2:=run_append_room (P:=P) (W.alloc (.cells c e)) t o.type e i ht hi g n cap cur hg ⟨W.heap.size,0,none⟩ 1 1 c.toList (by rw[j3];exact hl) hnew h1 hroom (by
     rw[j3,hl,hcs,←Nat.add_mul];exact Nat.mul_le_mul_right _ hroom)
    rw[hr]at hr2
    injection hr2 with e1 e2
    rw[e1]
    exact .inl rfl
   ·have holds:∀j u,xs[j]?=some u→(W.alloc (.cells c e)).cell? ((⟨g,0,none⟩:Addr).add j)=some u:=(hown.alloc _).cells (g:=g) rfl
    have hr2:=run_append_grow (P:=P) (W.alloc (.cells c e)) t o.type e i z ht hi j2 ⟨g,0,none⟩ n cap xs (by rw[j3];exact hown.1) holds ⟨W.heap.size,0,none⟩ 1 1 c.toList (by rw[j3];exact hl) hnew (by omega) (by omega) (by rw[j4];exact growslice_fits (by omega) hbytes)
    rw[hr]at hr2
    injection hr2 with e1 e2
    rw[e1]
    exact .inr ⟨(W.alloc (.cells c e)).heap.size,rfl,by rw[World.size_alloc];exact Nat.le_succ _⟩
 refine wpList_plain hgd fun _ hK=> ?_
 unfold Oper.wp execOp
 simp only[ho,resolve,invoke,builtin,Sem.run_bind,Sem.run_pure,Result.andThen_ok,List.map_toArray,List.map_cons,List.map_nil,hs,hx,hr]
 exact hK _ _ (h v' w' h2 h3 hfr)
theorem own_ne{w:World}{base e size n b:Nat}{v:Value}{xs:List Value}{cur:Array Value}{T:TypeId}{fz:Nat×Nat}(h:w.ownsRow base e size v n xs)(hb:w.heap[b]?=some (.cells cur T fz))(hT:T≠e):v.ownBlock≠some b:=by
 intro hv
 rcases h.2 with⟨rfl,-⟩|⟨g,cap,cu,rfl,-,hg,-⟩
 ·cases hv
 ·cases hv
  rw[hb]at hg
  cases hg
  exact hT rfl
end
def strs(l:List (List UInt8)):List Value:=l.map fun x=>Value.string ⟨x.toArray⟩
theorem str_infos:(Tryz.prog.info? 9).map (fun i=>(i.zero,i.size,i.bytes))=some (some (.string ⟨#[]⟩),1,16):=by kernel_rfl
structure AddP (base b o:Nat) (pv:Value) (cur:Array Value) (L:List (List UInt8)) (w w':World) (pv':Value):Prop where
 blk:w'.heap[b]?=some (.cells (cur.setIfInBounds (o+2) pv') 116 (0,0))
 row:w'.ownsRow base 9 1 pv' L.length (strs L)
 keep:∀k,k<w.heap.size→k≠b→some k≠pv.ownBlock→w'.heap[k]?=w.heap[k]?
 os:w'.os=w.os
 tape:w'.tape=w.tape
 output:w'.output=w.output
 size:w.heap.size≤w'.heap.size
 fresh:pv'.ownBlock=pv.ownBlock∨∃g,pv'.ownBlock=some g∧w.heap.size≤g
theorem add_run (base b o:Nat) (s:ByteArray) (pv:Value) (pcs:List (List UInt8)) (cur:Array Value) (w:World) (hb:w.heap[b]?=some (.cells cur 116 (0,0))) (ho:cur[o+2]?=some pv)
 (hown:w.ownsRow base 9 1 pv pcs.length (strs pcs)) (hbase:base≤w.heap.size) (hs:s.size≤9223372036854775807) (hn:pcs.length≤1000000):
 Calls Tryz.prog 136 #[.pointer (some ⟨b,o,none⟩),.string s] w fun e w'=>e=.returned (.tuple #[])∧∃pv',AddP base b o pv cur (addPc pcs s.data.toList) w w' pv':=by
 have HT:=hid (trim_run s ⟨#[32,9]⟩ w hs (by decide) (by decide))
 have HX:Hid (addPc pcs s.data.toList=if Lib.trimS s.data.toList [32,9]=[]then pcs else pcs++[Lib.trimS s.data.toList [32,9]]):=hid rfl
 obtain⟨t,ht⟩:∃t:ByteArray,t=⟨(Lib.trimS s.data.toList [32,9]).toArray⟩:=⟨_,rfl⟩
 have ht2:t.data.toList=Lib.trimS s.data.toList [32,9]:=by rw[ht]
 have HT2:=(show Hid (Calls Tryz.prog 133 #[.string s,.string ⟨#[32,9]⟩] w fun e w'=>e=.returned (.string t)∧Bel w w')from by rw[ht];exact HT.out)
 rw[←ht2]at HX
 clear HT ht ht2
 have hbw:b<w.heap.size:=(Array.getElem?_eq_some_iff.1 hb).1
 have hol:o+2<cur.size:=(Array.getElem?_eq_some_iff.1 ho).1
 obtain⟨ax,np,cp,rfl⟩:∃ax np cp,pv=.slice ax np cp:=by
  obtain⟨x,c,e,-⟩:=row_shape hown
  exact⟨_,_,_,e⟩
 have HA:=hid (And.intro hb (And.intro ho (And.intro hown hbase)))
 clear hb ho hown hbase
 by_cases h0:t.data.toList=[]
 ·have b1:(t.toList==[])=true:=by rw[ByteArray.toList_eq,h0];rfl
  have b2:(t.toList !=[])=false:=by rw[ByteArray.toList_eq,h0];rfl
  have b3:t.toList.isEmpty=true:=by rw[ByteArray.toList_eq,h0];rfl
  have HY:=hid (show addPc pcs s.data.toList=pcs by rw[HX.out,if_pos h0])
  clear h0 HX
  go_enter Tryz.func136,Tryz.ntmps136
  go_wp2_with (first|(go_at_call 133;refine HT2.out.mono ?_;rintro e w1 ⟨rfl,hb1⟩;have HB1:=hid hb1;clear hb1))
  go_end0
  obtain⟨hb,ho,hown,hbase⟩:=HA.out
  have hB:=HB1.out
  refine⟨rfl,.slice ax np cp,⟨?_,?_,fun k hk _ _=>hB.block k hk,hB.os,hB.tape,hB.output,hB.size,.inl rfl⟩⟩
  ·rw[hB.heap hb]
   congr 2
   refine Array.ext (by simp) fun i h1 h2=> ?_
   rw[Array.getElem_setIfInBounds]
   split
   ·rename_i e
    subst e
    exact((Array.getElem?_eq_some_iff.1 ho).2)
   ·rfl
  ·rw[HY.out];exact own_bel hown hB
 ·have b1:(t.toList==[])=false:=by
   rw[ByteArray.toList_eq]
   cases h:t.data.toList with
   |nil=>exact absurd h h0
   |cons=>rfl
  have b2:(t.toList !=[])=true:=by
   rw[ByteArray.toList_eq]
   cases h:t.data.toList with
   |nil=>exact absurd h h0
   |cons=>rfl
  have b3:t.toList.isEmpty=false:=by
   rw[ByteArray.toList_eq]
   cases h:t.data.toList with
   |nil=>exact absurd h h0
   |cons=>rfl
  have HY:=hid (show addPc pcs s.data.toList=pcs++[t.data.toList] by rw[HX.out,if_neg h0])
  clear h0 HX
  go_enter Tryz.func136,Tryz.ntmps136
  go_wp2_with (first|(go_at_call 133;refine HT2.out.mono ?_;rintro e w1 ⟨rfl,hb1⟩;have HB1:=hid hb1;clear hb1;have c0:w1.cell? ⟨b,o+2,none⟩=some (.slice ax np cp):=(by rw[Lib.cell_of_heap (HB1.out.heap HA.out.1)];exact HA.out.2.1))|(at_builtin;refine wpList_push_at (W:=w1) rfl _ _ 22 rfl 9 (.string ⟨#[]⟩) 1 16 Tryz.underlying22 str_infos rfl (by decide) base (.slice ax np cp) pcs.length _ rfl (own_bel HA.out.2.2.1 HB1.out) (Nat.le_trans HA.out.2.2.2 HB1.out.size) _ rfl rfl (by intro u hu;simp at hu;rcases hu with rfl;rfl) (by unfold maxLen;omega) (by omega) ?_;intro v' w9 hown9 hg9 hf9;have H9:=hid (And.intro hown9 (And.intro hg9 hf9));obtain⟨x9,n9,p9,hv9⟩:∃x n p,v'=.slice x n p:=(by obtain⟨x,c,e,-⟩:=row_shape hown9;exact⟨_,_,_,e⟩);clear hown9 hg9 hf9;subst hv9;have e9:w9.heap[b]?=some (.cells cur 116 (0,0)):=(by rw[H9.out.2.1.block b (by rw[World.size_alloc];have:=HB1.out.size;omega) (fun e=>own_ne HA.out.2.2.1 HA.out.1 (by decide) e.symm),heap_alloc_old w1 _ (Nat.lt_of_lt_of_le hbw HB1.out.size)];exact HB1.out.heap HA.out.1);have c9:w9.cell? ⟨b,o+2,none⟩=some (.slice ax np cp):=(by rw[Lib.cell_of_heap e9];exact HA.out.2.1);have f9:w9.frozen? ⟨b,o+2,none⟩=false:=Lib.frozen_of_heap e9 (o+2)))
  go_end0
  obtain⟨hb,ho,hown,hbase⟩:=HA.out
  obtain⟨hown9,hg9,hf9⟩:=H9.out
  have hB:=HB1.out
  refine⟨rfl,.slice x9 n9 p9,⟨heap_setCell_same _ _ _ _ _ _ e9,?_,?_,?_,?_,?_,?_,?_⟩⟩
  ·rw[HY.out]
   have e:strs (pcs++[t.data.toList])=strs pcs++[.string t]:=by unfold strs;rw[List.map_append];rfl
   rw[e,List.length_append]
   have hne:=own_ne hown9 e9 (by decide)
   rcases hown9.2 with f|⟨g,cap,cu,ev,hg,hh,rest⟩
   ·exact⟨hown9.1,.inl f⟩
   ·refine⟨hown9.1,.inr ⟨g,cap,cu,ev,hg,?_,rest⟩⟩
    rw[heap_setCell_other _ _ _ _ (fun e=>hne (by rw[ev];simp[Value.ownBlock,e]))]
    exact hh
  ·intro k hk h1 h2
   rw[heap_setCell_other _ _ _ _ h1,hg9.block k (by rw[World.size_alloc];have:=hB.size;omega) h2,heap_alloc_old w1 _ (Nat.lt_of_lt_of_le hk hB.size)]
   exact hB.block k hk
  ·exact hg9.os.trans hB.os
  ·exact hg9.tape.trans hB.tape
  ·exact hg9.output.trans hB.output
  ·rw[World.size_setCell]
   have:=hg9.size
   rw[World.size_alloc]at this
   have:=hB.size
   omega
  ·rcases hf9 with f|⟨g,e,f⟩
   ·exact .inl f
   ·exact .inr ⟨g,e,Nat.le_trans hB.size f⟩
end Go.Proofs.YtmlmkmhkmifnkaaGreatDoor.Tb