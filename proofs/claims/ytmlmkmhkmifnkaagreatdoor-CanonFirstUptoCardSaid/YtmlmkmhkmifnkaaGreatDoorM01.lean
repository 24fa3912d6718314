import Derived.Test.YtmlmkmhkmifnkaaGreatDoorProg
import Derived.WalkKit
import Derived.WalkSpells
import Derived.WalkLawsBesides
import Derived.OwnWalk
import Derived.Deep.QuietTactic
import Derived.BigQuiet
import Derived.Below
import Derived.Deep.LoopGhost
import Derived.Deep.DeepCutAuto
import Derived.Deep.CutBlock
import Derived.Deep.RegionHeld3
import Derived.Deep.MidRow
import Derived.Deep.WholeRow
import Derived.Lib.Hide
import Derived.Laws.BitsAllLaws
set_option maxHeartbeats 16000000
set_option maxRecDepth 1000000
namespace Go.Proofs.YtmlmkmhkmifnkaaGreatDoor.Ma
def atB(b:UInt8):Bool:=decide (128≤b.toNat)||(decide (97≤b.toNat)&&decide (b.toNat≤122))||(decide (65≤b.toNat)&&decide (b.toNat≤90))||(decide (48≤b.toNat)&&decide (b.toNat≤57))
 ||([33,35,36,37,38,39,42,43,45,47,61,63,94,95,96,123,124,125,126]:List UInt8).contains b
def blB(b:UInt8):Bool:=([32,9,13,10]:List UInt8).contains b
def sgB(b:UInt8):Bool:=([60,62,64,44,59,58,46]:List UInt8).contains b
def cmtL:List UInt8→Nat→Option Nat
 |[],_=>none
 |c::t,d=>
  if c=40 then(cmtL t (d+1)).map (· +1)
  else if c=92 then match t with
   |[]=>none
   |_::t'=>(cmtL t' d).map (· +2)
  else if c=41 then if d=1 then some 1 else(cmtL t (d-1)).map (· +1)
  else(cmtL t d).map (· +1)
def tab(b:UInt8):UInt8:=if b=9 then 32 else b
def quoL:List UInt8→Option (List UInt8×Nat)
 |[]=>none
 |c::t=>
  if c=34 then some ([],1)
  else if c=13∨c=10 then(quoL t).map fun x=>(x.1,x.2+1)
  else if c=92 then match t with
   |[]=>none
   |d::t'=>if d=13∨d=10 then none else(quoL t').map fun x=>(tab d::x.1,x.2+2)
  else if c.toNat<32∧c≠9∨c=127 then none
  else(quoL t).map fun x=>(tab c::x.1,x.2+1)
def brkL:List UInt8→Option Nat
 |[]=>none
 |c::t=>if c=93 then some 1 else if c.toNat≤32∨126<c.toNat∨c=91∨c=92 then none else(brkL t).map (· +1)
def atN:List UInt8→Nat
 |[]=>0
 |c::t=>if atB c then atN t+1 else 0
def one:List UInt8→Option (Nat×Option (UInt8×List UInt8))
 |[]=>none
 |c::t=>
  if blB c then some (1,none)
  else if c=40 then(cmtL (c::t) 0).map fun n=>(n,none)
  else if c=34 then(quoL t).map fun x=>(x.2+1,some (113,x.1))
  else if c=91 then(brkL t).map fun n=>(n+1,some (108,(c::t).take (n+1)))
  else if sgB c then some (1,some (c,[]))
  else if atB c then some (atN t+1,some (97,(c::t).take (atN t+1)))else none
structure Tk where
 kind:UInt8
 text:List UInt8
 from_:Nat
 til:Nat
def z:Tk:=⟨0,[],0,0⟩
def cutL:Nat→Nat→List UInt8→Option (List Tk)
 |0,_,_=>none
 |f+1,at_,s=>match s with
  |[]=>some [⟨101,[],at_,at_⟩]
  |c::t=>match one (c::t)with
   |none=>none
   |some (n,none)=>cutL f (at_+n) ((c::t).drop n)
   |some (n,some (k,x))=>(cutL f (at_+n) ((c::t).drop n)).map fun l=>⟨k,x,at_,at_+n⟩::l
def cutQ(s:List UInt8):Option (List Tk):=cutL (s.length+1) 0 s
structure Sp where
 loc:List UInt8
 dom:List UInt8
 from_:Nat
 til:Nat
 name:List UInt8
structure St where
 bad:Bool
 l:List Tk
 all:List Sp
def hd(st:St):Tk:=st.l.headD z
def isQ(k:UInt8)(st:St):Bool:= !st.bad&&(hd st).kind==k
def takeS(k:UInt8)(st:St):St:=if isQ k st then⟨st.bad,st.l.tail,st.all⟩else st
def takeT(k:UInt8)(st:St):Tk:=if isQ k st then hd st else z
def wantS(k:UInt8)(st:St):St:=⟨st.bad|| !isQ k st,(takeS k st).l,st.all⟩
def domLoop:Nat→List UInt8→Tk→St→List UInt8×Tk×St
 |0,s,t,st=>(s,t,st)
 |n+1,s,t,st=>if isQ 46 st then domLoop n (s++[46]++(takeT 97 (takeS 46 st)).text) (takeT 97 (takeS 46 st)) (wantS 97 (takeS 46 st))else(s,t,st)
def domQ(st:St):List UInt8×Tk×St:=
 if isQ 108 st then((takeT 108 st).text,takeT 108 st,takeS 108 st)
 else domLoop st.l.length (takeT 97 st).text (takeT 97 st) (wantS 97 st)
def wordT(st:St):List UInt8:=if isQ 113 st then(takeT 113 st).text else(takeT 97 st).text
def wordS(st:St):St:=if isQ 113 st then takeS 113 st else wantS 97 st
def locLoop:Nat→List UInt8→St→List UInt8×St
 |0,s,st=>(s,st)
 |n+1,s,st=>if isQ 46 st then locLoop n (s++([46]++wordT (takeS 46 st))) (wordS (takeS 46 st))else(s,st)
def locQ(st:St):List UInt8×St:=locLoop st.l.length (wordT st) (wordS st)
def specQ(name:List UInt8)(st:St):St:=
 let a:=locQ st
 let d:=domQ (wantS 64 a.2)
 ⟨d.2.2.bad,d.2.2.l,d.2.2.all++[⟨a.1,d.1,(hd st).from_,d.2.1.til,name⟩]⟩
def wrd(k:UInt8):Bool:=k==97||k==113
def phN:Nat→List Tk→Nat
 |_,[]=>0
 |k,t::l=>if wrd t.kind||(t.kind==46&&k !=0)then phN (k+1) l+1 else 0
def phE:Nat→Nat→List Tk→Nat
 |_,e,[]=>e
 |k,e,t::l=>if wrd t.kind||(t.kind==46&&k !=0)then phE (k+1) (if wrd t.kind then t.til else e) l else e
def phraseN(st:St):Nat:=if st.bad then 0 else phN 0 st.l
def phraseT(body:List UInt8)(st:St):List UInt8:=
 if phraseN st=0 then[]else(body.take (phE 0 0 st.l)).drop (hd st).from_
def routeQ:Nat→St→St
 |0,st=>st
 |n+1,st=>let d:=(domQ (wantS 64 st)).2.2;if isQ 44 d then routeQ n (takeS 44 d)else d
def mailboxQ(body:List UInt8)(st:St):St:=
 if(st.l.getD (phraseN st) z).kind≠60 then specQ [] st
 else
  let a:St:=⟨st.bad,st.l.drop (phraseN st+1),st.all⟩
  let b:=if isQ 64 a then wantS 58 (routeQ (a.l.length+1) a)else a
  wantS 62 (specQ (phraseT body st) b)
def commasQ(e:UInt8)(f:St→St):Nat→St→St
 |0,st=>st
 |n+1,st=>
  let a:=if !isQ 44 st&& !isQ e st&& !st.bad then f st else st
  if isQ 44 a then commasQ e f n (takeS 44 a)else wantS e a
def elementQ(body:List UInt8)(st:St):St:=
 if phraseN st=0∨(st.l.getD (phraseN st) z).kind≠58 then mailboxQ body st
 else
  let a:St:=⟨st.bad,st.l.drop (phraseN st+1),st.all⟩
  commasQ 59 (mailboxQ body) (a.l.length+1) a
def readQ(body:List UInt8):Option (List Sp):=match cutQ body with
 |none=>none
 |some l=>
  let st:=commasQ 101 (elementQ body) (l.length+1) ⟨false,l,[]⟩
  if st.bad then none else some st.all
end Go.Proofs.YtmlmkmhkmifnkaaGreatDoor.Ma
namespace Go.Proofs.YtmlmkmhkmifnkaaGreatDoor.Ma
structure It where
 gap:List UInt8
 raw:List UInt8
 kind:UInt8
 text:List UInt8
def It.b(i:It):List UInt8:=i.gap++i.raw
def flat(l:List It):List UInt8:=l.flatMap It.b
inductive Tl (w:UInt8→Bool):List It→List UInt8→Prop
 |nil:Tl w [] []
 |cons (d i:It) (c:List It) (t:List UInt8):d.kind=46→w i.kind=true→Tl w c t→Tl w (d::i::c) ([46]++i.text++t)
inductive Dots (w:UInt8→Bool):List It→List UInt8→Prop
 |mk (i:It) (c:List It) (t:List UInt8):w i.kind=true→Tl w c t→Dots w (i::c) (i.text++t)
inductive IsDom:List It→List UInt8→Prop
 |lit (i:It):i.kind=108→IsDom [i] i.text
 |dots (c:List It) (t:List UInt8):Dots (· ==97) c t→IsDom c t
structure Spc where
 sec:List It
 loc:List UInt8
 dom:List UInt8
inductive IsSpec:Spc→Prop
 |mk (l:List It) (a:It) (d:List It) (loc dom:List UInt8):Dots wrd l loc→a.kind=64→IsDom d dom→IsSpec ⟨l++a::d,loc,dom⟩
inductive Sg
 |keep (i:It)
 |sp (s:Spc) (name:List UInt8)
end Go.Proofs.YtmlmkmhkmifnkaaGreatDoor.Ma
namespace Go.Proofs.YtmlmkmhkmifnkaaGreatDoor.Ma
def Fits(body:List UInt8)(o:Nat)(l:List It):Prop:=∃pre:List UInt8,pre.length=o∧body=pre++flat l
end Go.Proofs.YtmlmkmhkmifnkaaGreatDoor.Ma
namespace Go.Proofs.YtmlmkmhkmifnkaaGreatDoor.Ma
def Nxt(s:List UInt8):Prop:=∀b t,s=b::t→atB b=false
inductive Gap:List UInt8→Prop
 |nil:Gap []
 |bl (b:UInt8) (g:List UInt8):blB b=true→Gap g→Gap (b::g)
 |cm (c g:List UInt8):cmtL (40::c) 0=some (c.length+1)→Gap g→Gap (40::c++g)
inductive Raw:It→Prop
 |sg (g:List UInt8) (c:UInt8):sgB c=true→Raw ⟨g,[c],c,[]⟩
 |qu (g c x:List UInt8):quoL c=some (x,c.length)→Raw ⟨g,34::c,113,x⟩
 |li (g c:List UInt8):brkL c=some c.length→Raw ⟨g,91::c,108,91::c⟩
 |at_ (g:List UInt8) (b:UInt8) (c:List UInt8):(∀x∈b::c,atB x=true)→Raw ⟨g,b::c,97,b::c⟩
structure Tok (i:It):Prop where
 g:Gap i.gap
 r:Raw i
def Nb(i j:It):Prop:=i.kind=97→j.gap=[]→j.kind≠97
def Chn{α:Type}(R:α→α→Prop):List α→Prop
 |[]=>True
 |[_]=>True
 |a::b::l=>R a b∧Chn R (b::l)
def Lx(o:Nat)(s:List UInt8)(T:List Tk):Prop:=∀f,s.length<f→cutL f o s=some T
end Go.Proofs.YtmlmkmhkmifnkaaGreatDoor.Ma
namespace Go.Proofs.YtmlmkmhkmifnkaaGreatDoor.Ma
structure Put (s:Spc):Prop where
 sp:IsSpec s
 tok:∀i∈s.sec,Tok i
 chn:Chn Nb s.sec
inductive Rp:List Sg→List Sg→Prop
 |nil:Rp [] []
 |keep (i:It) (a b:List Sg):Rp a b→Rp (.keep i::a) (.keep i::b)
 |sp (s s':Spc) (n:List UInt8) (a b:List Sg):Put s'→Rp a b→Rp (.sp s n::a) (.sp s' n::b)
end Go.Proofs.YtmlmkmhkmifnkaaGreatDoor.Ma
namespace Go.Proofs.YtmlmkmhkmifnkaaGreatDoor.Ma
section
variable {α:Type} (F:List UInt8→α→Spc) (T:α→List UInt8)
def Sg.ok:Sg→Prop
 |.keep _=>True
 |.sp s _=>IsSpec s
end
def Ord(n:Nat):Nat→List Sp→Prop
 |a,[]=>a≤n
 |a,x::l=>a≤x.from_∧x.from_<x.til∧Ord n x.til l
end Go.Proofs.YtmlmkmhkmifnkaaGreatDoor.Ma
namespace Go.Proofs.YtmlmkmhkmifnkaaGreatDoor.Ci
structure Nt where
 six:Bool
 bits:Int
 addr:List Nat
def sizeQ(six:Bool):Nat:=if six then 128 else 32
def cutB(x:Nat)(keep:Int):Nat:=if keep≤0 then 0 else if keep<8 then x&&&((255*2^(8-keep).toNat)%256)else x
def cutL(l:List Nat)(bits:Int):List Nat:=l.mapIdx fun i x=>cutB x (bits-8*i)
def rightQ(n:Nt):Bool:=decide (0≤n.bits)&&decide (n.bits≤sizeQ n.six)&&decide (cutL n.addr n.bits=n.addr)
def u8V(n:Nat):Value:=.int .u8 n
def netC(n:Nt):List Value:=.bool n.six::.int .i64 n.bits::n.addr.map u8V
def netV(n:Nt):Value:=.agg (netC n).toArray
def addrV(l:List Nat):Value:=.agg (l.map u8V).toArray
structure Nt.Fits (n:Nt):Prop where
 b1: -9223372036854775808≤n.bits
 b2:n.bits≤9223372036854775807
 len:n.addr.length=16
 by_:∀x∈n.addr,x<256
end Go.Proofs.YtmlmkmhkmifnkaaGreatDoor.Ci
namespace Go.Proofs.YtmlmkmhkmifnkaaGreatDoor.Ci
open Go.RowKit
theorem hid{p:Prop}(h:p):Hid p:=h
def Bel(w w':World):Prop:=Below w.heap.size w w'
theorem Bel.refl(w:World):Bel w w:=Below.refl _ _
theorem Bel.trans{a b c:World}(h:Bel a b)(k:Bel b c):Bel a c:=Below.trans h (Below.mono k h.size)
theorem Bel.alloc{a w:World}(h:Bel a w)(o:Obj):Bel a (w.alloc o):=Below.alloc h h.size o
theorem Bel.drew{a w:World}(h:Bel a w):Bel a w.drew:=Below.drew h
theorem Bel.drewN{a w:World}(h:Bel a w)(n:Nat):Bel a (w.drewN n):=⟨h.os,h.tape,h.output,h.size,h.block⟩
theorem Bel.setCell{a w:World}(h:Bel a w){b o:Nat}(hb:a.heap.size≤b)(v:Value):Bel a (w.setCell ⟨b,o,none⟩ v):=Below.setCell h hb v
theorem Bel.setCells{a:World}{b:Nat}(hb:a.heap.size≤b):∀(vs:List Value) (o:Nat) (w:World),Bel a w→Bel a (w.setCells b o vs)
 |[],_,_,h=>h
 |v::vs,o,w,h=>Bel.setCells hb vs (o+1) (w.setCell ⟨b,o,none⟩ v) (h.setCell hb v)
theorem Bel.heap{a w:World}(h:Bel a w){k:Nat}{o:Obj}(hk:a.heap[k]?=some o):w.heap[k]?=some o:=
 (h.block k (Array.getElem?_eq_some_iff.1 hk).1).trans hk
def cutK(l:List Nat)(bits:Int)(k:Nat):List Nat:=l.mapIdx fun i x=>if i<k then cutB x (bits-8*i)else x
theorem cutK_zero(l:List Nat)(bits:Int):cutK l bits 0=l:=by
 unfold cutK
 refine List.ext_getElem (by simp) fun i h1 h2=>by simp
theorem cutK_len(l:List Nat)(bits:Int)(k:Nat):(cutK l bits k).length=l.length:=by simp[cutK]
theorem cutK_all(l:List Nat)(bits:Int)(k:Nat)(h:l.length≤k):cutK l bits k=cutL l bits:=by
 unfold cutK cutL
 refine List.ext_getElem (by simp) fun i h1 h2=> ?_
 simp only[List.length_mapIdx]at h1
 simp[(by omega:i<k)]
theorem cutK_at(l:List Nat)(bits:Int)(k:Nat)(hk:k<l.length):(cutK l bits k)[k]?=some l[k]:=by
 simp[cutK,hk]
theorem cutK_next(l:List Nat)(bits:Int)(k:Nat)(hk:k<l.length):cutK l bits (k+1)=(cutK l bits k).set k (cutB l[k] (bits-8*k)):=by
 unfold cutK
 refine List.ext_getElem (by simp) fun i h1 h2=> ?_
 rw[List.getElem_set]
 by_cases e:k=i
 ·subst e
  simp
 ·rw[if_neg e]
  simp[(by omega:i<k+1↔i<k)]
structure CutW (w wr:World) (l:List Nat):Prop where
 bel:Bel w wr
 hc:wr.heap[w.heap.size]?=some (.cells (l.map u8V).toArray 84 (0,0))
 hr:wr.heap[w.heap.size+1]?=some (.cells (Array.replicate 16 (u8V 0)) 84 (0,0))
theorem CutW.cell{w wr:World}{l:List Nat}(h:CutW w wr l){k:Nat}{x:Nat}(hk:l[k]?=some x):wr.cell? ⟨w.heap.size,k,none⟩=some (.int .u8 (x:Int)):=by
 simp[World.cell?,h.hc,hk,u8V]
theorem CutW.set{w wr:World}{l:List Nat}(h:CutW w wr l)(k x:Nat):CutW w (wr.setCell ⟨w.heap.size,k,none⟩ (.int .u8 (x:Int))) (l.set k x):=by
 refine⟨h.bel.setCell (Nat.le_refl _) _,?_,?_⟩
 ·rw[heap_setCell_same wr _ _ _ _ _ h.hc]
  simp[u8V,List.map_set]
 ·rw[heap_setCell_other _ _ _ _ (by simp)]
  exact h.hr
theorem CutW.drew{w wr:World}{l:List Nat}(h:CutW w wr l):CutW w wr.drew l:=⟨h.bel.drew,h.hc,h.hr⟩
theorem cut_run(l:List Nat)(nb:Int)(w:World)(hl:l.length=16)(hx:∀x∈l,x<256)(h0:0≤nb)(h1:nb≤128):
 Calls Tryz.prog 197 #[addrV l,.int .i64 nb] w fun e w'=>e=.returned (addrV (cutL l nb))∧Bel w w':=by
 have HX:=hid hx
 unfold addrV
 clear hx
 go_enter Tryz.func197,Tryz.ntmps197
 go_wp2_with fail
 go_loopg [5,6,7] 16 (fun gg v5 v6 v7 wr=>∃k:Nat,v7=.int .i64 k∧k+gg=16∧Hid (CutW w wr (cutK l nb k)))
 case atStart=>
  refine⟨0,rfl,by omega,hid ⟨((Bel.refl w).alloc _).alloc _,?_,?_⟩⟩
  ·rw[cutK_zero]
   exact(Below.heap_alloc _ _ _ (by simp)).trans (heap_alloc_new w _)
  ·have:=heap_alloc_new (w.alloc (.cells (l.map u8V).toArray 84)) (.cells (Array.replicate 16 (u8V 0)) 84)
   rw[World.size_alloc]at this
   exact this
 case round=>
  obtain⟨k,rfl,hk,H⟩:=hrel
  have Hk:=hid hk
  have hkn:k≤16:=by omega
  clear hk
  by_cases hlt:k<16
  ·have hkl:k<l.length:=by omega
   have c0:=H.out.cell (cutK_at l nb k hkl)
   have hn:=cutK_next l nb k hkl
   have hxl:=HX.out _ (List.getElem_mem hkl)
   have f0:wr.frozen? ⟨w.heap.size,k,none⟩=false:=by simp[World.frozen?,H.out.hc]
   generalize hx0:l[k]=x at c0 hn hxl
   by_cases h8:nb-8*k≤0
   ·have d1:decide (nb-8*k≤0)=true:=decide_eq_true h8
    have he:cutB x (nb-8*k)=0:=if_pos h8
    rw[he]at hn
    have HN:=hid (H.out.set k 0)
    rw[←hn]at HN
    clear hn he
    go_wp2_with fail
    go_roundg (gk-1)
    case measure=>have:=Hk.out;omega
    case rel=>exact⟨k+1,by go_num,by have:=Hk.out;omega,HN⟩
   ·have d1:decide (nb-8*k≤0)=false:=decide_eq_false h8
    by_cases h9:nb-8*k<8
    ·have d2:decide (nb-8*k<8)=true:=decide_eq_true h9
     have he:cutB x (nb-8*k)=x&&&((255*2^(8-(nb-8*k)).toNat)%256):=by
      unfold cutB
      rw[if_neg h8,if_pos h9]
     rw[he]at hn
     have HN:=hid (H.out.set k (x&&&((255*2^(8-(nb-8*k)).toNat)%256))).drew
     rw[←hn]at HN
     have hb:bits .and .u8 (x:Int) (255*2^(8-(nb-8*(k:Int))).toNat%256)=((x&&&((255*2^(8-(nb-8*k)).toNat)%256):Nat):Int):=by
      rw[←u8_and_nat _ _ hxl (Nat.mod_lt _ (by decide))]
      simp
     clear hn he
     go_wp2_with fail
     go_region
     go_wp2_with fail
     go_roundg (gk-1)
     case measure=>have:=Hk.out;omega
     case rel=>exact⟨k+1,by go_num,by have:=Hk.out;omega,HN⟩
    ·have d2:decide (nb-8*k<8)=false:=decide_eq_false h9
     have he:cutB x (nb-8*k)=x:=by
      unfold cutB
      rw[if_neg h8,if_neg h9]
     rw[he]at hn
     have hs:(cutK l nb k).set k x=cutK l nb k:=by
      refine List.ext_getElem (by simp) fun i h1 h2=> ?_
      rw[List.getElem_set]
      split
      ·rename_i e
       subst e
       have:=cutK_at l nb k hkl
       rw[List.getElem?_eq_getElem (by rw[cutK_len];exact hkl),hx0]at this
       exact(Option.some.inj this).symm
      ·rfl
     have HN:=H
     rw[hs]at hn
     rw[←hn]at HN
     clear hn he hs
     go_wp2_with fail
     go_roundg (gk-1)
     case measure=>have:=Hk.out;omega
     case rel=>exact⟨k+1,by go_num,by have:=Hk.out;omega,HN⟩
  ·obtain rfl:k=16:=by omega
   have hK:cutK l nb 16=cutL l nb:=cutK_all l nb 16 (by omega)
   rw[hK]at H
   clear hK
   have hll:(cutL l nb).length=16:=by simp[cutL,hl]
   have hR:=hid (show wr.rangeAt w.heap.size 0 ((cutL l nb).map u8V)from fun j v hv=>by simp[World.cell?,H.out.hc,hv])
   have hT:=hid (show wr.there (w.heap.size+1) 0 ((cutL l nb).map u8V).toArray.size from fun j hj=>by
    have hj':j<16:=by simpa[hll]using hj
    constructor
    ·simp[World.cell?,H.out.hr,hj']
    ·simp[World.frozen?,H.out.hr])
   have hZ:=hid (show(Tryz.prog.info? 84).map (·.size)=some ((cutL l nb).map u8V).length by rw[List.length_map,hll];kernel_rfl)
   go_wp2_with (first
    |refine wpList_load_mid rfl 84 (.tmp 2) rfl w.heap.size 0 rfl ((cutL l nb).map u8V) (.array 16 5) hR.out Tryz.underlying84 rfl hZ.out ?_
    |refine wpList_store_mid rfl 84 (.tmp 4) (.tmp 31) rfl (w.heap.size+1) 0 ((cutL l nb).map u8V).toArray rfl rfl hT.out (by rw[List.size_toArray];exact hZ.out) (by simp[u8V,Value.oneCell']) ?_)
   have hl2:=run_loadVar_mid (P:=Tryz.prog) (wr.setCells (w.heap.size+1) 0 ((cutL l nb).map u8V)) (w.heap.size+1) 0 84 ((cutL l nb).map u8V) (.array 16 5)
    (World.rangeAt_setCells_same _ _ _ _ (by simpa using hT.out)) Tryz.underlying84 rfl hZ.out
   refine bodyPost_ret (v:=.agg ((cutL l nb).map u8V).toArray) (by simp[results,Tryz.results197,Act.put,asAddr,hl2]) rfl ⟨rfl,?_⟩
   exact Bel.setCells (by omega) _ _ _ H.out.bel
end Go.Proofs.YtmlmkmhkmifnkaaGreatDoor.Ci
namespace Go.Proofs.YtmlmkmhkmifnkaaGreatDoor.Ci
open Go.RowKit
theorem eq_arr16(x0 x1 x2 x3 x4 x5 x6 x7 x8 x9 x10 x11 x12 x13 x14 x15 y0 y1 y2 y3 y4 y5 y6 y7 y8 y9 y10 y11 y12 y13 y14 y15:Nat)(w:World):(Op.equalIn 10000 84 (.agg #[.int .u8 (x0:Nat),.int .u8 (x1:Nat),.int .u8 (x2:Nat),.int .u8 (x3:Nat),.int .u8 (x4:Nat),.int .u8 (x5:Nat),.int .u8 (x6:Nat),.int .u8 (x7:Nat),.int .u8 (x8:Nat),.int .u8 (x9:Nat),.int .u8 (x10:Nat),.int .u8 (x11:Nat),.int .u8 (x12:Nat),.int .u8 (x13:Nat),.int .u8 (x14:Nat),.int .u8 (x15:Nat)]) (.agg #[.int .u8 (y0:Nat),.int .u8 (y1:Nat),.int .u8 (y2:Nat),.int .u8 (y3:Nat),.int .u8 (y4:Nat),.int .u8 (y5:Nat),.int .u8 (y6:Nat),.int .u8 (y7:Nat),.int .u8 (y8:Nat),.int .u8 (y9:Nat),.int .u8 (y10:Nat),.int .u8 (y11:Nat),.int .u8 (y12:Nat),.int .u8 (y13:Nat),.int .u8 (y14:Nat),.int .u8 (y15:Nat)])).run Tryz.prog w=.ok (decide ([x0,x1,x2,x3,x4,x5,x6,x7,x8,x9,x10,x11,x12,x13,x14,x15]=[y0,y1,y2,y3,y4,y5,y6,y7,y8,y9,y10,y11,y12,y13,y14,y15])) w:=by
 have u5:=Tryz.underlying5
 have a5:=Tryz.isAgg5
 have z5:=Tryz.sizeOf5
 rw[show(10000:Nat)=9999+1 from rfl,Op.equalIn]
 simp only[Sem.run_bind,run_underlying Tryz.underlying84,Result.andThen_ok]
 simp only[Std.Legacy.Range.forIn_eq_forIn_range',Std.Legacy.Range.size,Nat.sub_zero,Nat.add_sub_cancel,Nat.div_one,List.range'_succ,List.range'_zero,List.forIn_cons,List.forIn_nil]
 go_simp
 by_cases h0:x0=y0
 case neg=>simp[h0];intros;omega
 subst h0
 by_cases h1:x1=y1
 case neg=>simp[h1];intros;omega
 subst h1
 by_cases h2:x2=y2
 case neg=>simp[h2];intros;omega
 subst h2
 by_cases h3:x3=y3
 case neg=>simp[h3];intros;omega
 subst h3
 by_cases h4:x4=y4
 case neg=>simp[h4];intros;omega
 subst h4
 by_cases h5:x5=y5
 case neg=>simp[h5];intros;omega
 subst h5
 by_cases h6:x6=y6
 case neg=>simp[h6];intros;omega
 subst h6
 by_cases h7:x7=y7
 case neg=>simp[h7];intros;omega
 subst h7
 by_cases h8:x8=y8
 case neg=>simp[h8];intros;omega
 subst h8
 by_cases h9:x9=y9
 case neg=>simp[h9];intros;omega
 subst h9
 by_cases h10:x10=y10
 case neg=>simp[h10];intros;omega
 subst h10
 by_cases h11:x11=y11
 case neg=>simp[h11];intros;omega
 subst h11
 by_cases h12:x12=y12
 case neg=>simp[h12];intros;omega
 subst h12
 by_cases h13:x13=y13
 case neg=>simp[h13];intros;omega
 subst h13
 by_cases h14:x14=y14
 case neg=>simp[h14];intros;omega
 subst h14
 by_cases h15:x15=y15
 case neg=>simp[h15];intros;omega
 subst h15
 simp
theorem eq_arr(l m:List Nat)(hl:l.length=16)(hm:m.length=16)(w:World):(Op.equalIn 10000 84 (.agg (l.map u8V).toArray) (.agg (m.map u8V).toArray)).run Tryz.prog w=.ok (decide (l=m)) w:=by
 match l,hl,m,hm with
 |[x0,x1,x2,x3,x4,x5,x6,x7,x8,x9,x10,x11,x12,x13,x14,x15],_,[y0,y1,y2,y3,y4,y5,y6,y7,y8,y9,y10,y11,y12,y13,y14,y15],_=>exact eq_arr16 x0 x1 x2 x3 x4 x5 x6 x7 x8 x9 x10 x11 x12 x13 x14 x15 y0 y1 y2 y3 y4 y5 y6 y7 y8 y9 y10 y11 y12 y13 y14 y15 w
theorem heap_setCells(b:Nat)(t:TypeId):∀(vs:List Value) (o:Nat) (w:World) (cs:List Value),w.heap[b]?=some (.cells cs.toArray t (0,0))→o+vs.length≤cs.length→
 (w.setCells b o vs).heap[b]?=some (.cells (cs.take o++vs++cs.drop (o+vs.length)).toArray t (0,0))
 |[],o,w,cs,h,_=>by
  rw[World.setCells,h]
  simp
 |v::vs,o,w,cs,h,hl=>by
  rw[List.length_cons]at hl
  have h2:(w.setCell ⟨b,o,none⟩ v).heap[b]?=some (.cells (cs.set o v).toArray t (0,0)):=by
   rw[heap_setCell_same w _ _ _ _ _ h,List.setIfInBounds_toArray]
  rw[World.setCells,heap_setCells b t vs (o+1) _ (cs.set o v) h2 (by rw[List.length_set];omega)]
  have e1:(cs.set o v).take (o+1)=cs.take o++[v]:=by
   rw[List.take_set,List.take_succ_eq_append_getElem (by omega),List.set_append_right _ _ (by rw[List.length_take];omega)]
   simp[List.length_take,Nat.min_eq_left (by omega:o≤cs.length)]
  have e2:(cs.set o v).drop (o+1+vs.length)=cs.drop (o+(v::vs).length):=by
   rw[List.drop_set_of_lt (by omega),List.length_cons]
   congr 1;omega
  rw[e1,e2]
  simp
theorem heap_setCells_whole{b:Nat}{t:TypeId}{vs cs:List Value}{w:World}(h:w.heap[b]?=some (.cells cs.toArray t (0,0)))(hl:vs.length=cs.length):
 (w.setCells b 0 vs).heap[b]?=some (.cells vs.toArray t (0,0)):=by
 rw[heap_setCells b t vs 0 w cs h (by omega),hl]
 simp
theorem heap_setCells_other(b k:Nat)(hk:k≠b):∀(vs:List Value) (o:Nat) (w:World),(w.setCells b o vs).heap[k]?=w.heap[k]?
 |[],_,_=>rfl
 |v::vs,o,w=>by rw[World.setCells,heap_setCells_other b k hk vs,heap_setCell_other _ _ _ _ hk]
theorem there_of{w:World}{b o n:Nat}{t:TypeId}{cs:List Value}(h:w.heap[b]?=some (.cells cs.toArray t (0,0)))(hl:o+n≤cs.length):w.there b o n:=fun j hj=>by
 constructor
 ·simp[World.cell?,h,(by omega:o+j<cs.length)]
 ·simp[World.frozen?,h]
theorem range_of{w:World}{b o:Nat}{t:TypeId}{cs vs:List Value}(h:w.heap[b]?=some (.cells cs.toArray t (0,0)))(hl:∀j v,vs[j]?=some v→cs[o+j]?=some v):w.rangeAt b o vs:=fun j v hv=>by
 simp[World.cell?,h,hl j v hv]
theorem alloc_second(w:World)(o p:Obj):((w.alloc o).alloc p).heap[w.heap.size+1]?=some p:=by
 have:=heap_alloc_new (w.alloc o) p
 rw[World.size_alloc]at this
 exact this
theorem size_setCells(b:Nat):∀(vs:List Value) (o:Nat) (w:World),(w.setCells b o vs).heap.size=w.heap.size
 |[],_,_=>rfl
 |v::vs,o,w=>by rw[World.setCells,size_setCells b vs,World.size_setCell]
structure Aft (w:World) where
 wd:World
 bel:Bel w wd
instance (w:World):Inhabited (Aft w):=⟨⟨w,Bel.refl w⟩⟩
theorem wp_region_aft {P:Program} {id:Nat} {Q:Exit→Act→World→Prop} {a:Act} {w:World} {l:List Oper} (hm:P.follows .mixedOrders=true) (hB:Region.lexB .any l.toArray=true)
 (h:wpQuiet P l.toArray (fun w'=>∃p:Aft w,w'=p.wd) (fun a'=>∀w',(∃p:Aft w,w'=p.wd)→Q .normal a' w') l a):(Code.region id l.toArray true).wp P Q a w:=
 wp_region_quiet (C:=fun w'=>∃p:Aft w,w'=p.wd) hm hB ⟨⟨w.drew,(Bel.refl w).drew⟩,rfl⟩ (by simpa using h)
theorem Calls.aft{P:Program}{f:FuncId}{args:Array Value}{w:World}{p:Aft w}{v:Value}(h:Calls P f args p.wd fun e w'=>e=.returned v∧Bel p.wd w'):
 Calls P f args p.wd fun e w''=>e=.returned v∧∃q:Aft w,w''=q.wd:=
 h.mono fun _ w' ⟨he,hb⟩=>⟨he,⟨w',p.bel.trans hb⟩,rfl⟩
theorem quiet_load_aft {P:Program} {ops:Array Oper} {w:World} {Q:Act→Prop} {op:Oper} {rest:List Oper} {a:Act} (ty:TypeId) (x:Operand) (ho:op.op=.load ty x)
 (b o:Nat) (hx:a.eval x=.pointer (some ⟨b,o,none⟩)) (cs:List Value) (d:TypeDesc) (hS:∀p:Aft w,p.wd.rangeAt b o cs)
 (hu:P.underlying ty=some d) (hd:d.isRow=true) (hi:(P.info? ty).map (·.size)=some cs.length) (hw:Region.wanted op (yielded ops a.tmps)=true)
 (h:∀a',a'=a.put op.dst (.agg cs.toArray)→wpQuiet P ops (fun w'=>∃p:Aft w,w'=p.wd) Q rest a'):wpQuiet P ops (fun w'=>∃p:Aft w,w'=p.wd) Q (op::rest) a:=by
 show if Region.wanted op (yielded ops a.tmps)then _ else _
 rw[if_pos hw]
 refine⟨_,?_,h _ rfl⟩
 rintro w' ⟨p,rfl⟩
 unfold Oper.quietAt execOp
 simp only[ho,hx,Instr.loadAt,Instr.sureAddr,Sem.run_bind,Sem.run_pure,Result.andThen_ok,run_loadVar_mid p.wd b o ty cs d (hS p) hu hd hi]
 exact⟨rfl,rfl⟩
end Go.Proofs.YtmlmkmhkmifnkaaGreatDoor.Ci
namespace Go.Proofs.YtmlmkmhkmifnkaaGreatDoor.Ci
open Go.RowKit
theorem size_run(b:Bool)(w:World):Calls Tryz.prog 126 #[.bool b] w fun e w'=>e=.returned (.int .i64 (sizeQ b:Nat))∧Bel w w':=by
 cases b with
 |false=>
  go_enter Tryz.func126,Tryz.ntmps126
  go_wp2_with fail
  go_ret
  exact⟨rfl,Bel.refl _⟩
 |true=>
  go_enter Tryz.func126,Tryz.ntmps126
  go_wp2_with fail
  go_ret
  exact⟨rfl,Bel.refl _⟩
theorem Aft.cell{w:World}(p:Aft w){b k:Nat}{v:Value}{cs:Array Value}{t:TypeId}(h:w.heap[b]?=some (.cells cs t (0,0)))(hv:cs[k]?=some v):p.wd.cell? ⟨b,k,none⟩=some v:=by
 simp[World.cell?,p.bel.heap h,hv]
theorem netC_six(n:Nt):(netC n).toArray[0]?=some (.bool n.six):=by simp[netC]
theorem netC_bits(n:Nt):(netC n).toArray[1]?=some (.int .i64 n.bits):=by simp[netC]
theorem Aft.range{w:World}(p:Aft w){b:Nat}{n:Nt}{t:TypeId}(h:w.heap[b]?=some (.cells (netC n).toArray t (0,0))):p.wd.rangeAt b 2 (n.addr.map u8V):=fun j v hv=>by
 refine p.cell h ?_
 simpa[netC,Nat.add_comm]using hv
theorem right_run(n:Nt)(hn:n.Fits)(w:World):Calls Tryz.prog 123 #[netV n] w fun e w'=>e=.returned (.bool (rightQ n))∧Bel w w':=by
 have HX:=hid ((Bel.refl w).alloc (.cells (netC n).toArray 86))
 have hb:=heap_alloc_new w (.cells (netC n).toArray 86)
 have c0:∀p:Aft (w.alloc (.cells (netC n).toArray 86)),p.wd.cell? ⟨w.heap.size,0,none⟩=some (.bool n.six):=fun p=>p.cell hb (netC_six n)
 have c1:∀p:Aft (w.alloc (.cells (netC n).toArray 86)),p.wd.cell? ⟨w.heap.size,1,none⟩=some (.int .i64 n.bits):=fun p=>p.cell hb (netC_bits n)
 have HR:=hid (fun p:Aft (w.alloc (.cells (netC n).toArray 86))=>p.range hb)
 have hl:=hn.len
 have hq:rightQ n=(decide (0≤n.bits)&&decide (n.bits≤(sizeQ n.six:Nat))&&decide (cutL n.addr n.bits=n.addr)):=rfl
 have hz:=hid (show(Tryz.prog.info? 84).map (·.size)=some (n.addr.map u8V).length by rw[List.length_map,hl];kernel_rfl)
 have hby:=hid hn.by_
 have h128:sizeQ n.six≤128:=by unfold sizeQ;split<;>omega
 have hcl:=eq_arr (cutL n.addr n.bits) n.addr (by simp[cutL,hl]) hl
 rw[hq]
 clear hb hn hq
 by_cases h0:0≤n.bits
 ·have d0:decide (0≤n.bits)=true:=decide_eq_true h0
  by_cases h1:n.bits≤(sizeQ n.six:Nat)
  ·have d1:decide (n.bits≤(sizeQ n.six:Nat))=true:=decide_eq_true h1
   have HC:=(show Hid (∀W,Calls Tryz.prog 197 #[.agg (n.addr.map u8V).toArray,.int .i64 n.bits] W fun e w'=>e=.returned (.agg ((cutL n.addr n.bits).map u8V).toArray)∧Bel W w')from
    fun W=>cut_run n.addr n.bits W hl hby.out h0 (by omega))
   rw[d0,d1]
   unfold netV
   go_enter Tryz.func123,Tryz.ntmps123
   go_wp2_with fail
   refine wp_region_aft (by kernel_rfl) (by kernel_rfl) ?_
   repeat (first
    |go_big_quiet_skip
    | (refine quiet_load_aft 84 _ rfl w.heap.size 2 rfl (n.addr.map u8V) (.array 16 5) HR.out Tryz.underlying84 rfl hz.out (by rfl) ?_;intro a' ha';simp only[Act.put,Array.setIfInBounds,List.size_toArray,go_sem]at ha';subst ha')
    |go_big_quiet_step (first
     | (go_at_call 126;exact Calls.aft (size_run n.six _))
     | (go_at_call 197;exact Calls.aft (HC.out _)))
    |quiet_step (first
     | (go_at_call 126;exact Calls.aft (size_run n.six _))
     | (go_at_call 197;exact Calls.aft (HC.out _))))
   refine wpQuiet_nil ?_
   rintro _ ⟨p,rfl⟩
   go_wp2_with fail
   go_ret
   exact⟨rfl,HX.out.trans p.bel⟩
  ·have d1:decide (n.bits≤(sizeQ n.six:Nat))=false:=decide_eq_false h1
   rw[d0,d1]
   unfold netV
   go_enter Tryz.func123,Tryz.ntmps123
   go_wp2_with fail
   refine wp_region_aft (by kernel_rfl) (by kernel_rfl) ?_
   repeat (go_big_quiet_step (first
    | (go_at_call 126;exact Calls.aft (size_run n.six _))))
   refine wpQuiet_nil ?_
   rintro _ ⟨p,rfl⟩
   go_wp2_with fail
   go_ret
   exact⟨rfl,HX.out.trans p.bel⟩
 ·have d0:decide (0≤n.bits)=false:=decide_eq_false h0
  rw[d0]
  unfold netV
  go_enter Tryz.func123,Tryz.ntmps123
  go_wp2_with fail
  refine wp_region_aft (by kernel_rfl) (by kernel_rfl) ?_
  repeat (go_big_quiet_step (fail))
  refine wpQuiet_nil ?_
  rintro _ ⟨p,rfl⟩
  go_wp2_with fail
  go_ret
  exact⟨rfl,HX.out.trans p.bel⟩
theorem rightQ_bits{n:Nt}(h:rightQ n=true):0≤n.bits∧n.bits≤128:=by
 unfold rightQ sizeQ at h
 simp only[Bool.and_eq_true,decide_eq_true_eq]at h
 refine⟨h.1.1,?_⟩
 have:=h.1.2
 split at this<;>omega
end Go.Proofs.YtmlmkmhkmifnkaaGreatDoor.Ci