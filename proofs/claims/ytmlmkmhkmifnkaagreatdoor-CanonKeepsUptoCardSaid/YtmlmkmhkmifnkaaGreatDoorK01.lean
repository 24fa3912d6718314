import Derived.Test.YtmlmkmhkmifnkaaGreatDoorProg
import Derived.WalkKit
namespace Go.Proofs.YtmlmkmhkmifnkaaGreatDoor.Ma
def atB(b:UInt8):Bool:=decide (128≤b.toNat)||(decide (97≤b.toNat)&&decide (b.toNat≤122))||(decide (65≤b.toNat)&&decide (b.toNat≤90))||(decide (48≤b.toNat)&&decide (b.toNat≤57))
 ||([33,35,36,37,38,39,42,43,45,47,61,63,94,95,96,123,124,125,126]:List UInt8).contains b
def blB(b:UInt8):Bool:=([32,9,13,10]:List UInt8).contains b
def sgB(b:UInt8):Bool:=([60,62,64,44,59,58,46]:List UInt8).contains b
def cmtL:List UInt8→Nat→Option Nat
 |[],_=>none
 |c::t,d=>
  if c=40 then(cmtL t (d+1)).map (· +1)
  else if c=92 then match t with
   |[]=>none
   |_::t'=>(cmtL t' d).map (· +2)
  else if c=41 then if d=1 then some 1 else(cmtL t (d-1)).map (· +1)
  else(cmtL t d).map (· +1)
def tab(b:UInt8):UInt8:=if b=9 then 32 else b
def quoL:List UInt8→Option (List UInt8×Nat)
 |[]=>none
 |c::t=>
  if c=34 then some ([],1)
  else if c=13∨c=10 then(quoL t).map fun x=>(x.1,x.2+1)
  else if c=92 then match t with
   |[]=>none
   |d::t'=>if d=13∨d=10 then none else(quoL t').map fun x=>(tab d::x.1,x.2+2)
  else if c.toNat<32∧c≠9∨c=127 then none
  else(quoL t).map fun x=>(tab c::x.1,x.2+1)
def brkL:List UInt8→Option Nat
 |[]=>none
 |c::t=>if c=93 then some 1 else if c.toNat≤32∨126<c.toNat∨c=91∨c=92 then none else(brkL t).map (· +1)
def atN:List UInt8→Nat
 |[]=>0
 |c::t=>if atB c then atN t+1 else 0
def one:List UInt8→Option (Nat×Option (UInt8×List UInt8))
 |[]=>none
 |c::t=>
  if blB c then some (1,none)
  else if c=40 then(cmtL (c::t) 0).map fun n=>(n,none)
  else if c=34 then(quoL t).map fun x=>(x.2+1,some (113,x.1))
  else if c=91 then(brkL t).map fun n=>(n+1,some (108,(c::t).take (n+1)))
  else if sgB c then some (1,some (c,[]))
  else if atB c then some (atN t+1,some (97,(c::t).take (atN t+1)))else none
structure Tk where
 kind:UInt8
 text:List UInt8
 from_:Nat
 til:Nat
def z:Tk:=⟨0,[],0,0⟩
def cutL:Nat→Nat→List UInt8→Option (List Tk)
 |0,_,_=>none
 |f+1,at_,s=>match s with
  |[]=>some [⟨101,[],at_,at_⟩]
  |c::t=>match one (c::t)with
   |none=>none
   |some (n,none)=>cutL f (at_+n) ((c::t).drop n)
   |some (n,some (k,x))=>(cutL f (at_+n) ((c::t).drop n)).map fun l=>⟨k,x,at_,at_+n⟩::l
def cutQ(s:List UInt8):Option (List Tk):=cutL (s.length+1) 0 s
structure Sp where
 loc:List UInt8
 dom:List UInt8
 from_:Nat
 til:Nat
 name:List UInt8
structure St where
 bad:Bool
 l:List Tk
 all:List Sp
def hd(st:St):Tk:=st.l.headD z
def isQ(k:UInt8)(st:St):Bool:= !st.bad&&(hd st).kind==k
def takeS(k:UInt8)(st:St):St:=if isQ k st then⟨st.bad,st.l.tail,st.all⟩else st
def takeT(k:UInt8)(st:St):Tk:=if isQ k st then hd st else z
def wantS(k:UInt8)(st:St):St:=⟨st.bad|| !isQ k st,(takeS k st).l,st.all⟩
def domLoop:Nat→List UInt8→Tk→St→List UInt8×Tk×St
 |0,s,t,st=>(s,t,st)
 |n+1,s,t,st=>if isQ 46 st then domLoop n (s++[46]++(takeT 97 (takeS 46 st)).text) (takeT 97 (takeS 46 st)) (wantS 97 (takeS 46 st))else(s,t,st)
def domQ(st:St):List UInt8×Tk×St:=
 if isQ 108 st then((takeT 108 st).text,takeT 108 st,takeS 108 st)
 else domLoop st.l.length (takeT 97 st).text (takeT 97 st) (wantS 97 st)
def wordT(st:St):List UInt8:=if isQ 113 st then(takeT 113 st).text else(takeT 97 st).text
def wordS(st:St):St:=if isQ 113 st then takeS 113 st else wantS 97 st
def locLoop:Nat→List UInt8→St→List UInt8×St
 |0,s,st=>(s,st)
 |n+1,s,st=>if isQ 46 st then locLoop n (s++([46]++wordT (takeS 46 st))) (wordS (takeS 46 st))else(s,st)
def locQ(st:St):List UInt8×St:=locLoop st.l.length (wordT st) (wordS st)
def specQ(name:List UInt8)(st:St):St:=
 let a:=locQ st
 let d:=domQ (wantS 64 a.2)
 ⟨d.2.2.bad,d.2.2.l,d.2.2.all++[⟨a.1,d.1,(hd st).from_,d.2.1.til,name⟩]⟩
def wrd(k:UInt8):Bool:=k==97||k==113
def phN:Nat→List Tk→Nat
 |_,[]=>0
 |k,t::l=>if wrd t.kind||(t.kind==46&&k !=0)then phN (k+1) l+1 else 0
def phE:Nat→Nat→List Tk→Nat
 |_,e,[]=>e
 |k,e,t::l=>if wrd t.kind||(t.kind==46&&k !=0)then phE (k+1) (if wrd t.kind then t.til else e) l else e
def phraseN(st:St):Nat:=if st.bad then 0 else phN 0 st.l
def phraseT(body:List UInt8)(st:St):List UInt8:=
 if phraseN st=0 then[]else(body.take (phE 0 0 st.l)).drop (hd st).from_
def routeQ:Nat→St→St
 |0,st=>st
 |n+1,st=>let d:=(domQ (wantS 64 st)).2.2;if isQ 44 d then routeQ n (takeS 44 d)else d
def mailboxQ(body:List UInt8)(st:St):St:=
 if(st.l.getD (phraseN st) z).kind≠60 then specQ [] st
 else
  let a:St:=⟨st.bad,st.l.drop (phraseN st+1),st.all⟩
  let b:=if isQ 64 a then wantS 58 (routeQ (a.l.length+1) a)else a
  wantS 62 (specQ (phraseT body st) b)
def commasQ(e:UInt8)(f:St→St):Nat→St→St
 |0,st=>st
 |n+1,st=>
  let a:=if !isQ 44 st&& !isQ e st&& !st.bad then f st else st
  if isQ 44 a then commasQ e f n (takeS 44 a)else wantS e a
def elementQ(body:List UInt8)(st:St):St:=
 if phraseN st=0∨(st.l.getD (phraseN st) z).kind≠58 then mailboxQ body st
 else
  let a:St:=⟨st.bad,st.l.drop (phraseN st+1),st.all⟩
  commasQ 59 (mailboxQ body) (a.l.length+1) a
def readQ(body:List UInt8):Option (List Sp):=match cutQ body with
 |none=>none
 |some l=>
  let st:=commasQ 101 (elementQ body) (l.length+1) ⟨false,l,[]⟩
  if st.bad then none else some st.all
end Go.Proofs.YtmlmkmhkmifnkaaGreatDoor.Ma
namespace Go.Proofs.YtmlmkmhkmifnkaaGreatDoor.Ma
structure It where
 gap:List UInt8
 raw:List UInt8
 kind:UInt8
 text:List UInt8
def It.b(i:It):List UInt8:=i.gap++i.raw
def flat(l:List It):List UInt8:=l.flatMap It.b
def posn:Nat→List It→List Tk
 |_,[]=>[]
 |o,i::r=>⟨i.kind,i.text,o+i.gap.length,o+i.b.length⟩::posn (o+i.b.length) r
theorem flat_cons(i:It)(l:List It):flat (i::l)=i.b++flat l:=rfl
theorem flat_app(a b:List It):flat (a++b)=flat a++flat b:=by unfold flat;rw[List.flatMap_append]
theorem posn_app:∀(a:List It) (o:Nat) (b:List It),posn o (a++b)=posn o a++posn (o+(flat a).length) b
 |[],o,b=>by simp[posn,flat]
 |i::a,o,b=>by
  rw[List.cons_append,posn,posn_app a,posn,List.cons_append,flat_cons,List.length_append,Nat.add_assoc]
theorem posn_len:∀(a:List It) (o:Nat),(posn o a).length=a.length
 |[],_=>rfl
 |i::a,o=>by rw[posn,List.length_cons,posn_len a,List.length_cons]
theorem flat_len_le:∀(a:List It),(∀i∈a,i.raw≠[])→a.length≤(flat a).length
 |[],_=>Nat.le_refl _
 |i::a,h=>by
  have h1:=flat_len_le a fun j hj=>h j (List.mem_cons_of_mem _ hj)
  have h2:i.raw.length≠0:=fun e=>h i (List.mem_cons_self ..) (List.eq_nil_of_length_eq_zero e)
  rw[flat_cons,List.length_append,List.length_cons]
  unfold It.b
  rw[List.length_append];omega
inductive Tl (w:UInt8→Bool):List It→List UInt8→Prop
 |nil:Tl w [] []
 |cons (d i:It) (c:List It) (t:List UInt8):d.kind=46→w i.kind=true→Tl w c t→Tl w (d::i::c) ([46]++i.text++t)
inductive Dots (w:UInt8→Bool):List It→List UInt8→Prop
 |mk (i:It) (c:List It) (t:List UInt8):w i.kind=true→Tl w c t→Dots w (i::c) (i.text++t)
inductive IsDom:List It→List UInt8→Prop
 |lit (i:It):i.kind=108→IsDom [i] i.text
 |dots (c:List It) (t:List UInt8):Dots (· ==97) c t→IsDom c t
structure Spc where
 sec:List It
 loc:List UInt8
 dom:List UInt8
inductive IsSpec:Spc→Prop
 |mk (l:List It) (a:It) (d:List It) (loc dom:List UInt8):Dots wrd l loc→a.kind=64→IsDom d dom→IsSpec ⟨l++a::d,loc,dom⟩
def phI:Nat→List It→Nat
 |_,[]=>0
 |k,t::l=>if wrd t.kind||(t.kind==46&&k !=0)then phI (k+1) l+1 else 0
theorem phN_posn:∀(l:List It) (k o:Nat),phN k (posn o l)=phI k l
 |[],_,_=>rfl
 |i::l,k,o=>by rw[posn,phN,phI,phN_posn l]
def IsPh(c:List It):Prop:=phI 0 c=c.length
inductive IsRoute:List It→Prop
 |none:IsRoute []
 |last (a:It) (d:List It) (t:List UInt8) (k:It):a.kind=64→IsDom d t→k.kind=58→IsRoute (a::d++[k])
 |more (a:It) (d:List It) (t:List UInt8) (k:It) (r:List It):a.kind=64→IsDom d t→k.kind=44→r≠[]→IsRoute r→IsRoute (a::d++k::r)
def nameOf(c:List It):List UInt8:=if c=[]then[]else((flat c).take (phE 0 0 (posn 0 c))).drop (hd ⟨false,posn 0 c,[]⟩).from_
inductive Sg
 |keep (i:It)
 |sp (s:Spc) (name:List UInt8)
def Sg.its:Sg→List It
 |.keep i=>[i]
 |.sp s _=>s.sec
def its(l:List Sg):List It:=l.flatMap Sg.its
def kp(l:List It):List Sg:=l.map Sg.keep
theorem its_app(a b:List Sg):its (a++b)=its a++its b:=by unfold its;rw[List.flatMap_append]
theorem its_kp:∀l,its (kp l)=l
 |[]=>rfl
 |i::l=>by
  show[i]++its (kp l)=_
  rw[its_kp l];rfl
inductive IsMb:List Sg→Prop
 |bare (s:Spc):IsSpec s→IsMb [.sp s []]
 |angle (c:List It) (lt:It) (r:List It) (s:Spc) (gt:It):IsPh c→lt.kind=60→IsRoute r→IsSpec s→gt.kind=62→IsMb (kp (c++lt::r)++[.sp s (nameOf c),.keep gt])
inductive IsList (e:UInt8) (P:List Sg→Prop):List Sg→Prop
 |end_ (k:It):k.kind=e→IsList e P [.keep k]
 |last (m:List Sg) (k:It):P m→k.kind=e→IsList e P (m++[.keep k])
 |comma (k:It) (l:List Sg):k.kind=44→IsList e P l→IsList e P (.keep k::l)
 |more (m:List Sg) (k:It) (l:List Sg):P m→k.kind=44→IsList e P l→IsList e P (m++ .keep k::l)
inductive IsEl:List Sg→Prop
 |mb (l:List Sg):IsMb l→IsEl l
 |grp (c:List It) (k:It) (l:List Sg):IsPh c→c≠[]→k.kind=58→IsList 59 IsMb l→IsEl (kp (c++[k])++l)
def IsBody(l:List Sg):Prop:=IsList 101 IsEl l
def spsOf:Nat→List Sg→List Sp
 |_,[]=>[]
 |o,.keep i::r=>spsOf (o+i.b.length) r
 |o,.sp s name::r=>⟨s.loc,s.dom,o+(s.sec.headD ⟨[],[],0,[]⟩).gap.length,o+(flat s.sec).length,name⟩::spsOf (o+(flat s.sec).length) r
theorem spsOf_app:∀(a:List Sg) (o:Nat) (b:List Sg),spsOf o (a++b)=spsOf o a++spsOf (o+(flat (its a)).length) b
 |[],o,b=>by simp[spsOf,flat,its]
 |.keep i::a,o,b=>by
  rw[List.cons_append,spsOf,spsOf_app a,spsOf]
  show _=_++spsOf (o+(i.b++flat (its a)).length) b
  rw[List.length_append,Nat.add_assoc]
 |.sp s n::a,o,b=>by
  rw[List.cons_append,spsOf,spsOf_app a,spsOf,List.cons_append]
  have e:flat (its (.sp s n::a))=flat s.sec++flat (its a):=by
   show flat (s.sec++its a)=_
   rw[flat_app]
  rw[e,List.length_append,Nat.add_assoc]
theorem spsOf_kp:∀(l:List It) (o:Nat),spsOf o (kp l)=[]
 |[],_=>rfl
 |i::l,o=>by
  show spsOf (o+i.b.length) (kp l)=[]
  exact spsOf_kp l _
theorem isQ_gs(k:UInt8)(o:Nat)(i:It)(l:List It)(all:List Sp):isQ k ⟨false,posn o (i::l),all⟩=(i.kind==k):=by
 simp[isQ,hd,posn]
theorem takeS_gs(k:UInt8)(o:Nat)(i:It)(l:List It)(all:List Sp)(h:i.kind=k):takeS k ⟨false,posn o (i::l),all⟩=⟨false,posn (o+i.b.length) l,all⟩:=by
 unfold takeS
 rw[isQ_gs,h]
 simp[posn]
theorem takeT_gs(k:UInt8)(o:Nat)(i:It)(l:List It)(all:List Sp)(h:i.kind=k):takeT k ⟨false,posn o (i::l),all⟩=⟨i.kind,i.text,o+i.gap.length,o+i.b.length⟩:=by
 unfold takeT
 rw[isQ_gs,h]
 simp[posn,hd,h]
theorem wantS_gs(k:UInt8)(o:Nat)(i:It)(l:List It)(all:List Sp)(h:i.kind=k):wantS k ⟨false,posn o (i::l),all⟩=⟨false,posn (o+i.b.length) l,all⟩:=by
 unfold wantS
 rw[takeS_gs k o i l all h,isQ_gs,h]
 simp
theorem want_bad{k:UInt8}{st:St}(h:(wantS k st).bad=false):isQ k st=true:=by
 unfold wantS at h
 simp at h
 exact h.2
theorem isQ_bad{k:UInt8}{st:St}(h:isQ k st=true):st.bad=false:=by
 unfold isQ at h
 simp at h
 exact h.1
theorem take_bad(k:UInt8)(st:St):(takeS k st).bad=st.bad:=by unfold takeS;split<;>rfl
theorem take_all(k:UInt8)(st:St):(takeS k st).all=st.all:=by unfold takeS;split<;>rfl
theorem isQ_cons{k:UInt8}{o:Nat}{l:List It}{all:List Sp}(hk:k≠0)(h:isQ k ⟨false,posn o l,all⟩=true):∃i r,l=i::r∧i.kind=k:=by
 cases l with
 |nil=>simp[isQ,hd,posn,z,Ne.symm hk]at h
 |cons i r=>rw[isQ_gs]at h;exact⟨i,r,rfl,by simpa using h⟩
theorem want_cons{k:UInt8}{o:Nat}{l:List It}{all:List Sp}(hk:k≠0)(h:(wantS k ⟨false,posn o l,all⟩).bad=false):∃i r,l=i::r∧i.kind=k:=
 isQ_cons hk (want_bad h)
theorem domLoop_bad(n:Nat)(s:List UInt8)(t:Tk)(st:St)(h:st.bad=true):domLoop n s t st=(s,t,st):=by
 cases n with
 |zero=>rfl
 |succ n=>rw[domLoop,if_neg (by simp[isQ,h])]
theorem flat_two(d i:It)(c:List It):(flat (d::i::c)).length=d.b.length+i.b.length+(flat c).length:=by
 rw[flat_cons,flat_cons,List.length_append,List.length_append];omega
theorem domLoop_sound:∀(n:Nat) (s:List UInt8) (t:Tk) (o:Nat) (l:List It) (all:List Sp),t.til=o→(domLoop n s t ⟨false,posn o l,all⟩).2.2.bad=false→
 ∃c u r,l=c++r∧Tl (· ==97) c u∧(domLoop n s t ⟨false,posn o l,all⟩).1=s++u∧(domLoop n s t ⟨false,posn o l,all⟩).2.1.til=o+(flat c).length
  ∧(domLoop n s t ⟨false,posn o l,all⟩).2.2=⟨false,posn (o+(flat c).length) r,all⟩
 |0,s,t,o,l,all,ht,_=>⟨[],[],l,rfl,.nil,by simp[domLoop],by simpa[domLoop,flat]using ht,by simp[domLoop,flat]⟩
 |n+1,s,t,o,l,all,ht,hb=>by
  rw[domLoop]at hb⊢
  by_cases hq:isQ 46 ⟨false,posn o l,all⟩=true
  ·rw[if_pos hq]at hb⊢
   obtain⟨d,l1,rfl,hd⟩:=isQ_cons (by decide) hq
   rw[takeS_gs 46 o d l1 all hd]at hb⊢
   have hw:(wantS 97 ⟨false,posn (o+d.b.length) l1,all⟩).bad=false:=by
    rcases hh:(wantS 97 ⟨false,posn (o+d.b.length) l1,all⟩).bad with _|_
    ·rfl
    ·rw[domLoop_bad _ _ _ _ hh]at hb;exact hb.symm.trans hh|>.symm▸hb
   obtain⟨i,l2,rfl,hi⟩:=want_cons (by decide) hw
   rw[wantS_gs 97 _ i l2 all hi,takeT_gs 97 _ i l2 all hi]at hb⊢
   obtain⟨c,u,r,rfl,hc,h1,h2,h3⟩:=domLoop_sound n _ _ _ l2 all rfl hb
   dsimp only at h2 h3
   refine⟨d::i::c,_,r,rfl,.cons d i c u hd (by simp[hi]) hc,?_,?_,?_⟩
   ·rw[h1];simp
   ·rw[h2,flat_two];omega
   ·rw[h3,flat_two];congr 2;omega
  ·rw[if_neg hq]
   exact⟨[],[],l,rfl,.nil,by simp,by simpa[flat]using ht,by simp[flat]⟩
theorem dom_sound(o:Nat)(l:List It)(all:List Sp)(hb:(domQ ⟨false,posn o l,all⟩).2.2.bad=false):
 ∃d t r,l=d++r∧IsDom d t∧(domQ ⟨false,posn o l,all⟩).1=t∧(domQ ⟨false,posn o l,all⟩).2.1.til=o+(flat d).length
  ∧(domQ ⟨false,posn o l,all⟩).2.2=⟨false,posn (o+(flat d).length) r,all⟩:=by
 unfold domQ at hb⊢
 by_cases hq:isQ 108 ⟨false,posn o l,all⟩=true
 ·rw[if_pos hq]
  obtain⟨i,l1,rfl,hi⟩:=isQ_cons (by decide) hq
  rw[takeS_gs 108 o i l1 all hi,takeT_gs 108 o i l1 all hi]
  exact⟨[i],i.text,l1,rfl,.lit i hi,rfl,by simp[flat],by simp[flat]⟩
 ·rw[if_neg hq]at hb⊢
  have hw:(wantS 97 ⟨false,posn o l,all⟩).bad=false:=by
   rcases hh:(wantS 97 ⟨false,posn o l,all⟩).bad with _|_
   ·rfl
   ·rw[domLoop_bad _ _ _ _ hh]at hb;exact hb.symm.trans hh|>.symm▸hb
  obtain⟨i,l2,rfl,hi⟩:=want_cons (by decide) hw
  rw[wantS_gs 97 _ i l2 all hi,takeT_gs 97 _ i l2 all hi]at hb⊢
  obtain⟨c,u,r,rfl,hc,h1,h2,h3⟩:=domLoop_sound _ _ _ _ l2 all rfl hb
  dsimp only at h2 h3
  refine⟨i::c,i.text++u,r,rfl,.dots _ _ (.mk i c u (by simp[hi]) hc),h1,?_,?_⟩
  ·rw[h2,flat_cons,List.length_append];omega
  ·rw[h3,flat_cons,List.length_append];congr 2;omega
theorem word_gs(o:Nat)(i:It)(l:List It)(all:List Sp)(h:wrd i.kind=true):wordT ⟨false,posn o (i::l),all⟩=i.text∧wordS ⟨false,posn o (i::l),all⟩=⟨false,posn (o+i.b.length) l,all⟩:=by
 unfold wordT wordS
 rw[isQ_gs]
 by_cases hq:i.kind=113
 ·rw[if_pos (by simp[hq]),if_pos (by simp[hq]),takeS_gs 113 o i l all hq,takeT_gs 113 o i l all hq]
  exact⟨rfl,rfl⟩
 ·have ha:i.kind=97:=by simpa[wrd,hq]using h
  rw[if_neg (by simp[hq]),if_neg (by simp[hq]),wantS_gs 97 o i l all ha,takeT_gs 97 o i l all ha]
  exact⟨rfl,rfl⟩
theorem word_cons{o:Nat}{l:List It}{all:List Sp}(h:(wordS ⟨false,posn o l,all⟩).bad=false):∃i r,l=i::r∧wrd i.kind=true:=by
 unfold wordS at h
 by_cases hq:isQ 113 ⟨false,posn o l,all⟩=true
 ·obtain⟨i,r,rfl,hi⟩:=isQ_cons (by decide) hq
  exact⟨i,r,rfl,by simp[wrd,hi]⟩
 ·rw[if_neg hq]at h
  obtain⟨i,r,rfl,hi⟩:=want_cons (by decide) h
  exact⟨i,r,rfl,by simp[wrd,hi]⟩
theorem locLoop_bad(n:Nat)(s:List UInt8)(st:St)(h:st.bad=true):locLoop n s st=(s,st):=by
 cases n with
 |zero=>rfl
 |succ n=>rw[locLoop,if_neg (by simp[isQ,h])]
theorem locLoop_sound:∀(n:Nat) (s:List UInt8) (o:Nat) (l:List It) (all:List Sp),(locLoop n s ⟨false,posn o l,all⟩).2.bad=false→
 ∃c u r,l=c++r∧Tl wrd c u∧locLoop n s ⟨false,posn o l,all⟩=(s++u,⟨false,posn (o+(flat c).length) r,all⟩)
 |0,s,o,l,all,_=>⟨[],[],l,rfl,.nil,by simp[locLoop,flat]⟩
 |n+1,s,o,l,all,hb=>by
  rw[locLoop]at hb⊢
  by_cases hq:isQ 46 ⟨false,posn o l,all⟩=true
  ·rw[if_pos hq]at hb⊢
   obtain⟨d,l1,rfl,hd⟩:=isQ_cons (by decide) hq
   rw[takeS_gs 46 o d l1 all hd]at hb⊢
   have hw:(wordS ⟨false,posn (o+d.b.length) l1,all⟩).bad=false:=by
    rcases hh:(wordS ⟨false,posn (o+d.b.length) l1,all⟩).bad with _|_
    ·rfl
    ·rw[locLoop_bad _ _ _ hh]at hb;exact hb.symm.trans hh|>.symm▸hb
   obtain⟨i,l2,rfl,hi⟩:=word_cons hw
   rw[(word_gs _ i l2 all hi).1,(word_gs _ i l2 all hi).2]at hb⊢
   obtain⟨c,u,r,rfl,hc,h1⟩:=locLoop_sound n _ _ l2 all hb
   refine⟨d::i::c,_,r,rfl,.cons d i c u hd hi hc,?_⟩
   rw[h1,flat_two]
   refine Prod.ext ?_ ?_
   ·simp
   ·show(⟨false,_,all⟩:St)=⟨false,_,all⟩
    congr 2;omega
  ·rw[if_neg hq]
   exact⟨[],[],l,rfl,.nil,by simp[flat]⟩
theorem loc_sound(o:Nat)(l:List It)(all:List Sp)(hb:(locQ ⟨false,posn o l,all⟩).2.bad=false):
 ∃c t r,l=c++r∧Dots wrd c t∧locQ ⟨false,posn o l,all⟩=(t,⟨false,posn (o+(flat c).length) r,all⟩):=by
 unfold locQ at hb⊢
 have hw:(wordS ⟨false,posn o l,all⟩).bad=false:=by
  rcases hh:(wordS ⟨false,posn o l,all⟩).bad with _|_
  ·rfl
  ·rw[locLoop_bad _ _ _ hh]at hb;exact hb.symm.trans hh|>.symm▸hb
 obtain⟨i,l2,rfl,hi⟩:=word_cons hw
 rw[(word_gs _ i l2 all hi).1,(word_gs _ i l2 all hi).2]at hb⊢
 obtain⟨c,u,r,rfl,hc,h1⟩:=locLoop_sound _ _ _ l2 all hb
 refine⟨i::c,i.text++u,r,rfl,.mk i c u hi hc,?_⟩
 rw[h1,flat_cons,List.length_append,Nat.add_assoc]
theorem locLoop_all:∀(n:Nat) (s:List UInt8) (st:St),(locLoop n s st).2.all=st.all
 |0,_,_=>rfl
 |n+1,s,st=>by
  rw[locLoop]
  split
  ·rw[locLoop_all n]
   unfold wordS
   split<;>simp[take_all,wantS]
  ·rfl
theorem dom_bad(st:St)(h:st.bad=true):(domQ st).2.2.bad=true:=by
 unfold domQ
 rw[if_neg (by simp[isQ,h]),domLoop_bad _ _ _ _ (by simp[wantS,h])]
 simp[wantS,h]
theorem loc_bad(st:St)(h:st.bad=true):(locQ st).2.bad=true:=by
 unfold locQ
 have hw:(wordS st).bad=true:=by
  unfold wordS
  rw[if_neg (by simp[isQ,h])]
  simp[wantS,h]
 rw[locLoop_bad _ _ _ hw]
 exact hw
theorem spec_bad(name:List UInt8)(st:St)(h:st.bad=true):(specQ name st).bad=true:=by
 unfold specQ
 exact dom_bad _ (by simp[wantS,loc_bad _ h])
theorem good_of{b:Bool}(h:¬b=true):b=false:=by simpa using h
theorem spec_sound(name:List UInt8)(o:Nat)(l:List It)(all:List Sp)(hb:(specQ name ⟨false,posn o l,all⟩).bad=false):
 ∃s r,l=s.sec++r∧IsSpec s∧specQ name ⟨false,posn o l,all⟩=⟨false,posn (o+(flat s.sec).length) r,all++spsOf o [.sp s name]⟩:=by
 unfold specQ at hb⊢
 have h1:(locQ ⟨false,posn o l,all⟩).2.bad=false:=good_of fun h=>by
  rw[show(domQ (wantS 64 (locQ ⟨false,posn o l,all⟩).2)).2.2.bad=true from dom_bad _ (by simp[wantS,h])]at hb
  exact absurd hb (by simp)
 obtain⟨c,t,r1,rfl,hc,e1⟩:=loc_sound o l all h1
 rw[e1]at hb⊢
 dsimp only at hb⊢
 have h2:(wantS 64 ⟨false,posn (o+(flat c).length) r1,all⟩).bad=false:=good_of fun h=>by
  rw[show(domQ (wantS 64 ⟨false,posn (o+(flat c).length) r1,all⟩)).2.2.bad=true from dom_bad _ h]at hb
  exact absurd hb (by simp)
 obtain⟨a,r2,rfl,ha⟩:=want_cons (by decide) h2
 rw[wantS_gs 64 _ a r2 all ha]at hb⊢
 obtain⟨d,u,r3,rfl,hd,e3,e4,e5⟩:=dom_sound _ r2 all hb
 refine⟨⟨c++a::d,t,u⟩,r3,by simp,.mk c a d t u hc ha hd,?_⟩
 rw[e3,e4,e5]
 obtain⟨i,c,t,hi,hc⟩:=hc
 show(⟨false,_,all++[⟨_,_,_,_,_⟩]⟩:St)=⟨false,_,all++[⟨_,_,_,_,_⟩]⟩
 have e:(flat ((i::c)++a::d)).length=(flat (i::c)).length+a.b.length+(flat d).length:=by
  rw[flat_app,flat_cons a,List.length_append,List.length_append];omega
 rw[e]
 have e':o+(flat (i::c)).length+a.b.length+(flat d).length=o+((flat (i::c)).length+a.b.length+(flat d).length):=by omega
 rw[e']
 rfl
end Go.Proofs.YtmlmkmhkmifnkaaGreatDoor.Ma
namespace Go.Proofs.YtmlmkmhkmifnkaaGreatDoor.Ma
def stops(k:Nat)(x:It):Prop:=(wrd x.kind||(x.kind==46&&k !=0))=false
theorem phI_split:∀(l:List It) (k:Nat),∃c r,l=c++r∧phI k l=c.length∧phI k c=c.length
 |[],_=>⟨[],[],rfl,rfl,rfl⟩
 |t::l,k=>by
  obtain⟨c,r,rfl,h1,h2⟩:=phI_split l (k+1)
  by_cases h:(wrd t.kind||(t.kind==46&&k !=0))=true
  ·exact⟨t::c,r,rfl,by rw[phI,if_pos h,h1,List.length_cons],by rw[phI,if_pos h,h2,List.length_cons]⟩
  ·exact⟨[],t::(c++r),rfl,by rw[phI,if_neg h];rfl,rfl⟩
theorem phI_app:∀(c:List It) (k:Nat) (x:It) (r:List It),phI k c=c.length→stops (k+c.length) x→phI k (c++x::r)=c.length
 |[],k,x,r,_,hx=>by
  rw[List.nil_append,phI,if_neg (by unfold stops at hx;rw[List.length_nil,Nat.add_zero]at hx;rw[hx];simp)];rfl
 |t::c,k,x,r,hc,hx=>by
  rw[List.cons_append,phI]
  rw[phI]at hc
  by_cases h:(wrd t.kind||(t.kind==46&&k !=0))=true
  ·rw[if_pos h]at hc⊢
   rw[List.length_cons]at hc hx⊢
   rw[phI_app c (k+1) x r (by omega) (by rw[show k+1+c.length=k+(c.length+1) by omega];exact hx)]
  ·rw[if_neg h]at hc;simp at hc
theorem phE_app:∀(c:List It) (k e o:Nat) (x:It) (r:List It),phI k c=c.length→stops (k+c.length) x→phE k e (posn o (c++x::r))=phE k e (posn o c)
 |[],k,e,o,x,r,_,hx=>by
  simp only[List.nil_append,posn,phE]
  rw[if_neg (by unfold stops at hx;rw[List.length_nil,Nat.add_zero]at hx;rw[hx];simp)]
 |t::c,k,e,o,x,r,hc,hx=>by
  rw[List.cons_append,posn,phE,posn,phE]
  rw[phI]at hc
  by_cases h:(wrd t.kind||(t.kind==46&&k !=0))=true
  ·rw[if_pos h]at hc⊢
   rw[if_pos h]
   rw[List.length_cons]at hc hx
   rw[phE_app c (k+1) _ _ x r (by omega) (by rw[show k+1+c.length=k+(c.length+1) by omega];exact hx)]
  ·rw[if_neg h]at hc;simp at hc
theorem phE_shift:∀(c:List It) (k e o p:Nat),phE k (o+e) (posn (o+p) c)=o+phE k e (posn p c)
 |[],_,_,_,_=>rfl
 |t::c,k,e,o,p=>by
  rw[posn,phE,posn,phE]
  show(if(wrd t.kind||(t.kind==46&&k !=0))=true then phE (k+1) (if wrd t.kind=true then o+p+t.b.length else o+e) (posn (o+p+t.b.length) c)else o+e)=o+(if(wrd t.kind||(t.kind==46&&k !=0))=true then phE (k+1) (if wrd t.kind=true then p+t.b.length else e) (posn (p+t.b.length) c)else e)
  by_cases h:(wrd t.kind||(t.kind==46&&k !=0))=true
  ·rw[if_pos h,if_pos h,Nat.add_assoc]
   by_cases hw:wrd t.kind=true
   ·rw[if_pos hw,if_pos hw];exact phE_shift c _ _ _ _
   ·rw[if_neg hw,if_neg hw];exact phE_shift c _ _ _ _
  ·rw[if_neg h,if_neg h]
theorem phE_le:∀(c:List It) (k e p:Nat),e≤p→phE k e (posn p c)≤p+(flat c).length
 |[],_,e,p,h=>by simpa[posn,phE,flat]using h
 |t::c,k,e,p,h=>by
  rw[posn,phE,flat_cons,List.length_append]
  show(if(wrd t.kind||(t.kind==46&&k !=0))=true then phE (k+1) (if wrd t.kind=true then p+t.b.length else e) (posn (p+t.b.length) c)else e)≤_
  by_cases h1:(wrd t.kind||(t.kind==46&&k !=0))=true
  ·rw[if_pos h1]
   by_cases hw:wrd t.kind=true
   ·rw[if_pos hw]
    have:=phE_le c (k+1) (p+t.b.length) (p+t.b.length) (Nat.le_refl _)
    omega
   ·rw[if_neg hw]
    have:=phE_le c (k+1) e (p+t.b.length) (by omega)
    omega
  ·rw[if_neg h1];omega
def Fits(body:List UInt8)(o:Nat)(l:List It):Prop:=∃pre:List UInt8,pre.length=o∧body=pre++flat l
theorem Fits.app{body:List UInt8}{o:Nat}{a b:List It}(h:Fits body o (a++b)):Fits body (o+(flat a).length) b:=by
 obtain⟨pre,rfl,rfl⟩:=h
 exact⟨pre++flat a,by rw[List.length_append],by rw[flat_app,List.append_assoc]⟩
theorem Fits.cons{body:List UInt8}{o:Nat}{i:It}{b:List It}(h:Fits body o (i::b)):Fits body (o+i.b.length) b:=by
 have:=Fits.app (a:=[i]) h
 simpa[flat]using this
theorem name_eq(body:List UInt8)(o:Nat)(c:List It)(x:It)(r:List It)(all:List Sp)(hf:Fits body o (c++x::r))(hc:IsPh c)(hx:stops c.length x):
 phraseN ⟨false,posn o (c++x::r),all⟩=c.length∧phraseT body ⟨false,posn o (c++x::r),all⟩=nameOf c:=by
 have h1:phraseN ⟨false,posn o (c++x::r),all⟩=c.length:=by
  show phN 0 (posn o (c++x::r))=_
  rw[phN_posn]
  exact phI_app c 0 x r hc (by rw[Nat.zero_add];exact hx)
 refine⟨h1,?_⟩
 unfold phraseT nameOf
 rw[h1]
 cases c with
 |nil=>rfl
 |cons i c=>
  rw[if_neg (by simp),if_neg (by simp)]
  obtain⟨pre,hp,rfl⟩:=hf
  have hw:wrd i.kind=true:=by
   unfold IsPh at hc
   rw[phI]at hc
   by_cases h:(wrd i.kind||(i.kind==46&&0 !=0))=true
   ·simpa using h
   ·rw[if_neg h]at hc;simp at hc
  show List.drop (o+i.gap.length) (List.take (phE 0 0 (posn o ((i::c)++x::r))) _)=List.drop (0+i.gap.length) (List.take (phE 0 0 (posn 0 (i::c))) _)
  rw[phE_app (i::c) 0 0 o x r hc (by rw[Nat.zero_add];exact hx)]
  have e:phE 0 0 (posn o (i::c))=o+phE 0 0 (posn 0 (i::c)):=by
   rw[posn,phE,posn,phE]
   show(if(wrd i.kind||(i.kind==46&&0 !=0))=true then phE 1 (if wrd i.kind=true then o+i.b.length else 0) (posn (o+i.b.length) c)else 0)=o+(if(wrd i.kind||(i.kind==46&&0 !=0))=true then phE 1 (if wrd i.kind=true then 0+i.b.length else 0) (posn (0+i.b.length) c)else 0)
   rw[hw]
   simp only[Bool.true_or,if_true,Nat.zero_add]
   exact phE_shift c 1 _ o _
  have hle:phE 0 0 (posn 0 (i::c))≤(flat (i::c)).length:=by
   have:=phE_le (i::c) 0 0 0 (Nat.le_refl _)
   omega
  rw[e,flat_app,←hp,List.take_length_add_append,List.drop_length_add_append,List.take_append_of_le_length hle,Nat.zero_add]
theorem want_of_bad(k:UInt8)(st:St)(h:st.bad=true):(wantS k st).bad=true:=by simp[wantS,h]
theorem route_sound:∀(n o:Nat) (l:List It) (all:List Sp),l.length<n→(wantS 58 (routeQ n ⟨false,posn o l,all⟩)).bad=false→
 ∃c r,l=c++r∧IsRoute c∧c≠[]∧wantS 58 (routeQ n ⟨false,posn o l,all⟩)=⟨false,posn (o+(flat c).length) r,all⟩
 |0,_,_,_,hn,_=>absurd hn (by omega)
 |n+1,o,l,all,hn,hb=>by
  rw[routeQ]at hb⊢
  have h1:(wantS 64 ⟨false,posn o l,all⟩).bad=false:=good_of fun h=>by
   have hd:(domQ (wantS 64 ⟨false,posn o l,all⟩)).2.2.bad=true:=dom_bad _ h
   rw[if_neg (by simp[isQ,hd]),want_of_bad _ _ hd]at hb
   exact absurd hb (by simp)
  obtain⟨a,l1,rfl,ha⟩:=want_cons (by decide) h1
  rw[wantS_gs 64 o a l1 all ha]at hb⊢
  have h2:(domQ ⟨false,posn (o+a.b.length) l1,all⟩).2.2.bad=false:=good_of fun hd=>by
   rw[if_neg (by simp[isQ,hd]),want_of_bad _ _ hd]at hb
   exact absurd hb (by simp)
  obtain⟨d,t,l2,rfl,hd,_,_,e⟩:=dom_sound _ l1 all h2
  rw[e]at hb⊢
  by_cases hq:isQ 44 ⟨false,posn (o+a.b.length+(flat d).length) l2,all⟩=true
  ·rw[if_pos hq]at hb⊢
   obtain⟨k,l3,rfl,hk⟩:=isQ_cons (by decide) hq
   rw[takeS_gs 44 _ k l3 all hk]at hb⊢
   obtain⟨c,r,rfl,hc,hne,e2⟩:=route_sound n _ l3 all (by simp at hn;omega) hb
   refine⟨a::d++k::c,r,by simp,.more a d t k c ha hd hk hne hc,by simp,?_⟩
   rw[e2,flat_app,flat_cons,flat_cons]
   congr 2
   simp only[List.length_append];omega
  ·rw[if_neg hq]at hb⊢
   obtain⟨k,l3,rfl,hk⟩:=want_cons (by decide) hb
   rw[wantS_gs 58 _ k l3 all hk]
   refine⟨a::d++[k],l3,by simp,.last a d t k ha hd hk,by simp,?_⟩
   rw[flat_app,flat_cons,flat_cons]
   congr 2
   simp only[List.length_append,flat,List.flatMap_nil,List.length_nil];omega
end Go.Proofs.YtmlmkmhkmifnkaaGreatDoor.Ma
namespace Go.Proofs.YtmlmkmhkmifnkaaGreatDoor.Ma
theorem getD_posn(o:Nat)(c:List It)(x:It)(r:List It):(posn o (c++x::r)).getD c.length z=⟨x.kind,x.text,o+(flat c).length+x.gap.length,o+(flat c).length+x.b.length⟩:=by
 rw[posn_app,List.getD_eq_getElem?_getD,List.getElem?_append_right (by rw[posn_len];exact Nat.le_refl _),posn_len,Nat.sub_self,posn]
 rfl
theorem getD_nil(o:Nat)(c:List It):((posn o c).getD c.length z).kind=0:=by
 rw[List.getD_eq_getElem?_getD,List.getElem?_eq_none (by rw[posn_len];exact Nat.le_refl _)]
 rfl
theorem drop_posn(o:Nat)(c:List It)(x:It)(r:List It):(posn o (c++x::r)).drop (c.length+1)=posn (o+(flat c).length+x.b.length) r:=by
 have e:c++x::r=(c++[x])++r:=by simp
 rw[e,posn_app,List.drop_left' (by rw[posn_len];simp),flat_app]
 simp[flat,Nat.add_assoc]
theorem stops_of{k:Nat}{x:It}(h1:wrd x.kind=false)(h2:x.kind≠46):stops k x:=by
 unfold stops
 simp[h1,h2]
theorem ph_split(o:Nat)(l:List It)(all:List Sp):∃c r,l=c++r∧IsPh c∧phraseN ⟨false,posn o l,all⟩=c.length:=by
 obtain⟨c,r,rfl,h1,h2⟩:=phI_split l 0
 exact⟨c,r,rfl,h2,by show phN 0 (posn o (c++r))=_;rw[phN_posn,h1]⟩
theorem spec_head{s:Spc}(hs:IsSpec s):∃i t,s.sec=i::t∧wrd i.kind=true:=by
 obtain⟨c,a,d,t,u,hc,ha,hd⟩:=hs
 obtain⟨i,c,u,hi,hc⟩:=hc
 exact⟨i,c++a::d,rfl,hi⟩
theorem its_one(s:Spc)(n:List UInt8):its [.sp s n]=s.sec:=by
 show s.sec++[]=_
 rw[List.append_nil]
theorem its_angle(c:List It)(lt:It)(r:List It)(s:Spc)(n:List UInt8)(gt:It):its (kp (c++lt::r)++[.sp s n,.keep gt])=c++lt::(r++(s.sec++[gt])):=by
 rw[its_app,its_kp]
 show c++lt::r++(s.sec++([gt]++[]))=_
 simp
theorem sps_angle(o:Nat)(c:List It)(lt:It)(r:List It)(s:Spc)(n:List UInt8)(gt:It):spsOf o (kp (c++lt::r)++[.sp s n,.keep gt])=spsOf (o+(flat c).length+lt.b.length+(flat r).length) [.sp s n]:=by
 rw[spsOf_app,spsOf_kp,its_kp,flat_app,flat_cons,List.nil_append]
 simp only[List.length_append,←Nat.add_assoc]
 rfl
theorem len_angle(o:Nat)(c:List It)(lt:It)(r:List It)(s:Spc)(gt:It):o+(flat (c++lt::(r++(s.sec++[gt])))).length=o+(flat c).length+lt.b.length+(flat r).length+(flat s.sec).length+gt.b.length:=by
 rw[flat_app,flat_cons,flat_app,flat_app]
 simp only[List.length_append,flat,List.flatMap_cons,List.flatMap_nil,List.length_nil];omega
theorem mailbox_sound(body:List UInt8)(o:Nat)(l:List It)(all:List Sp)(hf:Fits body o l)(hb:(mailboxQ body ⟨false,posn o l,all⟩).bad=false):
 ∃m r,l=its m++r∧IsMb m∧mailboxQ body ⟨false,posn o l,all⟩=⟨false,posn (o+(flat (its m)).length) r,all++spsOf o m⟩:=by
 obtain⟨c,r0,rfl,hc,hn⟩:=ph_split o l all
 unfold mailboxQ at hb⊢
 by_cases hq:((posn o (c++r0)).getD (phraseN ⟨false,posn o (c++r0),all⟩) z).kind≠60
 ·rw[if_pos hq]at hb⊢
  obtain⟨s,r,e,hs,e2⟩:=spec_sound [] o _ all hb
  exact⟨[.sp s []],r,by rw[its_one];exact e,.bare s hs,by rw[e2,its_one]⟩
 ·rw[if_neg hq]at hb⊢
  have hq':((posn o (c++r0)).getD (phraseN ⟨false,posn o (c++r0),all⟩) z).kind=60:=Classical.not_not.1 hq
  cases r0 with
  |nil=>rw[hn,List.append_nil,getD_nil]at hq';exact absurd hq' (by decide)
  |cons lt r0=>
   rw[hn,getD_posn]at hq'
   have hlt:lt.kind=60:=hq'
   have hnm:=(name_eq body o c lt r0 all hf hc (stops_of (by rw[hlt];decide) (by rw[hlt];decide))).2
   simp only[hn,drop_posn,hnm]at hb⊢
   by_cases h64:isQ 64 ⟨false,posn (o+(flat c).length+lt.b.length) r0,all⟩=true
   ·rw[if_pos h64]at hb⊢
    have h2:(wantS 58 (routeQ ((posn (o+(flat c).length+lt.b.length) r0).length+1) ⟨false,posn (o+(flat c).length+lt.b.length) r0,all⟩)).bad=false:=good_of fun h=>by
     rw[want_of_bad 62 _ (spec_bad _ _ h)]at hb
     exact absurd hb (by simp)
    obtain⟨d,r1,rfl,hd,_,e⟩:=route_sound _ _ r0 all (by rw[posn_len];omega) h2
    rw[e]at hb⊢
    have h3:(specQ (nameOf c) ⟨false,posn (o+(flat c).length+lt.b.length+(flat d).length) r1,all⟩).bad=false:=good_of fun h=>by
     rw[want_of_bad 62 _ h]at hb
     exact absurd hb (by simp)
    obtain⟨s,r2,rfl,hs,e2⟩:=spec_sound _ _ _ all h3
    rw[e2]at hb⊢
    obtain⟨gt,r3,rfl,hgt⟩:=want_cons (by decide) hb
    rw[wantS_gs 62 _ gt r3 _ hgt]
    refine⟨_,r3,?_,.angle c lt d s gt hc hlt hd hs hgt,?_⟩
    ·rw[its_angle];simp
    ·rw[its_angle,sps_angle,len_angle]
   ·rw[if_neg h64]at hb⊢
    have h3:(specQ (nameOf c) ⟨false,posn (o+(flat c).length+lt.b.length) r0,all⟩).bad=false:=good_of fun h=>by
     rw[want_of_bad 62 _ h]at hb
     exact absurd hb (by simp)
    obtain⟨s,r2,rfl,hs,e2⟩:=spec_sound _ _ _ all h3
    rw[e2]at hb⊢
    obtain⟨gt,r3,rfl,hgt⟩:=want_cons (by decide) hb
    rw[wantS_gs 62 _ gt r3 _ hgt]
    refine⟨_,r3,?_,.angle c lt [] s gt hc hlt .none hs hgt,?_⟩
    ·rw[its_angle];simp
    ·rw[its_angle,sps_angle,len_angle];rfl
theorem its_keep(m:List Sg)(k:It)(l:List Sg):its (m++ .keep k::l)=its m++k::its l:=by
 rw[its_app];rfl
theorem len_keep(o:Nat)(m:List Sg)(k:It)(l:List It):o+(flat (its m++k::l)).length=o+(flat (its m)).length+k.b.length+(flat l).length:=by
 rw[flat_app,flat_cons,List.length_append,List.length_append];omega
theorem sps_keep(o:Nat)(m:List Sg)(k:It)(l:List Sg):spsOf o (m++ .keep k::l)=spsOf o m++spsOf (o+(flat (its m)).length+k.b.length) l:=by
 rw[spsOf_app];rfl
theorem commas_sound (body:List UInt8) (e:UInt8) (f:St→St) (P:List Sg→Prop) (he:e≠0)
 (hP:∀o l all,Fits body o l→(f ⟨false,posn o l,all⟩).bad=false→∃m r,l=its m++r∧P m∧f ⟨false,posn o l,all⟩=⟨false,posn (o+(flat (its m)).length) r,all++spsOf o m⟩):
 ∀(n o:Nat) (l:List It) (all:List Sp),l.length<n→Fits body o l→(commasQ e f n ⟨false,posn o l,all⟩).bad=false→
 ∃m r,l=its m++r∧IsList e P m∧commasQ e f n ⟨false,posn o l,all⟩=⟨false,posn (o+(flat (its m)).length) r,all++spsOf o m⟩:=by
 intro n
 induction n with
 |zero=>intro o l all hn;exact absurd hn (by omega)
 |succ n ih=>
  intro o l all hn hf hb
  rw[commasQ]at hb⊢
  simp only at hb⊢
  -- what stands there is read, or not
  have key:∃m r,l=its m++r∧(m=[]∨P m)∧(if(!isQ 44 ⟨false,posn o l,all⟩&& !isQ e ⟨false,posn o l,all⟩&& !false)=true then f ⟨false,posn o l,all⟩else⟨false,posn o l,all⟩)=⟨false,posn (o+(flat (its m)).length) r,all++spsOf o m⟩:=by
   by_cases hc:(!isQ 44 ⟨false,posn o l,all⟩&& !isQ e ⟨false,posn o l,all⟩&& !false)=true
   ·rw[if_pos hc]at hb⊢
    have h1:(f ⟨false,posn o l,all⟩).bad=false:=good_of fun h=>by
     rw[if_neg (by simp[isQ,h]),want_of_bad _ _ h]at hb
     exact absurd hb (by simp)
    obtain⟨m,r,e1,hm,e2⟩:=hP o l all hf h1
    exact⟨m,r,e1,.inr hm,e2⟩
   ·rw[if_neg hc]
    exact⟨[],l,rfl,.inl rfl,by simp[its,flat,spsOf]⟩
  obtain⟨m,r,rfl,hm,e1⟩:=key
  rw[e1]at hb⊢
  by_cases hq:isQ 44 ⟨false,posn (o+(flat (its m)).length) r,all++spsOf o m⟩=true
  ·rw[if_pos hq]at hb⊢
   obtain⟨k,r,rfl,hk⟩:=isQ_cons (by decide) hq
   rw[takeS_gs 44 _ k r _ hk]at hb⊢
   obtain⟨m2,r,rfl,hm2,e2⟩:=ih _ r _ (by simp at hn;omega) (hf.app.cons) hb
   refine⟨m++ .keep k::m2,r,by rw[its_keep];simp,?_,?_⟩
   ·rcases hm with rfl|hm
    ·exact .comma k m2 hk hm2
    ·exact .more m k m2 hm hk hm2
   ·rw[e2,its_keep,len_keep,sps_keep,List.append_assoc]
  ·rw[if_neg hq]at hb⊢
   obtain⟨k,r,rfl,hk⟩:=want_cons he hb
   rw[wantS_gs e _ k r _ hk]
   refine⟨m++[.keep k],r,by rw[its_keep];simp[its],?_,?_⟩
   ·rcases hm with rfl|hm
    ·exact .end_ k hk
    ·exact .last m k hm hk
   ·rw[its_keep,len_keep,sps_keep];simp[its,flat,spsOf]
theorem element_sound(body:List UInt8)(o:Nat)(l:List It)(all:List Sp)(hf:Fits body o l)(hb:(elementQ body ⟨false,posn o l,all⟩).bad=false):
 ∃m r,l=its m++r∧IsEl m∧elementQ body ⟨false,posn o l,all⟩=⟨false,posn (o+(flat (its m)).length) r,all++spsOf o m⟩:=by
 obtain⟨c,r0,rfl,hc,hn⟩:=ph_split o l all
 unfold elementQ at hb⊢
 by_cases hq:phraseN ⟨false,posn o (c++r0),all⟩=0∨((posn o (c++r0)).getD (phraseN ⟨false,posn o (c++r0),all⟩) z).kind≠58
 ·rw[if_pos hq]at hb⊢
  obtain⟨m,r,e,hm,e2⟩:=mailbox_sound body o _ all hf hb
  exact⟨m,r,e,.mb m hm,e2⟩
 ·rw[if_neg hq]at hb⊢
  rw[hn]at hq
  simp only[not_or,Classical.not_not]at hq
  obtain⟨hne,hq'⟩:=hq
  cases r0 with
  |nil=>rw[List.append_nil,getD_nil]at hq';exact absurd hq' (by decide)
  |cons k r0=>
   rw[getD_posn]at hq'
   have hk:k.kind=58:=hq'
   simp only[hn,drop_posn]at hb⊢
   obtain⟨m,r,rfl,hm,e⟩:=commas_sound body 59 (mailboxQ body) IsMb (by decide) (fun o l all=>mailbox_sound body o l all) _ _ r0 all (by rw[posn_len];omega) hf.app.cons hb
   refine⟨kp (c++[k])++m,r,?_,.grp c k m hc (fun h=>hne (by rw[h];rfl)) hk hm,?_⟩
   ·rw[its_app,its_kp];simp
   ·rw[e,its_app,its_kp,spsOf_app,spsOf_kp,its_kp,flat_app,flat_app,List.nil_append]
    have e1:(flat [k]).length=k.b.length:=by simp[flat]
    simp only[List.length_append,e1,Nat.add_assoc]
theorem body_sound(body:List UInt8)(n o:Nat)(l:List It)(all:List Sp)(hn:l.length<n)(hf:Fits body o l)(hb:(commasQ 101 (elementQ body) n ⟨false,posn o l,all⟩).bad=false):
 ∃m r,l=its m++r∧IsBody m∧commasQ 101 (elementQ body) n ⟨false,posn o l,all⟩=⟨false,posn (o+(flat (its m)).length) r,all++spsOf o m⟩:=
 commas_sound body 101 (elementQ body) IsEl (by decide) (fun o l all=>element_sound body o l all) n o l all hn hf hb
end Go.Proofs.YtmlmkmhkmifnkaaGreatDoor.Ma
namespace Go.Proofs.YtmlmkmhkmifnkaaGreatDoor.Ma
theorem cmt_loc:∀(k:Nat) (s:List UInt8) (d n:Nat),s.length≤k→cmtL s d=some n→∃c t,s=c++t∧c.length=n∧0<n∧∀t',cmtL (c++t') d=some n:=by
 intro k
 induction k with
 |zero=>intro s d n hs h;cases s with
  |nil=>simp[cmtL]at h
  |cons=>simp at hs
 |succ k ih=>
  intro s d n hs h
  cases s with
  |nil=>simp[cmtL]at h
  |cons b t=>
   have step:∀(d':Nat),(cmtL t d').map (· +1)=some n→(∀t',cmtL (b::t') d=(cmtL t' d').map (· +1))→∃c t',b::t=c++t'∧c.length=n∧0<n∧∀t',cmtL (c++t') d=some n:=by
    intro d' h he
    obtain⟨m,h1,rfl⟩:=Option.map_eq_some_iff.1 h
    obtain⟨c,u,rfl,rfl,hm,hc⟩:=ih t d' m (by simp at hs;omega) h1
    refine⟨b::c,u,rfl,rfl,by omega,fun t'=> ?_⟩
    rw[List.cons_append,he,hc];rfl
   rw[cmtL.eq_def]at h
   simp only at h
   by_cases h1:b=40
   ·rw[if_pos h1]at h
    exact step _ h fun t'=>by rw[cmtL.eq_def];simp only;rw[if_pos h1]
   ·rw[if_neg h1]at h
    by_cases h2:b=92
    ·rw[if_pos h2]at h
     cases t with
     |nil=>simp at h
     |cons b2 t=>
      obtain⟨m,h3,rfl⟩:=Option.map_eq_some_iff.1 h
      obtain⟨c,u,rfl,rfl,hm,hc⟩:=ih t d m (by simp at hs;omega) h3
      refine⟨b::b2::c,u,rfl,rfl,by omega,fun t'=> ?_⟩
      rw[List.cons_append,List.cons_append,cmtL.eq_def]
      simp only
      rw[if_neg h1,if_pos h2,hc];rfl
    ·rw[if_neg h2]at h
     by_cases h3:b=41
     ·rw[if_pos h3]at h
      by_cases h4:d=1
      ·rw[if_pos h4]at h
       obtain rfl:=Option.some.inj h
       refine⟨[b],t,rfl,rfl,by omega,fun t'=> ?_⟩
       rw[List.cons_append,cmtL.eq_def]
       simp only
       rw[if_neg h1,if_neg h2,if_pos h3,if_pos h4]
      ·rw[if_neg h4]at h
       exact step _ h fun t'=>by rw[cmtL.eq_def];simp only;rw[if_neg h1,if_neg h2,if_pos h3,if_neg h4]
     ·rw[if_neg h3]at h
      exact step _ h fun t'=>by rw[cmtL.eq_def];simp only;rw[if_neg h1,if_neg h2,if_neg h3]
theorem quo_loc:∀(k:Nat) (s:List UInt8) (x:List UInt8) (n:Nat),s.length≤k→quoL s=some (x,n)→∃c t,s=c++t∧c.length=n∧0<n∧∀t',quoL (c++t')=some (x,n):=by
 intro k
 induction k with
 |zero=>intro s x n hs h;cases s with
  |nil=>simp[quoL]at h
  |cons=>simp at hs
 |succ k ih=>
  intro s x n hs h
  cases s with
  |nil=>simp[quoL]at h
  |cons b t=>
   have step:∀(f:List UInt8→List UInt8),(quoL t).map (fun y=>(f y.1,y.2+1))=some (x,n)→(∀t',quoL (b::t')=(quoL t').map fun y=>(f y.1,y.2+1))→∃c t',b::t=c++t'∧c.length=n∧0<n∧∀t',quoL (c++t')=some (x,n):=by
    intro f h he
    obtain⟨⟨x',m⟩,h1,h2⟩:=Option.map_eq_some_iff.1 h
    obtain⟨rfl,rfl⟩:=Prod.mk.inj h2
    obtain⟨c,u,rfl,rfl,hm,hc⟩:=ih t x' m (by simp at hs;omega) h1
    refine⟨b::c,u,rfl,rfl,by omega,fun t'=> ?_⟩
    rw[List.cons_append,he,hc];rfl
   rw[quoL.eq_def]at h
   simp only at h
   by_cases h1:b=34
   ·rw[if_pos h1]at h
    obtain⟨rfl,rfl⟩:=Prod.mk.inj (Option.some.inj h)
    refine⟨[b],t,rfl,rfl,by omega,fun t'=> ?_⟩
    rw[List.cons_append,quoL.eq_def]
    simp only
    rw[if_pos h1]
   ·rw[if_neg h1]at h
    by_cases h2:b=13∨b=10
    ·rw[if_pos h2]at h
     exact step id h fun t'=>by rw[quoL.eq_def];simp only;rw[if_neg h1,if_pos h2];rfl
    ·rw[if_neg h2]at h
     by_cases h3:b=92
     ·rw[if_pos h3]at h
      cases t with
      |nil=>simp at h
      |cons b2 t=>
       simp only at h
       by_cases h4:b2=13∨b2=10
       ·rw[if_pos h4]at h;simp at h
       ·rw[if_neg h4]at h
        obtain⟨⟨x',m⟩,h5,h6⟩:=Option.map_eq_some_iff.1 h
        obtain⟨rfl,rfl⟩:=Prod.mk.inj h6
        obtain⟨c,u,rfl,rfl,hm,hc⟩:=ih t x' m (by simp at hs;omega) h5
        refine⟨b::b2::c,u,rfl,rfl,by omega,fun t'=> ?_⟩
        rw[List.cons_append,List.cons_append,quoL.eq_def]
        simp only
        rw[if_neg h1,if_neg h2,if_pos h3,if_neg h4,hc];rfl
     ·rw[if_neg h3]at h
      by_cases h4:b.toNat<32∧b≠9∨b=127
      ·rw[if_pos h4]at h;simp at h
      ·rw[if_neg h4]at h
       exact step (fun y=>tab b::y) h fun t'=>by rw[quoL.eq_def];simp only;rw[if_neg h1,if_neg h2,if_neg h3,if_neg h4]
theorem brk_loc:∀(s:List UInt8) (n:Nat),brkL s=some n→∃c t,s=c++t∧c.length=n∧0<n∧∀t',brkL (c++t')=some n
 |[],n,h=>by simp[brkL]at h
 |b::t,n,h=>by
  rw[brkL]at h
  by_cases h1:b=93
  ·rw[if_pos h1]at h
   obtain rfl:=Option.some.inj h
   exact⟨[b],t,rfl,rfl,by omega,fun t'=>by rw[List.cons_append,brkL,if_pos h1]⟩
  ·rw[if_neg h1]at h
   by_cases h2:b.toNat≤32∨126<b.toNat∨b=91∨b=92
   ·rw[if_pos h2]at h;simp at h
   ·rw[if_neg h2]at h
    obtain⟨m,h3,rfl⟩:=Option.map_eq_some_iff.1 h
    obtain⟨c,u,rfl,rfl,hm,hc⟩:=brk_loc t m h3
    exact⟨b::c,u,rfl,rfl,by omega,fun t'=>by rw[List.cons_append,brkL,if_neg h1,if_neg h2,hc];rfl⟩
def Nxt(s:List UInt8):Prop:=∀b t,s=b::t→atB b=false
theorem atN_split:∀(s:List UInt8),∃c t,s=c++t∧c.length=atN s∧(∀b∈c,atB b=true)∧Nxt t
 |[]=>⟨[],[],rfl,rfl,by simp,fun _ _ h=>by simp at h⟩
 |b::s=>by
  obtain⟨c,t,rfl,h1,h2,h3⟩:=atN_split s
  by_cases h:atB b=true
  ·refine⟨b::c,t,rfl,by rw[atN,if_pos h,List.length_cons,h1],fun x hx=> ?_,h3⟩
   rcases List.mem_cons.1 hx with rfl|hx
   ·exact h
   ·exact h2 x hx
  ·refine⟨[],b::(c++t),rfl,by rw[atN,if_neg h];rfl,by simp,fun x u e=> ?_⟩
   obtain⟨rfl,-⟩:=List.cons.inj e
   simpa using h
inductive Gap:List UInt8→Prop
 |nil:Gap []
 |bl (b:UInt8) (g:List UInt8):blB b=true→Gap g→Gap (b::g)
 |cm (c g:List UInt8):cmtL (40::c) 0=some (c.length+1)→Gap g→Gap (40::c++g)
inductive Raw:It→Prop
 |sg (g:List UInt8) (c:UInt8):sgB c=true→Raw ⟨g,[c],c,[]⟩
 |qu (g c x:List UInt8):quoL c=some (x,c.length)→Raw ⟨g,34::c,113,x⟩
 |li (g c:List UInt8):brkL c=some c.length→Raw ⟨g,91::c,108,91::c⟩
 |at_ (g:List UInt8) (b:UInt8) (c:List UInt8):(∀x∈b::c,atB x=true)→Raw ⟨g,b::c,97,b::c⟩
structure Tok (i:It):Prop where
 g:Gap i.gap
 r:Raw i
def Nb(i j:It):Prop:=i.kind=97→j.gap=[]→j.kind≠97
def Chn{α:Type}(R:α→α→Prop):List α→Prop
 |[]=>True
 |[_]=>True
 |a::b::l=>R a b∧Chn R (b::l)
def IsEnd(e:It):Prop:=Gap e.gap∧e.raw=[]∧e.kind=101∧e.text=[]
def Lx(o:Nat)(s:List UInt8)(T:List Tk):Prop:=∀f,s.length<f→cutL f o s=some T
theorem sg_ne{b:UInt8}(h:sgB b=true):atB b=false∧blB b=false∧b≠40∧b≠34∧b≠91∧b≠97∧b≠101:=by
 unfold sgB at h
 simp at h
 rcases h with h|h|h|h|h|h|h<;>subst h<;>decide
end Go.Proofs.YtmlmkmhkmifnkaaGreatDoor.Ma