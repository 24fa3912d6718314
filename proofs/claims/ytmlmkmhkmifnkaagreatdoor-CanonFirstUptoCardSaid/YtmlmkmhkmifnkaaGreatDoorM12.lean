import Derived.Test.YtmlmkmhkmifnkaaGreatDoorM11
import Derived.Lib.MapLaws
import Derived.Lib.TrimAscii
import Derived.Shelf.Abstract
set_option maxHeartbeats 16000000
set_option maxRecDepth 1000000
namespace Go.Proofs.YtmlmkmhkmifnkaaGreatDoor.Tb
open Go.RowKit
open Ci (splitL splitL_app)
theorem cmp_nil_l(b:UInt8)(l:List UInt8):Lib.compareBytes [] (b::l)= -1:=by simp[Lib.compareBytes]
theorem cmp_nil_r(b:UInt8)(l:List UInt8):Lib.compareBytes (b::l) []=1:=by simp[Lib.compareBytes]
theorem cmp_nil:Lib.compareBytes [] []=0:=by simp[Lib.compareBytes]
theorem cmp_cons(a b:UInt8)(l m:List UInt8):Lib.compareBytes (a::l) (b::m)=if a<b then -1 else if b<a then 1 else Lib.compareBytes l m:=by
 rw[Lib.compareBytes]
theorem u8_tri(a b:UInt8):a<b∨a=b∨b<a:=by
 rcases Nat.lt_trichotomy a.toNat b.toNat with h|h|h
 ·exact .inl (UInt8.lt_iff_toNat_lt.2 h)
 ·exact .inr (.inl (UInt8.toNat_inj.1 h))
 ·exact .inr (.inr (UInt8.lt_iff_toNat_lt.2 h))
theorem u8_asym{a b:UInt8}(h:a<b):¬b<a:=by
 rw[UInt8.lt_iff_toNat_lt]at*;omega
theorem u8_irr(a:UInt8):¬a<a:=by rw[UInt8.lt_iff_toNat_lt];omega
theorem u8_trans{a b c:UInt8}(h:a<b)(k:b<c):a<c:=by rw[UInt8.lt_iff_toNat_lt]at*;omega
theorem cmp_vals:∀a b:List UInt8,Lib.compareBytes a b= -1∨(Lib.compareBytes a b=0∧a=b)∨Lib.compareBytes a b=1
 |[],[]=>.inr (.inl ⟨cmp_nil,rfl⟩)
 |[],b::l=>.inl (cmp_nil_l b l)
 |a::l,[]=>.inr (.inr (cmp_nil_r a l))
 |a::l,b::m=>by
  rw[cmp_cons]
  rcases u8_tri a b with h|h|h
  ·exact .inl (if_pos h)
  ·subst h
   rw[if_neg (u8_irr a),if_neg (u8_irr a)]
   exact(cmp_vals l m).imp id (Or.imp (fun h=>⟨h.1,by rw[h.2]⟩) id)
  ·rw[if_neg (u8_asym h),if_pos h];exact .inr (.inr rfl)
theorem cmp_self:∀a:List UInt8,Lib.compareBytes a a=0
 |[]=>cmp_nil
 |a::l=>by rw[cmp_cons,if_neg (u8_irr a),if_neg (u8_irr a)];exact cmp_self l
theorem cmp_zero(a b:List UInt8):Lib.compareBytes a b=0↔a=b:=by
 constructor
 ·intro h
  rcases cmp_vals a b with h1|h1|h1
  ·omega
  ·exact h1.2
  ·omega
 ·rintro rfl;exact cmp_self a
theorem cmp_swap:∀a b:List UInt8,Lib.compareBytes a b= -Lib.compareBytes b a
 |[],[]=>by rw[cmp_nil];rfl
 |[],b::l=>by rw[cmp_nil_l,cmp_nil_r]
 |a::l,[]=>by rw[cmp_nil_l,cmp_nil_r];rfl
 |a::l,b::m=>by
  rw[cmp_cons,cmp_cons]
  rcases u8_tri a b with h|h|h
  ·rw[if_pos h,if_neg (u8_asym h),if_pos h]
  ·subst h
   rw[if_neg (u8_irr a),if_neg (u8_irr a),if_neg (u8_irr a),if_neg (u8_irr a)]
   exact cmp_swap l m
  ·rw[if_neg (u8_asym h),if_pos h,if_pos h];rfl
theorem cmp_trans:∀a b c:List UInt8,Lib.compareBytes a b<0→Lib.compareBytes b c<0→Lib.compareBytes a c<0
 |[],b,[],h,k=>by
  cases b with
  |nil=>rw[cmp_nil]at h;omega
  |cons b l=>rw[cmp_nil_r]at k;omega
 |[],_,c::n,_,_=>by rw[cmp_nil_l];omega
 |a::l,[],_,h,_=>by rw[cmp_nil_r]at h;omega
 |a::l,b::m,[],_,k=>by rw[cmp_nil_r]at k;omega
 |a::l,b::m,c::n,h,k=>by
  rw[cmp_cons]at h k⊢
  rcases u8_tri a b with h1|h1|h1
  ·rcases u8_tri b c with h2|h2|h2
   ·rw[if_pos (u8_trans h1 h2)];omega
   ·subst h2;rw[if_pos h1];omega
   ·rw[if_neg (u8_asym h2),if_pos h2]at k;omega
  ·subst h1
   rw[if_neg (u8_irr a),if_neg (u8_irr a)]at h
   rcases u8_tri a c with h2|h2|h2
   ·rw[if_pos h2];omega
   ·subst h2
    rw[if_neg (u8_irr a),if_neg (u8_irr a)]at k⊢
    exact cmp_trans l m n h k
   ·rw[if_neg (u8_asym h2),if_pos h2]at k;omega
  ·rw[if_neg (u8_asym h1),if_pos h1]at h;omega
theorem lt_tri(a b:List UInt8):ltK a b=true∨a=b∨ltK b a=true:=by
 unfold ltK
 rcases cmp_vals a b with h|h|h
 ·exact .inl (by rw[h];rfl)
 ·exact .inr (.inl h.2)
 ·refine .inr (.inr ?_)
  have:=cmp_swap b a
  rw[h]at this
  rw[this];rfl
theorem lt_irr(a:List UInt8):ltK a a=false:=by unfold ltK;rw[cmp_self];rfl
theorem lt_trans{a b c:List UInt8}(h:ltK a b=true)(k:ltK b c=true):ltK a c=true:=by
 unfold ltK at*
 exact decide_eq_true (cmp_trans a b c (of_decide_eq_true h) (of_decide_eq_true k))
theorem lt_asym{a b:List UInt8}(h:ltK a b=true):ltK b a=false:=by
 cases k:ltK b a with
 |false=>rfl
 |true=>have:=lt_trans h k;rw[lt_irr]at this;cases this
def Srt:List En→Prop
 |[]=>True
 |e::es=>(∀x∈es,ltK e.key x.key=true)∧Srt es
def ins(es:List En)(e:En):List En:=match es with
 |[]=>[e]
 |x::r=>if ltK x.key e.key then x::ins r e else e::x::r
def hasK(es:List En)(k:List UInt8):Bool:=es.any fun e=>e.key==k
theorem rank_none{es:List En}{k:List UInt8}(h:∀x∈es,ltK x.key k=false):rank es k=0:=by
 unfold rank
 rw[List.countP_eq_zero]
 intro x hx
 rw[h x hx];simp
theorem rank_le(es:List En)(k:List UInt8):rank es k≤es.length:=List.countP_le_length
theorem put_ins:∀(es:List En) (e:En),Srt es→putE es e=ins es e
 |[],e,_=>rfl
 |x::r,e,h=>by
  unfold ins
  by_cases hx:ltK x.key e.key=true
  ·rw[if_pos hx,←put_ins r e h.2]
   have:rank (x::r) e.key=rank r e.key+1:=by unfold rank;rw[List.countP_cons,if_pos hx]
   unfold putE
   rw[this];rfl
  ·rw[if_neg hx]
   have hf:∀y∈r,ltK y.key e.key=false:=fun y hy=>by
    cases hy2:ltK y.key e.key with
    |false=>rfl
    |true=>exact absurd (lt_trans (h.1 y hy) hy2) hx
   have:rank (x::r) e.key=0:=rank_none fun y hy=>by
    rcases List.mem_cons.1 hy with rfl|hy
    ·simpa using hx
    ·exact hf y hy
   unfold putE
   rw[this];rfl
theorem found_has:∀(es:List En) (k:List UInt8),Srt es→foundB es k=hasK es k
 |[],k,_=>rfl
 |x::r,k,h=>by
  by_cases hx:ltK x.key k=true
  ·have h1:rank (x::r) k=rank r k+1:=by unfold rank;rw[List.countP_cons,if_pos hx]
   have h2:foundB (x::r) k=foundB r k:=by unfold foundB;rw[h1];rfl
   have h3:(x.key==k)=false:=by
    rw[beq_eq_false_iff_ne];rintro e;rw[e,lt_irr]at hx;cases hx
   rw[h2,found_has r k h.2]
   unfold hasK
   rw[List.any_cons,h3,Bool.false_or]
  ·have hx:ltK x.key k=false:=by simpa using hx
   have hf:∀y∈r,ltK y.key k=false∧(y.key==k)=false:=fun y hy=>by
    have:=h.1 y hy
    rcases lt_tri x.key k with h4|h4|h4
    ·rw[h4]at hx;cases hx
    ·rw[h4]at this
     exact⟨lt_asym this,by rw[beq_eq_false_iff_ne];rintro e;rw[e,lt_irr]at this;cases this⟩
    ·have h5:=lt_trans h4 this
     exact⟨lt_asym h5,by rw[beq_eq_false_iff_ne];rintro e;rw[e,lt_irr]at h5;cases h5⟩
   have h1:rank (x::r) k=0:=rank_none fun y hy=>by
    rcases List.mem_cons.1 hy with rfl|hy
    ·exact hx
    ·exact(hf y hy).1
   have h2:foundB (x::r) k=(x.key==k):=by
    unfold foundB
    rw[h1]
    show decide (Lib.compareBytes x.key k=0)=_
    rw[Bool.eq_iff_iff]
    simp[cmp_zero]
   have h3:hasK r k=false:=by
    unfold hasK
    rw[List.any_eq_false]
    intro y hy
    rw[(hf y hy).2];simp
   rw[h2]
   unfold hasK at h3⊢
   rw[List.any_cons,h3,Bool.or_false]
theorem ins_mem:∀(es:List En) (e x:En),x∈ins es e↔x=e∨x∈es
 |[],e,x=>by simp[ins]
 |y::r,e,x=>by
  unfold ins
  split
  ·rw[List.mem_cons,ins_mem r e x,List.mem_cons]
   constructor
   ·rintro(h|h|h)
    ·exact .inr (.inl h)
    ·exact .inl h
    ·exact .inr (.inr h)
   ·rintro(h|h|h)
    ·exact .inr (.inl h)
    ·exact .inl h
    ·exact .inr (.inr h)
  ·rw[List.mem_cons]
theorem ins_len:∀(es:List En) (e:En),(ins es e).length=es.length+1
 |[],_=>rfl
 |y::r,e=>by
  unfold ins
  split
  ·rw[List.length_cons,ins_len r e,List.length_cons]
  ·rfl
theorem ins_srt:∀(es:List En) (e:En),Srt es→hasK es e.key=false→Srt (ins es e)
 |[],e,_,_=>⟨fun x hx=>(by cases hx),trivial⟩
 |y::r,e,h,hk=>by
  unfold hasK at hk
  rw[List.any_cons,Bool.or_eq_false_iff,beq_eq_false_iff_ne]at hk
  unfold ins
  split
  ·rename_i hy
   exact⟨fun x hx=>by
    rcases(ins_mem r e x).1 hx with rfl|hx
    ·exact hy
    ·exact h.1 x hx,ins_srt r e h.2 hk.2⟩
  ·rename_i hy
   have h2:ltK e.key y.key=true:=by
    rcases lt_tri y.key e.key with h3|h3|h3
    ·exact absurd h3 hy
    ·exact absurd h3 hk.1
    ·exact h3
   exact⟨fun x hx=>by
    rcases List.mem_cons.1 hx with rfl|hx
    ·exact h2
    ·exact lt_trans h2 (h.1 x hx),h⟩
def okE(e:En):Bool:= !(decide (320<e.key.length)||e.val.isEmpty||decide (1000<e.val.length))
def pG:List En→List En→Option (List En)
 |[],es=>some es
 |e::r,es=>if okE e&& !hasK es e.key&&es.length !=2000 then pG r (ins es e)else none
def enOf(x:Ln):En:=⟨x.key,Lib.join x.pcs [32]⟩
theorem parse_bad{bad:Int}(hb:0≤bad):∀(L:List Ln) (es:List En),parseF bad L es=none
 |[],es=>by unfold parseF;rw[if_neg (by omega)]
 |x::r,es=>by
  unfold parseF
  split
  ·rfl
  ·split
   ·rfl
   ·split
    ·rfl
    ·split
     ·rfl
     ·exact parse_bad hb r _
theorem parse_pG{bad:Int}(hb:bad<0):∀(L:List Ln) (es:List En),Srt es→parseF bad L es=pG (L.map enOf) es
 |[],es,_=>by unfold parseF;rw[if_pos hb];rfl
 |x::r,es,hs=>by
  unfold parseF
  rw[if_neg (by omega),List.map_cons,pG,found_has _ _ hs]
  have e1:okE (enOf x)= !decide (320<x.key.length∨Lib.join x.pcs [32]=[]∨1000<(Lib.join x.pcs [32]).length):=by
   unfold okE enOf
   congr 1
   rw[Bool.eq_iff_iff]
   simp[or_assoc]
  rw[e1]
  by_cases h1:320<x.key.length∨Lib.join x.pcs [32]=[]∨1000<(Lib.join x.pcs [32]).length
  ·rw[if_pos h1,decide_eq_true h1];rfl
  ·rw[if_neg h1,decide_eq_false h1]
   cases h2:hasK es x.key with
   |true=>rw[if_pos rfl,show(enOf x).key=x.key from rfl,h2];rfl
   |false=>
    rw[if_neg Bool.false_ne_true,show(enOf x).key=x.key from rfl,h2]
    by_cases h3:es.length=2000
    ·rw[if_pos h3,h3];rfl
    ·have h4:(es.length !=2000)=true:=by simpa using h3
     rw[if_neg h3,h4]
     have h5:hasK es (enOf x).key=false:=h2
     rw[show(⟨x.key,Lib.join x.pcs [32]⟩:En)=enOf x from rfl,put_ins _ _ hs]
     exact parse_pG hb r _ (ins_srt _ _ hs h5)
end Go.Proofs.YtmlmkmhkmifnkaaGreatDoor.Tb
namespace Go.Proofs.YtmlmkmhkmifnkaaGreatDoor.Tb
open Go.RowKit
open Ci (splitL splitL_app)
theorem bad_none{s:List UInt8}(h:∀b∈s,badB b=false):badAt s<0:=by
 unfold badAt
 rw[List.findIdx?_eq_none_iff.2 (by simpa using h)]
 show(-1:Int)<0
 omega
theorem bad_some{s:List UInt8}(h:¬∀b∈s,badB b=false):0≤badAt s:=by
 unfold badAt
 split
 ·exact Int.natCast_nonneg _
 ·rename_i hn
  exact absurd (by simpa using List.findIdx?_eq_none_iff.1 hn) h
end Go.Proofs.YtmlmkmhkmifnkaaGreatDoor.Tb
namespace Go.Proofs.YtmlmkmhkmifnkaaGreatDoor.Tb
open Go.RowKit
open Ci (splitL splitL_app)
open Ma (lowB lowL)
theorem low_one(b:UInt8)(h:b.toNat<128):(if 0≤lowI ((b.toNat:Nat):Int)then Lib.encodeRune (lowI ((b.toNat:Nat):Int))else[])=[lowB b]:=by
 have key:∀n:Fin 128,(if 0≤lowI ((n.val:Nat):Int)then Lib.encodeRune (lowI ((n.val:Nat):Int))else[])=[lowB (UInt8.ofNat n.val)]:=by decide+kernel
 have:=key ⟨b.toNat,h⟩
 simpa using this
theorem lowR_ascii:∀l:List UInt8,(∀b∈l,b.toNat<128)→lowR l=lowL l
 |[],_=>rfl
 |b::l,h=>by
  have hb:=h b (List.mem_cons_self ..)
  unfold lowR
  rw[Lib.mapD_step _ _ (by simp),Lib.decodeL_ascii b l hb]
  show(if 0≤lowI ((b.toNat:Nat):Int)then _ else _)++Lib.mapD lowI l=_
  rw[low_one b hb]
  have ih:=lowR_ascii l fun x hx=>h x (List.mem_cons_of_mem _ hx)
  unfold lowR at ih
  rw[ih]
  rfl
theorem dw_nil{p:UInt8→Bool}:∀{l:List UInt8},(∀x∈l,p x=true)→l.dropWhile p=[]
 |[],_=>rfl
 |b::l,h=>by
  rw[List.dropWhile_cons_of_pos (h b (List.mem_cons_self ..))]
  exact dw_nil fun x hx=>h x (List.mem_cons_of_mem _ hx)
theorem dw_all{p:UInt8→Bool}:∀{l:List UInt8},l.dropWhile p=[]→∀x∈l,p x=true
 |[],_,_,hx=>by cases hx
 |b::l,h,x,hx=>by
  by_cases hb:p b=true
  ·rw[List.dropWhile_cons_of_pos hb]at h
   rcases List.mem_cons.1 hx with rfl|hx
   ·exact hb
   ·exact dw_all h x hx
  ·rw[List.dropWhile_cons_of_neg hb]at h
   cases h
def skipR(s:List UInt8):Bool:=decide (trm s=[]∨(trm s).head?=some 35)
def blankR(s:List UInt8):Bool:=match s with
 |[]=>false
 |b::_=>isBl b
def addLast(out:List Ln)(p:List UInt8):List Ln:=match out.getLast? with
 |none=>out
 |some l=>out.dropLast++[⟨l.at_,l.key,l.pcs++[p]⟩]
structure Rs where
 at_:Nat
 out:List Ln
 bads:List Nat
def rsStep(c:Rs)(s:List UInt8):Rs:=
 ⟨c.at_+s.length+1,
  if skipR s then c.out else if blankR s then(if c.out=[]then c.out else addLast c.out (trm s))else c.out++[⟨c.at_,s,[]⟩],
  if skipR s then c.bads else if blankR s&&c.out.isEmpty then c.bads++[c.at_]else c.bads⟩
def badsOf(s:List UInt8)(k:Nat):List Nat:=match s with
 |[]=>[]
 |b::l=>if badB b then k::badsOf l (k+1)else badsOf l (k+1)
def rsAll(s:List UInt8):Rs:=(splitL 10 s).foldl rsStep ⟨0,[],badsOf s 0⟩
def valR:List UInt8→List (List UInt8)→List UInt8
 |s,[]=>s
 |s,m::r=>valR ((if s=[]then s else s++[32])++m) r
def entR(l:Ln):En:=⟨lowL (l.key.take (keyN l.key)),valR (trm (l.key.drop (keyN l.key))) l.pcs⟩
theorem valR_ne:∀(r:List (List UInt8)) (s:List UInt8),s≠[]→valR s r=Lib.join (s::r) [32]
 |[],s,_=>by rw[Lib.join_one];rfl
 |m::r,s,h=>by
  show valR ((if s=[]then s else s++[32])++m) r=_
  rw[if_neg h,valR_ne r _ (by simp[h])]
  rw[Lib.join_cons,Lib.join_cons]
  simp[Lib.joinTail]
theorem valR_join(s:List UInt8)(r:List (List UInt8))(h:∀p∈r,p≠[]):valR s r=Lib.join ((if s=[]then[]else[s])++r) [32]:=by
 by_cases hs:s=[]
 ·subst hs
  cases r with
  |nil=>rfl
  |cons m r=>
   show valR ((if([]:List UInt8)=[]then[]else[]++[32])++m) r=_
   rw[if_pos rfl,if_pos rfl,List.nil_append,List.nil_append,valR_ne r m (h m (List.mem_cons_self ..))]
 ·rw[if_neg hs,valR_ne r s hs,List.singleton_append]
structure LnRel (g r:Ln):Prop where
 at_:g.at_=r.at_
 key:g.key=lowR (r.key.take (keyN r.key))
 pcs:g.pcs=addPc [] (r.key.drop (keyN r.key))++r.pcs
 ne:∀p∈r.pcs,p≠[]
theorem LnRel.ent{g r:Ln}(h:LnRel g r)(ha:∀b∈r.key,b.toNat<128):enOf g=entR r:=by
 unfold enOf entR
 rw[h.key,h.pcs,lowR_ascii _ fun b hb=>ha b (List.mem_of_mem_take hb),valR_join _ _ h.ne]
 unfold addPc
 congr 2
theorem trim_left_idem(s:List UInt8):trm (innerL s)=trm s:=by
 unfold trm innerL Lib.trimS
 have key:∀s:List UInt8,Lib.trimLeftS (Lib.trimRightS (Lib.trimLeftS s bl2) bl2) bl2=Lib.trimLeftS (Lib.trimRightS s bl2) bl2:=by
  intro s
  induction s with
  |nil=>rfl
  |cons b l ih=>
   by_cases hb:bl2.contains b=true
   ·have e1:Lib.trimLeftS (b::l) bl2=Lib.trimLeftS l bl2:=by
     unfold Lib.trimLeftS
     rw[List.dropWhile_cons_of_pos hb]
    rw[e1,ih]
    unfold Lib.trimRightS Lib.trimLeftS
    rw[List.reverse_cons]
    by_cases hall:∀x∈l.reverse,bl2.contains x=true
    ·have e2:l.reverse.dropWhile (bl2.contains ·)=[]:=by
      exact dw_nil hall
     have e3:(l.reverse++[b]).dropWhile (bl2.contains ·)=[]:=by
      refine dw_nil fun x hx=> ?_
      rcases List.mem_append.1 hx with hx|hx
      ·exact hall x hx
      ·rw[List.mem_singleton.1 hx];exact hb
     rw[e2,e3]
    ·have e2:(l.reverse++[b]).dropWhile (bl2.contains ·)=l.reverse.dropWhile (bl2.contains ·)++[b]:=by
      rw[List.dropWhile_append]
      split
      ·rename_i h
       exact absurd (dw_all (List.isEmpty_iff.1 h)) hall
      ·rfl
     rw[e2,List.reverse_append,List.reverse_singleton,List.singleton_append,List.dropWhile_cons_of_pos hb]
   ·have e1:Lib.trimLeftS (b::l) bl2=b::l:=by
     unfold Lib.trimLeftS
     rw[List.dropWhile_cons_of_neg hb]
    rw[e1]
 exact key s
theorem inner_blank(s:List UInt8):((innerL s).length=s.length)↔blankR s=false:=by
 unfold innerL Lib.trimLeftS blankR
 cases s with
 |nil=>simp
 |cons b l=>
  show((b::l).dropWhile _).length=_↔isBl b=false
  unfold isBl
  cases hb:bl2.contains b with
  |true=>
   rw[List.dropWhile_cons_of_pos (by simpa using hb)]
   have:=(List.dropWhile_suffix (l:=l) (bl2.contains ·)).length_le
   rw[List.length_cons]
   constructor
   ·intro h;omega
   ·intro h;cases h
  |false=>
   rw[List.dropWhile_cons_of_neg (by rw[hb];simp)]
   simp
theorem trm_head(s:List UInt8)(h:trm s≠[]):(trm s).head?=(innerL s).head?:=by
 rw[←trim_left_idem]at h⊢
 have hi:innerL (innerL s)=innerL s:=by
  unfold innerL Lib.trimLeftS
  cases hx:s.dropWhile (bl2.contains ·)with
  |nil=>rfl
  |cons b l=>
   have hb:¬(bl2.contains b=true):=by
    have:=List.head?_dropWhile_not (bl2.contains ·) s
    rw[hx]at this
    simpa using this
   rw[List.dropWhile_cons_of_neg hb]
 generalize innerL s=t at h hi⊢
 unfold trm Lib.trimS
 cases t with
 |nil=>rfl
 |cons b l=>
  have hb:¬(bl2.contains b=true):=by
   intro hb
   unfold innerL Lib.trimLeftS at hi
   rw[List.dropWhile_cons_of_pos hb]at hi
   have:=(List.dropWhile_suffix (l:=l) (bl2.contains ·)).length_le
   rw[hi]at this
   simp at this
   omega
  have e:Lib.trimRightS (b::l) bl2=b::Lib.trimRightS l bl2:=by
   unfold Lib.trimRightS
   rw[List.reverse_cons,List.dropWhile_append]
   split
   ·rename_i h2
    have h3:l.reverse.dropWhile (bl2.contains ·)=[]:=List.isEmpty_iff.1 h2
    rw[List.dropWhile_cons_of_neg hb]
    rw[h3];rfl
   ·rw[List.reverse_append];rfl
  rw[e]
  unfold Lib.trimLeftS
  rw[List.dropWhile_cons_of_neg hb]
  rfl
theorem skip_iff(s:List UInt8):(trm (innerL s)=[]∨(innerL s).head?=some 35)↔skipR s=true:=by
 unfold skipR
 rw[decide_eq_true_iff,trim_left_idem]
 by_cases h:trm s=[]
 ·simp[h]
 ·rw[trm_head s h]
inductive Al:List Ln→List Ln→Prop
 |nil:Al [] []
 |cons {g r:Ln} {a b:List Ln}:LnRel g r→Al a b→Al (g::a) (r::b)
theorem Al.snoc{a b:List Ln}(h:Al a b){g r:Ln}(h2:LnRel g r):Al (a++[g]) (b++[r]):=by
 induction h with
 |nil=>exact .cons h2 .nil
 |cons h _ ih=>exact .cons h ih
theorem Al.last{a b:List Ln}(h:Al a b):(a=[]∧b=[])∨∃a' g b' r,a=a'++[g]∧b=b'++[r]∧Al a' b'∧LnRel g r:=by
 induction h with
 |nil=>exact .inl ⟨rfl,rfl⟩
 |@cons g r a b h1 h2 ih=>
  refine .inr ?_
  rcases ih with⟨rfl,rfl⟩|⟨a',g',b',r',rfl,rfl,h3,h4⟩
  ·exact⟨[],g,[],r,rfl,rfl,.nil,h1⟩
  ·exact⟨g::a',g',r::b',r',rfl,rfl,.cons h1 h3,h4⟩
theorem Al.ents{a b:List Ln}(h:Al a b)(ha:∀l∈b,∀x∈l.key,x.toNat<128):a.map enOf=b.map entR:=by
 induction h with
 |nil=>rfl
 |cons h1 _ ih=>
  rw[List.map_cons,List.map_cons,h1.ent (ha _ (List.mem_cons_self ..)),ih fun l hl=>ha l (List.mem_cons_of_mem _ hl)]
structure RsRel (c:Cs) (r:Rs):Prop where
 at_:c.at_=r.at_
 out:Al c.out r.out
 bad:c.bad<0↔r.bads=[]
theorem RsRel.step{c:Cs}{r:Rs}(h:RsRel c r)(s:List UInt8):RsRel (lnStep c s) (rsStep r s):=by
 have hat:=h.at_
 by_cases hs:skipR s=true
 ·have h1:trm (innerL s)=[]∨(innerL s).head?=some 35:=(skip_iff s).2 hs
  refine⟨?_,?_,?_⟩
  ·show c.at_+s.length+1=r.at_+s.length+1;rw[hat]
  ·show Al (lnOut c.at_ c.out s) (if skipR s then r.out else _)
   unfold lnOut;rw[if_pos h1,if_pos hs];exact h.out
  ·show lnBad c.at_ c.out c.bad s<0↔(if skipR s then r.bads else _)=[]
   unfold lnBad;rw[if_pos h1,if_pos hs];exact h.bad
 ·have h1:¬(trm (innerL s)=[]∨(innerL s).head?=some 35):=fun f=>hs ((skip_iff s).1 f)
  have hs':skipR s=false:=by simpa using hs
  cases hb:blankR s with
  |false=>
   have h2:(innerL s).length=s.length:=(inner_blank s).2 hb
   refine⟨?_,?_,?_⟩
   ·show c.at_+s.length+1=r.at_+s.length+1;rw[hat]
   ·show Al (lnOut c.at_ c.out s) (if skipR s then r.out else if blankR s then _ else r.out++[⟨r.at_,s,[]⟩])
    unfold lnOut;rw[if_neg h1,if_pos h2,hs',hb,if_neg Bool.false_ne_true,if_neg Bool.false_ne_true]
    refine h.out.snoc ⟨hat,rfl,by simp,fun p hp=>by cases hp⟩
   ·show lnBad c.at_ c.out c.bad s<0↔(if skipR s then r.bads else if blankR s&&r.out.isEmpty then _ else r.bads)=[]
    unfold lnBad;rw[if_neg h1,if_pos h2,hs',hb,if_neg Bool.false_ne_true,Bool.false_and,if_neg Bool.false_ne_true];exact h.bad
  |true=>
   have h2:¬(innerL s).length=s.length:=fun f=>by rw[(inner_blank s).1 f]at hb;cases hb
   have hne:trm s≠[]:=fun f=>h1 (.inl (by rw[trim_left_idem];exact f))
   rcases h.out.last with⟨ha,hbb⟩|⟨a',g,b',rr,ha,hbb,h3,h4⟩
   ·refine⟨?_,?_,?_⟩
    ·show c.at_+s.length+1=r.at_+s.length+1;rw[hat]
    ·show Al (lnOut c.at_ c.out s) (if skipR s then r.out else if blankR s then(if r.out=[]then r.out else _)else _)
     unfold lnOut;rw[if_neg h1,if_neg h2,hs',hb,if_neg Bool.false_ne_true,if_pos rfl,if_pos hbb,ha,hbb];exact .nil
    ·show lnBad c.at_ c.out c.bad s<0↔(if skipR s then r.bads else if blankR s&&r.out.isEmpty then r.bads++[r.at_]else r.bads)=[]
     unfold lnBad;rw[if_neg h1,if_neg h2,hs',hb,if_neg Bool.false_ne_true,ha,hbb,if_pos (show(true&&([]:List Ln).isEmpty)=true from rfl)]
     constructor
     ·intro f
      split at f
      ·omega
      ·rename_i h5
       exact absurd ⟨rfl,.inl f⟩ h5
     ·intro f;simp at f
   ·have hb0:r.out≠[]:=by rw[hbb];simp
    have ha0:c.out≠[]:=by rw[ha];simp
    refine⟨?_,?_,?_⟩
    ·show c.at_+s.length+1=r.at_+s.length+1;rw[hat]
    ·show Al (lnOut c.at_ c.out s) (if skipR s then r.out else if blankR s then(if r.out=[]then r.out else addLast r.out (trm s))else _)
     unfold lnOut addLast;rw[if_neg h1,if_neg h2,hs',hb,if_neg Bool.false_ne_true,if_pos rfl,if_neg hb0,ha,hbb]
     simp only[List.getLast?_append,List.getLast?_singleton,Option.some_or,List.dropLast_concat]
     refine h3.snoc ⟨h4.at_,h4.key,?_,?_⟩
     ·show addPc g.pcs s=_
      unfold addPc
      rw[if_neg hne,h4.pcs]
      unfold addPc
      rw[List.append_assoc]
     ·intro p hp
      rcases List.mem_append.1 hp with hp|hp
      ·exact h4.ne p hp
      ·rw[List.mem_singleton.1 hp];exact hne
    ·show lnBad c.at_ c.out c.bad s<0↔(if skipR s then r.bads else if blankR s&&r.out.isEmpty then r.bads++[r.at_]else r.bads)=[]
     have he:r.out.isEmpty=false:=by rw[hbb];simp
     unfold lnBad;rw[if_neg h1,if_neg h2,hs',hb,if_neg Bool.false_ne_true,he,if_neg (fun f=>ha0 f.1)];exact h.bad
theorem RsRel.fold{c:Cs}{r:Rs}(h:RsRel c r):∀L:List (List UInt8),RsRel (L.foldl lnStep c) (L.foldl rsStep r)
 |[]=>h
 |s::L=>(h.step s).fold L
theorem bads_nil:∀(s:List UInt8) (k:Nat),badsOf s k=[]↔∀b∈s,badB b=false
 |[],_=>by simp[badsOf]
 |b::l,k=>by
  unfold badsOf
  cases hb:badB b with
  |true=>simp[hb]
  |false=>simp[hb,bads_nil l]
theorem bad_init(s:List UInt8):badAt s<0↔badsOf s 0=[]:=by
 rw[bads_nil]
 constructor
 ·intro h
  refine Classical.byContradiction fun f=> ?_
  have:=bad_some f
  omega
 ·exact bad_none
theorem rs_rel(s:List UInt8):RsRel (cutT s) (rsAll s):=by
 unfold cutT rsAll
 exact RsRel.fold ⟨rfl,.nil,bad_init s⟩ _
theorem rs_keys{P:UInt8→Prop}:∀(L:List (List UInt8)) (r:Rs),(∀s∈L,∀b∈s,P b)→(∀l∈r.out,∀b∈l.key,P b)→∀l∈(L.foldl rsStep r).out,∀b∈l.key,P b
 |[],r,_,h=>h
 |s::L,r,hs,h=>by
  refine rs_keys L (rsStep r s) (fun x hx=>hs x (List.mem_cons_of_mem _ hx)) ?_
  have h0:=hs s (List.mem_cons_self ..)
  show∀l∈(if skipR s then r.out else if blankR s then(if r.out=[]then r.out else addLast r.out (trm s))else r.out++[⟨r.at_,s,[]⟩]),_
  split
  ·exact h
  ·split
   ·split
    ·exact h
    ·unfold addLast
     split
     ·exact h
     ·rename_i l hl
      intro x hx
      rcases List.mem_append.1 hx with hx|hx
      ·exact h x (List.dropLast_subset _ hx)
      ·rw[List.mem_singleton.1 hx]
       exact h l (List.mem_of_getLast? hl)
   ·intro x hx
    rcases List.mem_append.1 hx with hx|hx
    ·exact h x hx
    ·rw[List.mem_singleton.1 hx];exact h0
theorem split_sub:∀(s p:List UInt8),p∈splitL 10 s→∀b∈p,b∈s
 |[],p,hp,b,hb=>by
  simp only[Ci.splitL,List.mem_singleton]at hp
  subst hp;cases hb
 |c::s,p,hp,b,hb=>by
  unfold Ci.splitL at hp
  split at hp
  ·rcases List.mem_cons.1 hp with rfl|hp
   ·cases hb
   ·exact List.mem_cons_of_mem _ (split_sub s p hp b hb)
  ·cases hs:splitL 10 s with
   |nil=>exact absurd hs (Ci.splitL_ne 10 s)
   |cons q qs=>
    rw[hs]at hp
    rcases List.mem_cons.1 hp with rfl|hp
    ·rcases List.mem_cons.1 hb with rfl|hb
     ·exact List.mem_cons_self ..
     ·exact List.mem_cons_of_mem _ (split_sub s q (by rw[hs];exact List.mem_cons_self ..) b hb)
    ·exact List.mem_cons_of_mem _ (split_sub s p (by rw[hs];exact List.mem_cons_of_mem _ hp) b hb)
theorem bads_grow(L:List (List UInt8)):∀r:Rs,(L.foldl rsStep r).bads=[]→r.bads=[]:=by
 induction L with
 |nil=>exact fun _ h=>h
 |cons s L ih=>
  intro r h
  have h1:=ih _ h
  have h1:(if skipR s then r.bads else if blankR s&&r.out.isEmpty then r.bads++[r.at_]else r.bads)=[]:=h1
  split at h1
  ·exact h1
  ·split at h1
   ·simp at h1
   ·exact h1
theorem good_small7{b:UInt8}(h:badB b=false):b.toNat<128:=by
 have key:∀n:Fin 256,badB (UInt8.ofNat n.val)=false→n.val<128:=by decide+kernel
 have:=key ⟨b.toNat,b.toNat_lt⟩
 simp at this
 exact this h
theorem tparse_ref(s:List UInt8):tparse s=if 262144<s.length then none else if(rsAll s).bads≠[]then none else pG ((rsAll s).out.map entR) []:=by
 unfold tparse
 by_cases hl:262144<s.length
 ·rw[if_pos hl,if_pos hl]
 ·rw[if_neg hl,if_neg hl]
  have hr:=rs_rel s
  by_cases hb:(rsAll s).bads=[]
  ·rw[if_neg (fun f=>f hb)]
   have hbad:=hr.bad.2 hb
   rw[parse_pG hbad _ _ (show Srt []from trivial),hr.out.ents]
   have hg:∀b∈s,badB b=false:=(bads_nil s 0).1 (bads_grow _ _ hb)
   exact rs_keys (P:=fun b=>b.toNat<128) (splitL 10 s) ⟨0,[],badsOf s 0⟩ (fun p hp b hb=>good_small7 (hg b (split_sub s p hp b hb))) (fun l hl=>by cases hl)
  ·rw[if_pos hb]
   refine parse_bad ?_ _ _
   have:¬(cutT s).bad<0:=fun f=>hb (hr.bad.1 f)
   omega
end Go.Proofs.YtmlmkmhkmifnkaaGreatDoor.Tb
namespace Go.Proofs.YtmlmkmhkmifnkaaGreatDoor.Tb
open Go.RowKit
open Ma (Pt domainQ rightP mbQ zeroP)
def valueC(v:List UInt8):Pt×Bool×Bool:=
 if v.head?=some 64 then(⟨false,[],(domainQ (v.drop 1)).1,false⟩,true,decide ((domainQ (v.drop 1)).2.2=0)&& !(domainQ (v.drop 1)).2.1)
 else((mbQ v).1,false,decide ((mbQ v).2=0)&&(!(mbQ v).1.null&& !(mbQ v).1.dom.isEmpty))
def valsC(es:List En):Bool:=es.all fun e=>(valueC e.val).2.2
def newT:List (List UInt8)→List (List En)→Option (List (List En))
 |[],acc=>some acc
 |t::r,acc=>match tparse t with
  |none=>none
  |some es=>if valsC es then newT r (acc++[es])else none
def hostC(h:List UInt8):Bool:=decide ((domainQ h).2.2=0)&&(!(domainQ h).2.1&&decide ((domainQ h).1=h))
def newC(h:List UInt8)(L:List (List UInt8)):Except Int (List (List En)):=
 if !hostC h||decide (8<L.length)then .error 1 else match newT L []with
 |none=>.error 150
 |some ts=>.ok ts
def domC(h:List UInt8)(p:Pt):Pt:=if p.dom=[]then⟨p.null,p.loc,h,p.lit⟩else p
def toC(v:List UInt8)(q:Pt):Pt:=if(valueC v).2.1 then⟨(valueC v).1.null,q.loc,(valueC v).1.dom,(valueC v).1.lit⟩else(valueC v).1
def askC(ts:List (List En))(q:Pt):Pt:=match askQ ts q.loc q.dom with
 |none=>q
 |some v=>toC v q
def pathC(h:List UInt8)(ts:List (List En))(p:Pt):Pt:=
 if rightP p≠0∨p.null=true∨p.lit=true then p else
 if rightP (askC ts (domC h p))≠0 then p else askC ts (domC h p)
theorem newT_vals:∀(L:List (List UInt8)) (acc ts:List (List En)),newT L acc=some ts→(∀es∈acc,valsC es=true)→∀es∈ts,valsC es=true
 |[],acc,ts,h,ha=>by cases h;exact ha
 |t::r,acc,ts,h,ha=>by
  unfold newT at h
  split at h
  ·cases h
  ·rename_i es he
   split at h
   ·rename_i hv
    refine newT_vals r _ ts h fun x hx=> ?_
    rcases List.mem_append.1 hx with hx|hx
    ·exact ha x hx
    ·rw[List.mem_singleton.1 hx];exact hv
   ·cases h
theorem newT_app:∀(L:List (List UInt8)) (acc ts:List (List En)),newT L acc=some ts→∃r,ts=acc++r∧r.length=L.length
 |[],acc,ts,h=>by cases h;exact⟨[],by simp,rfl⟩
 |t::r,acc,ts,h=>by
  unfold newT at h
  split at h
  ·cases h
  ·split at h
   ·obtain⟨x,rfl,hl⟩:=newT_app r _ ts h
    exact⟨_::x,by rw[List.append_assoc];rfl,by rw[List.length_cons,List.length_cons,hl]⟩
   ·cases h
theorem exactC_in{es:List En}{k v:List UInt8}(h:exactQ es k=some v):∃e∈es,e.val=v:=by
 unfold exactQ at h
 split at h
 ·obtain⟨e,h1,rfl⟩:=Option.map_eq_some_iff.1 h
  exact⟨e,List.mem_of_getElem? h1,rfl⟩
 ·cases h
theorem askC_in{ts:List (List En)}{l d v:List UInt8}(h:askQ ts l d=some v):∃es∈ts,∃e∈es,e.val=v:=by
 unfold askQ at h
 obtain⟨es,h1,h2⟩:=List.exists_of_findSome?_eq_some h
 refine⟨es,h1,?_⟩
 unfold addrQ at h2
 split at h2
 ·rename_i v' h3
  cases h2
  exact exactC_in h3
 ·exact exactC_in h2
theorem ask_ok{ts:List (List En)}(hv:∀es∈ts,valsC es=true){l d v:List UInt8}(h:askQ ts l d=some v):(valueC v).2.2=true:=by
 obtain⟨es,h1,e,h2,rfl⟩:=askC_in h
 have:=hv es h1
 unfold valsC at this
 rw[List.all_eq_true]at this
 exact this e h2
theorem to_ref{v:List UInt8}{q:Pt}(hq:q.null=false∧q.lit=false):toC v q=if(valueC v).2.1 then⟨q.null,q.loc,(valueC v).1.dom,q.lit⟩else(valueC v).1:=by
 unfold toC
 cases h:(valueC v).2.1 with
 |false=>rfl
 |true=>
  rw[if_pos rfl,if_pos rfl]
  unfold valueC at h⊢
  split at h
  ·rename_i h1
   rw[if_pos h1,hq.1,hq.2]
  ·cases h
theorem first_same{h:List UInt8}{es:List En}{r:List (List En)}{p:Pt}{v:List UInt8}(ha:askQ [es] (domC h p).loc (domC h p).dom=some v):pathC h (es::r) p=pathC h [es] p:=by
 have e:askQ (es::r) (domC h p).loc (domC h p).dom=some v:=by
  unfold askQ at ha⊢
  rw[List.findSome?_cons]at ha⊢
  cases hx:addrQ es (domC h p).loc (domC h p).dom with
  |some x=>rw[hx]at ha;exact ha
  |none=>rw[hx]at ha;cases ha
 unfold pathC askC
 rw[e,ha]
theorem path_not_right{h:List UInt8}{ts:List (List En)}{p:Pt}(hr:rightP p≠0):pathC h ts p=p:=by
 unfold pathC
 rw[if_pos (.inl hr)]
end Go.Proofs.YtmlmkmhkmifnkaaGreatDoor.Tb
namespace Go.Proofs.YtmlmkmhkmifnkaaGreatDoor.Tb
open Go.RowKit
open Ci (Bel hid)
structure Ens (W:World) (x:Option Addr) (es:List En):Prop where
 at_:es=[]∨∃b o,x=some ⟨b,o,none⟩∧b<W.heap.size∧∀k (hk:k<es.length),W.cell? ⟨b,o+k*2,none⟩=some (.string ⟨es[k].key.toArray⟩)∧W.cell? ⟨b,o+k*2+1,none⟩=some (.string ⟨es[k].val.toArray⟩)
 ty:es=[]∨∃b o cur,x=some ⟨b,o,none⟩∧W.heap[b]?=some (.cells cur 122 (0,0))
theorem bel_cell{a w:World}(h:Bel a w){b o:Nat}(hb:b<a.heap.size):w.cell? ⟨b,o,none⟩=a.cell? ⟨b,o,none⟩:=Below.cell h hb
theorem Ens.next{W W':World}{x:Option Addr}{es:List En}(h:Ens W x es)(hb:Bel W W'):Ens W' x es:=by
 refine⟨?_,h.ty.imp id fun⟨b,o,cur,e,f⟩=>⟨b,o,cur,e,hb.heap f⟩⟩
 rcases h.at_ with f|⟨b,o,e,hs,f⟩
 ·exact .inl f
 ·exact .inr ⟨b,o,e,Nat.lt_of_lt_of_le hs hb.size,fun k hk=>⟨(bel_cell hb hs).trans (f k hk).1,(bel_cell hb hs).trans (f k hk).2⟩⟩
theorem Ens.place{W:World}{x:Option Addr}{es:List En}(h:Ens W x es){k:Nat}(hk:k<es.length):∃b o,x=some ⟨b,o,none⟩∧W.cell? ⟨b,o+k*2,none⟩=some (.string ⟨es[k].key.toArray⟩)∧W.cell? ⟨b,o+k*2+1,none⟩=some (.string ⟨es[k].val.toArray⟩):=by
 rcases h.at_ with f|⟨b,o,e,-,f⟩
 ·rw[f]at hk;cases hk
 ·exact⟨b,o,e,f k hk⟩
theorem cmp_run(a v k:ByteArray)(w:World):Calls Tryz.prog 138 #[.agg #[.string a,.string v],.string k] w fun e w'=>e=.returned (.int .i64 (Lib.compareBytes a.data.toList k.data.toList))∧Bel w w':=by
 have HC:=(show Hid (∀W,Calls Tryz.prog 139 #[.string a,.string k] W fun e w'=>e=.returned (.int .i64 (Lib.compareBytes a.data.toList k.data.toList))∧w'=W)from fun W=>Tryz.strings_Compare a k W)
 have HB:=hid ((Bel.refl w).alloc (.cells #[.string a,.string v] 122))
 generalize Lib.compareBytes a.data.toList k.data.toList=r at HC⊢
 go_enter Tryz.func138,Tryz.ntmps138
 go_wp2_with (first|(go_at_call 139;refine(HC.out _).mono ?_;rintro e w1 ⟨rfl,rfl⟩))
 go_ret
 exact⟨rfl,HB.out⟩
theorem srt_lt:∀{es:List En},Srt es→∀(i j:Nat) (hi:i<es.length) (hj:j<es.length),i<j→ltK es[i].key es[j].key=true
 |[],_,_,_,hi,_,_=>by cases hi
 |e::es,h,0,j+1,_,hj,_=>h.1 _ (List.getElem_mem _)
 |e::es,h,i+1,j+1,hi,hj,hij=>srt_lt h.2 i j (by simpa using hi) (by simpa using hj) (by omega)
theorem rank_eq{es:List En}{k:List UInt8}{lo:Nat}(hl:lo≤es.length)(h1:∀t (ht:t<es.length),t<lo→ltK es[t].key k=true)(h2:∀t (ht:t<es.length),lo≤t→ltK es[t].key k=false):rank es k=lo:=by
 have e:es=es.take lo++es.drop lo:=(List.take_append_drop lo es).symm
 have a:(es.take lo).countP (fun e=>ltK e.key k)=lo:=by
  rw[List.countP_eq_length.2 fun x hx=> ?_,List.length_take]
  ·omega
  ·obtain⟨t,ht,rfl⟩:=List.getElem_of_mem hx
   rw[List.length_take]at ht
   rw[List.getElem_take]
   exact h1 t (by omega) (by omega)
 have b:(es.drop lo).countP (fun e=>ltK e.key k)=0:=by
  rw[List.countP_eq_zero]
  intro x hx
  obtain⟨t,ht,rfl⟩:=List.getElem_of_mem hx
  rw[List.length_drop]at ht
  rw[List.getElem_drop]
  rw[h2 (lo+t) (by omega) (by omega)];simp
 unfold rank
 rw[e,List.countP_append,a,b]
 rfl
structure BsI (es:List En) (k:List UInt8) (lo hi:Nat):Prop where
 le:lo≤hi
 hle:hi≤es.length
 low:∀t (ht:t<es.length),t<lo→ltK es[t].key k=true
 high:∀t (ht:t<es.length),hi≤t→ltK es[t].key k=false
theorem BsI.up{es:List En}{k:List UInt8}{lo hi m:Nat}(h:BsI es k lo hi)(hs:Srt es)(hm:m<hi)(hm2:lo≤m)(hlt:ltK (es[m]'(Nat.lt_of_lt_of_le hm h.hle)).key k=true):BsI es k (m+1) hi:=
 ⟨hm,h.hle,fun t ht htm=>by
  by_cases e:t=m
  ·subst e;exact hlt
  ·exact lt_trans (srt_lt hs t m ht _ (by omega)) hlt,h.high⟩
theorem BsI.down{es:List En}{k:List UInt8}{lo hi m:Nat}(h:BsI es k lo hi)(hs:Srt es)(hm:m<hi)(hm2:lo≤m)(hlt:ltK (es[m]'(Nat.lt_of_lt_of_le hm h.hle)).key k=false):BsI es k lo m:=
 ⟨hm2,Nat.le_trans (Nat.le_of_lt hm) h.hle,h.low,fun t ht htm=>by
  by_cases e:t=m
  ·subst e;exact hlt
  ·cases hc:ltK es[t].key k with
   |false=>rfl
   |true=>rw[lt_trans (srt_lt hs m t _ ht (by omega)) hc]at hlt;cases hlt⟩
theorem found_at{es:List En}{k:List UInt8}{i:Nat}(hr:rank es k=i)(hi:i<es.length):foundB es k=decide (Lib.compareBytes es[i].key k=0):=by
 unfold foundB
 rw[hr,List.getElem?_eq_getElem hi]
theorem found_no{es:List En}{k:List UInt8}(hr:rank es k=es.length):foundB es k=false:=by
 unfold foundB
 rw[hr,List.getElem?_eq_none (Nat.le_refl _)]
theorem bs_run(x:Option Addr)(es:List En)(c:Nat)(key:ByteArray)(w:World)(hE:Ens w x es)(hs:Srt es)(hn:es.length<4611686018427387904):
 Calls Tryz.prog 137 #[.slice x es.length c,.string key,.func (.func 138) #[] #[]] w fun e w'=>
  e=.returned (.tuple #[.int .i64 (rank es key.data.toList:Nat),.bool (foundB es key.data.toList)])∧Bel w w':=by
 have HE:=hid hE
 have HS:=hid hs
 have eg:∀args w,(callFunc 138 args).run Tryz.prog w=.ok (.enter 138 args) w:=enters_of Tryz.func138 (by kernel_rfl) rfl
 have H0:=hid (show BsI es key.data.toList 0 es.length from⟨Nat.zero_le _,Nat.le_refl _,fun t _ h=>absurd h (Nat.not_lt_zero _),fun t ht h=>by omega⟩)
 clear hE hs
 go_enter Tryz.func137,Tryz.ntmps137
 go_wp2_with fail
 go_loopg [9,10] es.length (fun gg v9 v10 wr=>∃lo hi:Nat,v9=.int .i64 lo∧v10=.int .i64 hi∧hi≤lo+gg∧Hid (BsI es key.data.toList lo hi)∧Hid (Bel w wr))
 case atStart=>exact⟨0,es.length,rfl,rfl,by omega,H0.out,hid (Bel.refl w)⟩
 case round=>
  clear H0
  obtain⟨lo,hi,rfl,rfl,hg,HI,HB⟩:=hrel
  have Hg:=hid hg
  have hle:=HI.out.le
  have hhle:=HI.out.hle
  clear hg
  by_cases hlt:lo<hi
  ·have hm:(lo+hi)/2<es.length:=by omega
   obtain⟨b,o,rfl,c0,c1⟩:=(HE.out.next HB.out).place hm
   have HM:=(show Hid (∀W,Calls Tryz.prog 138 #[.agg #[.string ⟨es[(lo+hi)/2].key.toArray⟩,.string ⟨es[(lo+hi)/2].val.toArray⟩],.string key] W fun e w'=>e=.returned (.int .i64 (Lib.compareBytes es[(lo+hi)/2].key key.data.toList))∧Bel W w')from fun W=>cmp_run ⟨es[(lo+hi)/2].key.toArray⟩ ⟨es[(lo+hi)/2].val.toArray⟩ key W)
   cases hk:ltK es[(lo+hi)/2].key key.data.toList with
   |true=>
    have HU:=hid (HI.out.up HS.out (by omega:(lo+hi)/2<hi) (by omega) hk)
    have b0:decide (Lib.compareBytes es[(lo+hi)/2].key key.data.toList<0)=true:=hk
    generalize es[(lo+hi)/2]=y at c0 c1 HM b0
    generalize Lib.compareBytes y.key key.data.toList=r at HM b0
    clear hk HI
    go_wp2_with (first|(go_at_fn 138;refine(HM.out _).mono ?_;rintro e w2 ⟨rfl,hb2⟩))
    go_roundg (gk-1)
    case measure=>have:=Hg.out;omega
    case rel=>exact⟨(lo+hi)/2+1,hi,by rw[show((lo:Int)+(hi:Int))/2+1=(((lo+hi)/2+1:Nat):Int) by omega],rfl,by have:=Hg.out;omega,HU,hid (HB.out.trans hb2)⟩
   |false=>
    have HU:=hid (HI.out.down HS.out (by omega:(lo+hi)/2<hi) (by omega) hk)
    have b0:decide (Lib.compareBytes es[(lo+hi)/2].key key.data.toList<0)=false:=hk
    generalize es[(lo+hi)/2]=y at c0 c1 HM b0
    generalize Lib.compareBytes y.key key.data.toList=r at HM b0
    clear hk HI
    go_wp2_with (first|(go_at_fn 138;refine(HM.out _).mono ?_;rintro e w2 ⟨rfl,hb2⟩))
    go_roundg (gk-1)
    case measure=>have:=Hg.out;omega
    case rel=>exact⟨lo,(lo+hi)/2,rfl,by rw[show((lo:Int)+(hi:Int))/2=(((lo+hi)/2:Nat):Int) by omega],by have:=Hg.out;omega,HU,hid (HB.out.trans hb2)⟩
  ·obtain rfl:hi=lo:=by omega
   have HR:=hid (rank_eq hhle HI.out.low HI.out.high)
   by_cases hlast:hi<es.length
   ·obtain⟨b,o,rfl,c0,c1⟩:=(HE.out.next HB.out).place hlast
    have HM:=(show Hid (∀W,Calls Tryz.prog 138 #[.agg #[.string ⟨es[hi].key.toArray⟩,.string ⟨es[hi].val.toArray⟩],.string key] W fun e w'=>e=.returned (.int .i64 (Lib.compareBytes es[hi].key key.data.toList))∧Bel W w')from fun W=>cmp_run ⟨es[hi].key.toArray⟩ ⟨es[hi].val.toArray⟩ key W)
    have HF:=hid (found_at HR.out hlast)
    generalize es[hi]=y at c0 c1 HM HF
    generalize Lib.compareBytes y.key key.data.toList=r at HM HF
    go_wp2_with (first|(go_at_fn 138;refine(HM.out _).mono ?_;rintro e w2 ⟨rfl,hb2⟩))
    go_ret2
    exact⟨by rw[HR.out,HF.out];rfl,HB.out.trans hb2⟩
   ·obtain rfl:hi=es.length:=by omega
    have HF:=hid (found_no HR.out)
    go_wp2_with fail
    go_ret2
    exact⟨by rw[HR.out,HF.out];rfl,HB.out⟩
structure TabAt (W:World) (a:Option Addr) (es:List En):Prop where
 at_:∃b x c,a=some ⟨b,0,none⟩∧W.heap[b]?=some (.cells #[.slice x es.length c] 112 (0,0))∧Ens W x es
 srt:Srt es
 num:es.length≤2000
theorem TabAt.next{W W':World}{a:Option Addr}{es:List En}(h:TabAt W a es)(hb:Bel W W'):TabAt W' a es:=by
 obtain⟨b,x,c,e,h1,h2⟩:=h.at_
 exact⟨⟨b,x,c,e,hb.heap h1,h2.next hb⟩,h.srt,h.num⟩
theorem place_run(b:Nat)(x:Option Addr)(es:List En)(c:Nat)(key:ByteArray)(w:World)(hb:w.heap[b]?=some (.cells #[.slice x es.length c] 112 (0,0)))(hE:Ens w x es)(hs:Srt es)(hn:es.length<4611686018427387904):
 Calls Tryz.prog 69 #[.pointer (some ⟨b,0,none⟩),.string key] w fun e w'=>e=.returned (.tuple #[.int .i64 (rank es key.data.toList:Nat),.bool (foundB es key.data.toList)])∧Bel w w':=by
 have HM:=hid (bs_run x es c key w hE hs hn)
 have c0:w.cell? ⟨b,0,none⟩=some (.slice x es.length c):=by rw[Lib.cell_of_heap hb];rfl
 clear hE hs hb
 generalize rank es key.data.toList=r at HM⊢
 generalize foundB es key.data.toList=f at HM⊢
 generalize es.length=n at HM c0
 go_enter Tryz.func69,Tryz.ntmps69
 go_wp2_with (first|(go_at_call 137;refine HM.out.mono ?_;rintro e w1 ⟨rfl,hb1⟩))
 go_ret2
 exact⟨rfl,hb1⟩
end Go.Proofs.YtmlmkmhkmifnkaaGreatDoor.Tb
namespace Go.Proofs.YtmlmkmhkmifnkaaGreatDoor.Tb
open Go.RowKit
open Ci (Bel Lay hid own_bel row_shape addr_add own_base trim_run)
structure Lat (w:World):Prop where
 lay:Lay w
 size:8<w.heap.size
 tabs:∀w',Bel w w'→Lib.Utf8Tabs 2 3 w'
theorem Lat.next{a w:World}(h:Lat a)(hx:Bel a w):Lat w:=⟨h.lay.next hx,Nat.le_trans h.size hx.size,fun w' hw=>h.tabs w' (hx.trans hw)⟩
theorem low1_run(x:Nat)(hx:x≤1114111)(w:World):Calls Tryz.prog 214 #[.int .i32 (x:Int)] w fun e w'=>e=.returned (.int .i32 (lowI x))∧Bel w w':=by
 by_cases h1:65≤x
 ·have b1:decide ((65:Int)≤(x:Int))=true:=decide_eq_true (by omega)
  by_cases h2:x≤90
  ·have b2:decide ((x:Int)≤90)=true:=decide_eq_true (by omega)
   have HX:=hid (show lowI x=(x:Int)+32 by unfold lowI;rw[if_pos (by omega)])
   go_enter Tryz.func214,Tryz.ntmps214
   go_wp2_with fail
   go_ret
   exact⟨by rw[HX.out];rfl,Bel.refl w⟩
  ·have b2:decide ((x:Int)≤90)=false:=decide_eq_false (by omega)
   have HX:=hid (show lowI x=(x:Int) by unfold lowI;rw[if_neg (by omega)])
   go_enter Tryz.func214,Tryz.ntmps214
   go_wp2_with fail
   go_ret
   exact⟨by rw[HX.out];rfl,Bel.refl w⟩
 ·have b1:decide ((65:Int)≤(x:Int))=false:=decide_eq_false (by omega)
  have HX:=hid (show lowI x=(x:Int) by unfold lowI;rw[if_neg (by omega)])
  go_enter Tryz.func214,Tryz.ntmps214
  go_wp2_with fail
  go_ret
  exact⟨by rw[HX.out];rfl,Bel.refl w⟩
theorem map_run(s:ByteArray)(w:World)(hw:Lat w)(hs:s.size<35184372088832):
 Calls Tryz.prog 77 #[.func (.func 214) #[] #[],.string s] w fun e w'=>e=.returned (.string ⟨(lowR s.data.toList).toArray⟩)∧Bel w w':=
 Any.strings_Map_grows Tryz.lays230 Tryz.Builder_Extra_230 214 #[] (enters_of Tryz.func214 (by kernel_rfl) rfl) lowI s w hs (fun W x hx _=>by
  change Calls Tryz.prog 214 #[.int .i32 (x:Int)] W _
  exact low1_run x hx W) (fun x hx=>by unfold lowI;split<;>omega) (hw.tabs w (Bel.refl w))
theorem tlower_run(s:ByteArray)(w:World)(hw:Lat w)(hs:s.size<35184372088832):
 Calls Tryz.prog 135 #[.string s] w fun e w'=>e=.returned (.string ⟨(lowR s.data.toList).toArray⟩)∧Bel w w':=by
 have HM:=hid (map_run s w hw hs)
 clear hw
 generalize lowR s.data.toList=r at HM⊢
 go_enter Tryz.func135,Tryz.ntmps135
 go_wp2_with (first|(go_at_call 77;refine HM.out.mono ?_;rintro e w1 ⟨rfl,hb1⟩))
 go_ret
 exact⟨rfl,hb1⟩
def badR(x:Nat):Bool:=x !=9&&x !=10&&(decide (x<32)||decide (126<x))
def badI(s:List UInt8)(pos:Nat):Int:=match s.findIdx? badB with
 |some k=>pos+k
 |none=> -1
theorem badR_byte(b:UInt8):badR b.toNat=badB b:=by
 revert b
 exact Ma.u8_forall (by decide)
theorem badI_cons(b:UInt8)(l:List UInt8)(pos:Nat):badI (b::l) pos=if badB b then(pos:Int)else badI l (pos+1):=by
 unfold badI
 rw[List.findIdx?_cons]
 cases hb:badB b with
 |true=>simp
 |false=>
  simp only[Bool.false_eq_true,if_false]
  cases h:l.findIdx? badB with
  |none=>rfl
  |some k=>simp;omega
theorem idx_bad(s:ByteArray):∀(f pos:Nat),pos≤s.size→s.size-pos≤f→Lib.idxFuncFrom badR true s f pos=badI (s.data.toList.drop pos) pos
 |0,pos,h1,h2=>by
  have:=Lib.size_eq s
  rw[List.drop_eq_nil_of_le (by omega)]
  rfl
 |f+1,pos,h1,h2=>by
  have hsz:=Lib.size_eq s
  by_cases hp:pos<s.size
  ·unfold Lib.idxFuncFrom
   rw[if_pos hp,List.drop_eq_getElem_cons (by omega:pos<s.data.toList.length),badI_cons]
   have hg:s.get! pos=s.data.toList[pos]'(by omega):=by
    rw[Ci.get_at,List.getD_eq_getElem?_getD,List.getElem?_eq_getElem (by omega)]
    rfl
   rw[←hg]
   have hd:=Lib.decode_at s pos
   by_cases hb:(s.get! pos).toNat<128
   ·have e:Utf8.decode s pos=((s.get! pos).toNat,1):=by
     rw[hd];unfold Lib.decodeN;rw[if_pos hb]
    have ih:=idx_bad s f (pos+1) (by omega) (by omega)
    rw[e]
    simp only
    rw[badR_byte]
    cases badB (s.get! pos)with
    |true=>rfl
    |false=>exact ih
   ·have hB:=Ci.dec_big (s.size-pos) (s.get! pos).toNat (s.get! (pos+1)).toNat (s.get! (pos+2)).toNat (s.get! (pos+3)).toNat hb (by omega)
    rw[←hd]at hB
    have eo:badR (Utf8.decode s pos).1=true:=by
     unfold badR
     rw[decide_eq_true (by omega:126<(Utf8.decode s pos).1),Bool.or_true,Bool.and_true,bne_iff_ne.2 (by omega),bne_iff_ne.2 (by omega)];rfl
    have eb:badB (s.get! pos)=true:=by
     rw[←badR_byte];unfold badR
     rw[decide_eq_true (by omega:126<(s.get! pos).toNat),Bool.or_true,Bool.and_true,bne_iff_ne.2 (by omega),bne_iff_ne.2 (by omega)];rfl
    rw[eo,if_pos rfl,eb,if_pos rfl]
  ·rw[List.drop_eq_nil_of_le (by omega),Lib.idxFuncFrom_end _ _ _ _ _ hp]
   rfl
theorem bad1_run(x:Nat)(hx:x≤1114111)(w:World):Calls Tryz.prog 130 #[.int .i32 (x:Int)] w fun e w'=>e=.returned (.bool (badR x))∧Bel w w':=by
 by_cases h9:x=9
 ·subst h9
  go_enter Tryz.func130,Tryz.ntmps130
  go_wp2_with fail
  go_ret
  exact⟨rfl,Bel.refl w⟩
 ·by_cases h10:x=10
  ·subst h10
   go_enter Tryz.func130,Tryz.ntmps130
   go_wp2_with fail
   go_ret
   exact⟨rfl,Bel.refl w⟩
  ·have e9:((x:Int)==9)=false:=by rw[beq_eq_false_iff_ne];omega
   have e10:((x:Int)==10)=false:=by rw[beq_eq_false_iff_ne];omega
   have n9:((x:Int) !=9)=true:=by rw[bne_iff_ne];omega
   have n10:((x:Int) !=10)=true:=by rw[bne_iff_ne];omega
   have m9:¬(x:Int)=9:=by omega
   have m10:¬(x:Int)=10:=by omega
   have hx9:(x !=9)=true:=by rw[bne_iff_ne];exact h9
   have hx10:(x !=10)=true:=by rw[bne_iff_ne];exact h10
   by_cases h:x<32
   ·have b1:decide ((x:Int)<32)=true:=decide_eq_true (by omega)
    have HX:=hid (show badR x=true by unfold badR;rw[hx9,hx10,decide_eq_true h];rfl)
    clear h h9 h10 hx9 hx10
    go_enter Tryz.func130,Tryz.ntmps130
    go_wp2_with fail
    go_ret
    exact⟨by rw[HX.out];rfl,Bel.refl w⟩
   ·have b1:decide ((x:Int)<32)=false:=decide_eq_false (by omega)
    have HX:=hid (show badR x=decide ((126:Int)<(x:Int)) by
     unfold badR
     rw[hx9,hx10,decide_eq_false h,Bool.false_or,Bool.true_and,Bool.true_and,decide_eq_decide];omega)
    clear h h9 h10 hx9 hx10
    go_enter Tryz.func130,Tryz.ntmps130
    go_wp2_with fail
    go_ret
    exact⟨by rw[HX.out];rfl,Bel.refl w⟩
theorem badIdx_run(s:ByteArray)(w:World):Calls Tryz.prog 129 #[.string s,.func (.func 130) #[] #[]] w fun e w'=>e=.returned (.int .i64 (badAt s.data.toList))∧Bel w w':=by
 have e:Lib.idxFunc badR true s=badAt s.data.toList:=by
  have:=idx_bad s s.size 0 (Nat.zero_le _) (by omega)
  rw[List.drop_zero]at this
  refine Eq.trans this ?_
  unfold badI badAt
  cases s.data.toList.findIdx? badB with
  |none=>rfl
  |some k=>simp
 rw[←e]
 exact Tryz.strings_IndexFunc_grows 130 #[] (enters_of Tryz.func130 (by kernel_rfl) rfl) badR s w fun W x hx _=>by
  change Calls Tryz.prog 130 #[.int .i32 (x:Int)] W _
  exact bad1_run x hx W
end Go.Proofs.YtmlmkmhkmifnkaaGreatDoor.Tb