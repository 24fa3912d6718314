import Derived.Test.YtmlmkmhkmifnkaaGreatDoorK01
import Derived.WalkSpells
import Derived.WalkLawsBesides
import Derived.OwnWalk
import Derived.Deep.QuietTactic
import Derived.BigQuiet
import Derived.Below
import Derived.Deep.LoopGhost
import Derived.Deep.DeepCutAuto
import Derived.Deep.CutBlock
import Derived.Deep.RegionHeld3
import Derived.Deep.MidRow
import Derived.Deep.WholeRow
import Derived.Lib.Hide
import Derived.Laws.BitsAllLaws
set_option maxHeartbeats 16000000
set_option maxRecDepth 1000000
namespace Go.Proofs.YtmlmkmhkmifnkaaGreatDoor.Ma
theorem Chn.tail{α:Type}{R:α→α→Prop}{a:α}{l:List α}(h:Chn R (a::l)):Chn R l:=by
 cases l with
 |nil=>trivial
 |cons b l=>exact h.2
theorem Chn.cons{α:Type}{R:α→α→Prop}{a:α}{l:List α}(h:Chn R l)(h1:∀b t,l=b::t→R a b):Chn R (a::l):=by
 cases l with
 |nil=>trivial
 |cons b l=>exact⟨h1 b l rfl,h⟩
theorem one_sound(s:List UInt8)(n:Nat)(x:Option (UInt8×List UInt8))(h:one s=some (n,x)):
 ∃c t,s=c++t∧c.length=n∧0<n∧match x with
  |none=>∀g,Gap g→Gap (c++g)
  |some (k,u)=>Raw ⟨[],c,k,u⟩∧(k=97→Nxt t):=by
 cases s with
 |nil=>simp[one]at h
 |cons b s=>
  rw[one]at h
  by_cases h1:blB b=true
  ·rw[if_pos h1]at h
   obtain⟨rfl,rfl⟩:=Prod.mk.inj (Option.some.inj h)
   exact⟨[b],s,rfl,rfl,by decide,fun g hg=>.bl b g h1 hg⟩
  rw[if_neg h1]at h
  by_cases h2:b=40
  ·rw[if_pos h2]at h
   obtain⟨m,h3,h4⟩:=Option.map_eq_some_iff.1 h
   obtain⟨rfl,rfl⟩:=Prod.mk.inj h4
   obtain⟨c,t,e,rfl,h5,h6⟩:=cmt_loc _ _ _ _ (Nat.le_refl _) h3
   refine⟨c,t,e,rfl,h5,fun g hg=> ?_⟩
   cases c with
   |nil=>simp at h5
   |cons b' c=>
    rw[List.cons_append]at e
    obtain⟨rfl,rfl⟩:=List.cons.inj e
    subst h2
    exact .cm c g (by have:=h6 [];rw[List.append_nil]at this;exact this) hg
  rw[if_neg h2]at h
  by_cases h3:b=34
  ·rw[if_pos h3]at h
   obtain⟨⟨u,m⟩,h4,h5⟩:=Option.map_eq_some_iff.1 h
   obtain⟨rfl,rfl⟩:=Prod.mk.inj h5
   obtain⟨c,t,rfl,rfl,h5,h6⟩:=quo_loc _ _ _ _ (Nat.le_refl _) h4
   subst h3
   exact⟨34::c,t,rfl,rfl,by omega,.qu [] c u (by have:=h6 [];rw[List.append_nil]at this;exact this),fun h=>absurd h (by decide)⟩
  rw[if_neg h3]at h
  by_cases h4:b=91
  ·rw[if_pos h4]at h
   obtain⟨m,h5,h6⟩:=Option.map_eq_some_iff.1 h
   obtain⟨rfl,rfl⟩:=Prod.mk.inj h6
   obtain⟨c,t,rfl,rfl,h7,h8⟩:=brk_loc _ _ h5
   subst h4
   refine⟨91::c,t,rfl,rfl,by omega,?_,fun h=>absurd h (by decide)⟩
   rw[List.take_succ_cons,List.take_left]
   exact .li [] c (by have:=h8 [];rw[List.append_nil]at this;exact this)
  rw[if_neg h4]at h
  by_cases h5:sgB b=true
  ·rw[if_pos h5]at h
   obtain⟨rfl,e⟩:=Prod.mk.inj (Option.some.inj h)
   subst e
   exact⟨[b],s,rfl,rfl,by decide,.sg [] b h5,fun h=>absurd h (sg_ne h5).2.2.2.2.2.1⟩
  rw[if_neg h5]at h
  by_cases h6:atB b=true
  ·rw[if_pos h6]at h
   obtain⟨rfl,e⟩:=Prod.mk.inj (Option.some.inj h)
   subst e
   obtain⟨c,t,rfl,h7,h8,h9⟩:=atN_split s
   refine⟨b::c,t,rfl,by rw[List.length_cons,h7],by omega,?_,fun _=>h9⟩
   rw[←h7,List.take_succ_cons,List.take_left]
   exact .at_ [] b c fun x hx=>by
    rcases List.mem_cons.1 hx with rfl|hx
    ·exact h6
    ·exact h8 x hx
  ·rw[if_neg h6]at h;simp at h
theorem raw_head{i:It}(h:Raw i)(hk:i.kind=97):∃b c,i.raw=b::c∧atB b=true:=by
 cases h with
 |sg g c hc=>exact absurd hk (sg_ne hc).2.2.2.2.2.1
 |qu g c x hc=>exact absurd (show(113:UInt8)=97 from hk) (by decide)
 |li g c hc=>exact absurd (show(108:UInt8)=97 from hk) (by decide)
 |at_ g b c hc=>exact⟨b,c,rfl,hc b (List.mem_cons_self ..)⟩
theorem raw_gap(g:List UInt8){i:It}(h:Raw i):Raw ⟨g,i.raw,i.kind,i.text⟩:=by
 cases h with
 |sg _ c hc=>exact .sg _ c hc
 |qu _ c x hc=>exact .qu _ c x hc
 |li _ c hc=>exact .li _ c hc
 |at_ _ b c hc=>exact .at_ _ b c hc
theorem posn_gap(o:Nat)(p:List UInt8)(i:It)(r:List It):posn (o+p.length) (i::r)=posn o (⟨p++i.gap,i.raw,i.kind,i.text⟩::r):=by
 simp only[posn,It.b,List.length_append,Nat.add_assoc]
theorem lex_sound:∀(f o:Nat) (s:List UInt8) (T:List Tk),cutL f o s=some T→
 ∃l e,s=flat (l++[e])∧T=posn o (l++[e])∧(∀i∈l,Tok i)∧IsEnd e∧Chn Nb (l++[e])
 |0,_,_,_,h=>by simp[cutL]at h
 |f+1,o,[],T,h=>by
  rw[cutL]at h
  obtain rfl:=Option.some.inj h
  exact⟨[],⟨[],[],101,[]⟩,rfl,rfl,by simp,⟨.nil,rfl,rfl,rfl⟩,trivial⟩
 |f+1,o,c::t,T,h=>by
  rw[cutL]at h
  rcases h1:one (c::t)with _|⟨n,x⟩
  ·rw[h1]at h;simp at h
  ·rw[h1]at h
   obtain⟨p,u,e,hp,hn,hx⟩:=one_sound _ _ _ h1
   have hd:(c::t).drop n=u:=by rw[e,←hp,List.drop_left]
   rcases x with _|⟨k,x⟩
   ·simp only at h hx
    rw[hd]at h
    obtain⟨l,e2,rfl,rfl,hl,he2,hc⟩:=lex_sound f _ _ T h
    cases l with
    |nil=>
     refine⟨[],⟨p++e2.gap,e2.raw,e2.kind,e2.text⟩,?_,?_,by simp,⟨hx _ he2.1,he2.2⟩,trivial⟩
     ·rw[e];simp[flat,It.b]
     ·rw[←hp];exact posn_gap o p e2 []
    |cons i l=>
     have hi:=hl i (List.mem_cons_self ..)
     refine⟨⟨p++i.gap,i.raw,i.kind,i.text⟩::l,e2,?_,?_,?_,he2,?_⟩
     ·rw[e,List.cons_append,flat_cons,List.cons_append,flat_cons];simp[It.b]
     ·rw[←hp];exact posn_gap o p i (l++[e2])
     ·intro j hj
      rcases List.mem_cons.1 hj with rfl|hj
      ·exact⟨hx _ hi.g,raw_gap _ hi.r⟩
      ·exact hl j (List.mem_cons_of_mem _ hj)
     ·exact Chn.cons (Chn.tail hc) fun b t' e4=>by
       have h5:Chn Nb (i::(l++[e2])):=hc
       rw[show l++[e2]=b::t' from e4]at h5
       exact h5.1
   ·simp only at h hx
    rw[hd]at h
    obtain⟨T',h2,rfl⟩:=Option.map_eq_some_iff.1 h
    obtain⟨l,e2,rfl,rfl,hl,he2,hc⟩:=lex_sound f _ _ T' h2
    refine⟨⟨[],p,k,x⟩::l,e2,by rw[e,List.cons_append,flat_cons];simp[It.b],?_,?_,he2,?_⟩
    ·rw[List.cons_append,posn];simp[It.b,hp]
    ·intro j hj
     rcases List.mem_cons.1 hj with rfl|hj
     ·exact⟨.nil,hx.1⟩
     ·exact hl j hj
    ·refine Chn.cons hc fun b t' e4 hk hg hb=> ?_
     have hk':k=97:=hk
     have hn:=hx.2 hk'
     rw[show l++[e2]=b::t' from e4,flat_cons]at hn
     have e4:l++[e2]=b::t':=e4
     cases l with
     |nil=>
      obtain⟨rfl,-⟩:=List.cons.inj e4
      rw[he2.2.2.1]at hb;exact absurd hb (by decide)
     |cons i l=>
      rw[List.cons_append]at e4
      obtain⟨rfl,-⟩:=List.cons.inj e4
      obtain⟨y,c',e5,h6⟩:=raw_head (hl i (List.mem_cons_self ..)).r hb
      have:=hn y (c'++flat t') (by unfold It.b;rw[hg,e5];rfl)
      rw[this]at h6;exact absurd h6 (by simp)
structure Put (s:Spc):Prop where
 sp:IsSpec s
 tok:∀i∈s.sec,Tok i
 chn:Chn Nb s.sec
inductive Rp:List Sg→List Sg→Prop
 |nil:Rp [] []
 |keep (i:It) (a b:List Sg):Rp a b→Rp (.keep i::a) (.keep i::b)
 |sp (s s':Spc) (n:List UInt8) (a b:List Sg):Put s'→Rp a b→Rp (.sp s n::a) (.sp s' n::b)
end Go.Proofs.YtmlmkmhkmifnkaaGreatDoor.Ma
namespace Go.Proofs.YtmlmkmhkmifnkaaGreatDoor.Ma
theorem list_last{e:UInt8}{P:List Sg→Prop}{m:List Sg}(h:IsList e P m):∃m' k,m=m'++[.keep k]∧k.kind=e:=by
 induction h with
 |end_ k hk=>exact⟨[],k,rfl,hk⟩
 |last m k _ hk=>exact⟨m,k,rfl,hk⟩
 |comma k l _ _ ih=>obtain⟨m',k',rfl,h⟩:=ih;exact⟨.keep k::m',k',rfl,h⟩
 |more m k l _ _ _ ih=>obtain⟨m',k',rfl,h⟩:=ih;exact⟨m++ .keep k::m',k',by simp,h⟩
theorem raw_kind{i:It}(h:Raw i):i.kind≠101:=by
 cases h with
 |sg g c hc=>exact(sg_ne hc).2.2.2.2.2.2
 |qu g c x hc=>show(113:UInt8)≠101;decide
 |li g c hc=>show(108:UInt8)≠101;decide
 |at_ g b c hc=>show(97:UInt8)≠101;decide
theorem raw_ne{i:It}(h:Raw i):i.raw≠[]:=by cases h<;>simp
structure Rd (body:List UInt8) (m:List Sg):Prop where
 gr:IsBody m
 tx:body=flat (its m)
 tk:∃m' e,m=m'++[.keep e]∧IsEnd e∧∀i∈its m',Tok i
 ch:Chn Nb (its m)
theorem its_last(m:List Sg)(e:It):its (m++[.keep e])=its m++[e]:=by rw[its_app];rfl
theorem read_sound(body:List UInt8)(L:List Sp)(h:readQ body=some L):∃m,Rd body m∧L=spsOf 0 m:=by
 unfold readQ at h
 rcases hc:cutQ body with _|T
 ·rw[hc]at h;simp at h
 ·rw[hc]at h
  simp only at h
  obtain⟨l,e,h1,rfl,h3,h4,h5⟩:=lex_sound _ _ _ _ hc
  by_cases hb:(commasQ 101 (elementQ body) ((posn 0 (l++[e])).length+1) ⟨false,posn 0 (l++[e]),[]⟩).bad=true
  ·rw[if_pos hb]at h;simp at h
  ·rw[if_neg hb]at h
   obtain⟨m,r,e1,hm,e2⟩:=body_sound body _ 0 (l++[e]) [] (by rw[posn_len];omega) ⟨[],rfl,h1⟩ (good_of hb)
   rw[e2]at h
   have hL:L=spsOf 0 m:=(Option.some.inj h).symm
   obtain⟨m',k,rfl,hk⟩:=list_last hm
   have hr:r=[]:=by
    rcases List.eq_nil_or_concat r with rfl|⟨r',x,rfl⟩
    ·rfl
    ·rw[List.concat_eq_append,←List.append_assoc]at e1
     obtain⟨e3,-⟩:=List.append_inj' e1 rfl
     have:k∈l:=by rw[e3,its_last];simp
     exact absurd hk (raw_kind (h3 k this).r)
   subst hr
   rw[List.append_nil,its_last]at e1
   obtain⟨rfl,e4⟩:=List.append_inj' e1 rfl
   obtain rfl:=(List.cons.inj e4).1
   exact⟨_,⟨hm,by rw[h1,its_last],⟨m',e,rfl,h4,h3⟩,by rw[its_last];exact h5⟩,hL⟩
section
variable {α:Type} (F:List UInt8→α→Spc) (T:α→List UInt8)
def gapOf(s:Spc):List UInt8:=(s.sec.headD ⟨[],[],0,[]⟩).gap
def rpl:List Sg→List α→List Sg
 |[],_=>[]
 |.keep i::m,ps=>.keep i::rpl m ps
 |.sp s n::m,a::ps=>.sp (F (gapOf s) a) n::rpl m ps
 |.sp s n::m,[]=>.sp s n::rpl m []
def replL(body:List UInt8):Nat→List Sp→List α→List UInt8
 |at_,x::xs,a::ps=>(body.take x.from_).drop at_++T a++replL body x.til xs ps
 |at_,_,_=>body.drop at_
def Sg.ok:Sg→Prop
 |.keep _=>True
 |.sp s _=>IsSpec s
theorem mb_ok{m:List Sg}(h:IsMb m):∀x∈m,Sg.ok x:=by
 have hk:∀(l:List It),∀x∈kp l,Sg.ok x:=by
  intro l x hx
  obtain⟨i,_,rfl⟩:=List.mem_map.1 hx
  trivial
 cases h with
 |bare s hs=>intro x hx;rcases List.mem_singleton.1 hx with rfl;exact hs
 |angle c lt r s gt _ _ _ hs _=>
  intro x hx
  rcases List.mem_append.1 hx with hx|hx
  ·exact hk _ x hx
  ·rcases List.mem_cons.1 hx with rfl|hx
   ·exact hs
   ·rcases List.mem_singleton.1 hx with rfl;trivial
theorem list_ok{e:UInt8}{P:List Sg→Prop}(hP:∀m,P m→∀x∈m,Sg.ok x){m:List Sg}(h:IsList e P m):∀x∈m,Sg.ok x:=by
 induction h with
 |end_ k _=>intro x hx;rcases List.mem_singleton.1 hx with rfl;trivial
 |last m k hm _=>
  intro x hx
  rcases List.mem_append.1 hx with hx|hx
  ·exact hP m hm x hx
  ·rcases List.mem_singleton.1 hx with rfl;trivial
 |comma k l _ _ ih=>
  intro x hx
  rcases List.mem_cons.1 hx with rfl|hx
  ·trivial
  ·exact ih x hx
 |more m k l hm _ _ ih=>
  intro x hx
  rcases List.mem_append.1 hx with hx|hx
  ·exact hP m hm x hx
  ·rcases List.mem_cons.1 hx with rfl|hx
   ·trivial
   ·exact ih x hx
theorem el_ok{m:List Sg}(h:IsEl m):∀x∈m,Sg.ok x:=by
 cases h with
 |mb m hm=>exact mb_ok hm
 |grp c k l _ _ _ hl=>
  intro x hx
  rcases List.mem_append.1 hx with hx|hx
  ·obtain⟨i,_,rfl⟩:=List.mem_map.1 hx;trivial
  ·exact list_ok (fun m hm=>mb_ok hm) hl x hx
theorem body_ok{m:List Sg}(h:IsBody m):∀x∈m,Sg.ok x:=list_ok (fun _ hm=>el_ok hm) h
theorem rpl_text(hT:∀g a,flat (F g a).sec=g++T a):∀(m:List Sg) (ps:List α) (pre mid body:List UInt8) (at_ o:Nat),(∀x∈m,Sg.ok x)→pre.length=at_→o=at_+mid.length→body=pre++mid++flat (its m)→
 (spsOf o m).length=ps.length→replL T body at_ (spsOf o m) ps=mid++flat (its (rpl F m ps))
 |[],ps,pre,mid,body,at_,o,_,h1,h2,h3,h4=>by
  have e:body=pre++mid:=by rw[h3];simp[its,flat]
  rw[spsOf,replL.eq_def]
  simp only
  rw[e,←h1,List.drop_left]
  simp[rpl,its,flat]
 |.keep i::m,ps,pre,mid,body,at_,o,hm,h1,h2,h3,h4=>by
  rw[spsOf,rpl,rpl_text hT m ps pre (mid++i.b) body at_ _ (fun x hx=>hm x (List.mem_cons_of_mem _ hx)) h1 (by rw[h2,List.length_append];omega) (by rw[h3];show pre++mid++(i.b++flat (its m))=_;simp) h4]
  show mid++i.b++flat (its (rpl F m ps))=mid++(i.b++flat (its (rpl F m ps)))
  rw[List.append_assoc]
 |.sp s n::m,[],pre,mid,body,at_,o,_,h1,h2,h3,h4=>by simp[spsOf]at h4
 |.sp s n::m,a::ps,pre,mid,body,at_,o,hm,h1,h2,h3,h4=>by
  have e0:flat (its (.sp s n::m))=flat s.sec++flat (its m):=by
   show flat (s.sec++its m)=_
   rw[flat_app]
  obtain⟨i,t,hs,_⟩:=spec_head (show IsSpec s from hm _ (List.mem_cons_self ..))
  have hg:gapOf s=i.gap:=by unfold gapOf;rw[hs];rfl
  have hf:flat s.sec=i.gap++(i.raw++flat t):=by rw[hs,flat_cons];unfold It.b;rw[List.append_assoc]
  rw[spsOf,replL,rpl]
  simp only
  have e1:(s.sec.headD ⟨[],[],0,[]⟩).gap.length=i.gap.length:=by rw[hs];rfl
  rw[e1]
  rw[rpl_text hT m ps (pre++mid++flat s.sec) [] body _ _ (fun x hx=>hm x (List.mem_cons_of_mem _ hx)) (by rw[List.length_append,List.length_append,h1,h2]) (by simp) (by rw[h3,e0];simp) (by simpa[spsOf]using h4)]
  have e2:(body.take (o+i.gap.length)).drop at_=mid++i.gap:=by
   have e3:body=pre++((mid++i.gap)++(i.raw++flat t++flat (its m))):=by rw[h3,e0,hf];simp
   have e4:o+i.gap.length=pre.length+(mid++i.gap).length:=by rw[List.length_append];omega
   rw[e3,e4,List.take_length_add_append,List.take_left,←h1,List.drop_left]
  rw[e2]
  show _=mid++flat ((F (gapOf s) a).sec++its (rpl F m ps))
  rw[flat_app,hT,hg]
  simp
end
def Ord(n:Nat):Nat→List Sp→Prop
 |a,[]=>a≤n
 |a,x::l=>a≤x.from_∧x.from_<x.til∧Ord n x.til l
theorem Ord.mono{n:Nat}:∀{l:List Sp} {a b:Nat},Ord n a l→b≤a→Ord n b l
 |[],_,_,h,hb=>Nat.le_trans hb h
 |_::_,_,_,h,hb=>⟨Nat.le_trans hb h.1,h.2⟩
theorem sps_ord:∀(m:List Sg) (o n:Nat),(∀x∈m,Sg.ok x)→(∀x∈m,∀s n,x=.sp s n→∀i∈s.sec,i.raw≠[])→o+(flat (its m)).length≤n→Ord n o (spsOf o m)
 |[],o,n,_,_,h=>Nat.le_trans (Nat.le_add_right _ _) h
 |.keep i::m,o,n,h1,h2,h=>by
  have h':o+(i.b++flat (its m)).length≤n:=h
  rw[List.length_append]at h'
  exact(sps_ord m _ n (fun x hx=>h1 x (List.mem_cons_of_mem _ hx)) (fun x hx=>h2 x (List.mem_cons_of_mem _ hx)) (by omega)).mono (Nat.le_add_right _ _)
 |.sp s nm::m,o,n,h1,h2,h=>by
  have e0:flat (its (.sp s nm::m))=flat s.sec++flat (its m):=by
   show flat (s.sec++its m)=_
   rw[flat_app]
  rw[e0,List.length_append]at h
  obtain⟨i,t,hs,_⟩:=spec_head (show IsSpec s from h1 _ (List.mem_cons_self ..))
  have hr:=h2 _ (List.mem_cons_self ..) s nm rfl i (by rw[hs];simp)
  have hr':i.raw.length≠0:=fun e=>hr (List.eq_nil_of_length_eq_zero e)
  have e1:(s.sec.headD ⟨[],[],0,[]⟩).gap.length=i.gap.length:=by rw[hs];rfl
  have e2:(flat s.sec).length=i.gap.length+i.raw.length+(flat t).length:=by rw[hs,flat_cons];unfold It.b;rw[List.length_append,List.length_append]
  rw[spsOf,e1]
  exact⟨by show o≤o+_;omega,by show o+_<o+_;omega,sps_ord m (o+(flat s.sec).length) n (fun x hx=>h1 x (List.mem_cons_of_mem _ hx)) (fun x hx=>h2 x (List.mem_cons_of_mem _ hx)) (by omega)⟩
end Go.Proofs.YtmlmkmhkmifnkaaGreatDoor.Ma
namespace Go.Proofs.YtmlmkmhkmifnkaaGreatDoor.Ci
structure Nt where
 six:Bool
 bits:Int
 addr:List Nat
def sizeQ(six:Bool):Nat:=if six then 128 else 32
def cutB(x:Nat)(keep:Int):Nat:=if keep≤0 then 0 else if keep<8 then x&&&((255*2^(8-keep).toNat)%256)else x
def cutL(l:List Nat)(bits:Int):List Nat:=l.mapIdx fun i x=>cutB x (bits-8*i)
def rightQ(n:Nt):Bool:=decide (0≤n.bits)&&decide (n.bits≤sizeQ n.six)&&decide (cutL n.addr n.bits=n.addr)
def u8V(n:Nat):Value:=.int .u8 n
def netC(n:Nt):List Value:=.bool n.six::.int .i64 n.bits::n.addr.map u8V
def netV(n:Nt):Value:=.agg (netC n).toArray
def addrV(l:List Nat):Value:=.agg (l.map u8V).toArray
structure Nt.Fits (n:Nt):Prop where
 b1: -9223372036854775808≤n.bits
 b2:n.bits≤9223372036854775807
 len:n.addr.length=16
 by_:∀x∈n.addr,x<256
end Go.Proofs.YtmlmkmhkmifnkaaGreatDoor.Ci
namespace Go.Proofs.YtmlmkmhkmifnkaaGreatDoor.Ci
open Go.RowKit
theorem hid{p:Prop}(h:p):Hid p:=h
def Bel(w w':World):Prop:=Below w.heap.size w w'
theorem Bel.refl(w:World):Bel w w:=Below.refl _ _
theorem Bel.trans{a b c:World}(h:Bel a b)(k:Bel b c):Bel a c:=Below.trans h (Below.mono k h.size)
theorem Bel.alloc{a w:World}(h:Bel a w)(o:Obj):Bel a (w.alloc o):=Below.alloc h h.size o
theorem Bel.drew{a w:World}(h:Bel a w):Bel a w.drew:=Below.drew h
theorem Bel.drewN{a w:World}(h:Bel a w)(n:Nat):Bel a (w.drewN n):=⟨h.os,h.tape,h.output,h.size,h.block⟩
theorem Bel.setCell{a w:World}(h:Bel a w){b o:Nat}(hb:a.heap.size≤b)(v:Value):Bel a (w.setCell ⟨b,o,none⟩ v):=Below.setCell h hb v
theorem Bel.setCells{a:World}{b:Nat}(hb:a.heap.size≤b):∀(vs:List Value) (o:Nat) (w:World),Bel a w→Bel a (w.setCells b o vs)
 |[],_,_,h=>h
 |v::vs,o,w,h=>Bel.setCells hb vs (o+1) (w.setCell ⟨b,o,none⟩ v) (h.setCell hb v)
theorem Bel.heap{a w:World}(h:Bel a w){k:Nat}{o:Obj}(hk:a.heap[k]?=some o):w.heap[k]?=some o:=
 (h.block k (Array.getElem?_eq_some_iff.1 hk).1).trans hk
def cutK(l:List Nat)(bits:Int)(k:Nat):List Nat:=l.mapIdx fun i x=>if i<k then cutB x (bits-8*i)else x
theorem cutK_zero(l:List Nat)(bits:Int):cutK l bits 0=l:=by
 unfold cutK
 refine List.ext_getElem (by simp) fun i h1 h2=>by simp
theorem cutK_len(l:List Nat)(bits:Int)(k:Nat):(cutK l bits k).length=l.length:=by simp[cutK]
theorem cutK_all(l:List Nat)(bits:Int)(k:Nat)(h:l.length≤k):cutK l bits k=cutL l bits:=by
 unfold cutK cutL
 refine List.ext_getElem (by simp) fun i h1 h2=> ?_
 simp only[List.length_mapIdx]at h1
 simp[(by omega:i<k)]
theorem cutK_at(l:List Nat)(bits:Int)(k:Nat)(hk:k<l.length):(cutK l bits k)[k]?=some l[k]:=by
 simp[cutK,hk]
theorem cutK_next(l:List Nat)(bits:Int)(k:Nat)(hk:k<l.length):cutK l bits (k+1)=(cutK l bits k).set k (cutB l[k] (bits-8*k)):=by
 unfold cutK
 refine List.ext_getElem (by simp) fun i h1 h2=> ?_
 rw[List.getElem_set]
 by_cases e:k=i
 ·subst e
  simp
 ·rw[if_neg e]
  simp[(by omega:i<k+1↔i<k)]
structure CutW (w wr:World) (l:List Nat):Prop where
 bel:Bel w wr
 hc:wr.heap[w.heap.size]?=some (.cells (l.map u8V).toArray 84 (0,0))
 hr:wr.heap[w.heap.size+1]?=some (.cells (Array.replicate 16 (u8V 0)) 84 (0,0))
theorem CutW.cell{w wr:World}{l:List Nat}(h:CutW w wr l){k:Nat}{x:Nat}(hk:l[k]?=some x):wr.cell? ⟨w.heap.size,k,none⟩=some (.int .u8 (x:Int)):=by
 simp[World.cell?,h.hc,hk,u8V]
theorem CutW.set{w wr:World}{l:List Nat}(h:CutW w wr l)(k x:Nat):CutW w (wr.setCell ⟨w.heap.size,k,none⟩ (.int .u8 (x:Int))) (l.set k x):=by
 refine⟨h.bel.setCell (Nat.le_refl _) _,?_,?_⟩
 ·rw[heap_setCell_same wr _ _ _ _ _ h.hc]
  simp[u8V,List.map_set]
 ·rw[heap_setCell_other _ _ _ _ (by simp)]
  exact h.hr
theorem CutW.drew{w wr:World}{l:List Nat}(h:CutW w wr l):CutW w wr.drew l:=⟨h.bel.drew,h.hc,h.hr⟩
theorem cut_run(l:List Nat)(nb:Int)(w:World)(hl:l.length=16)(hx:∀x∈l,x<256)(h0:0≤nb)(h1:nb≤128):
 Calls Tryz.prog 197 #[addrV l,.int .i64 nb] w fun e w'=>e=.returned (addrV (cutL l nb))∧Bel w w':=by
 have HX:=hid hx
 unfold addrV
 clear hx
 go_enter Tryz.func197,Tryz.ntmps197
 go_wp2_with fail
 go_loopg [5,6,7] 16 (fun gg v5 v6 v7 wr=>∃k:Nat,v7=.int .i64 k∧k+gg=16∧Hid (CutW w wr (cutK l nb k)))
 case atStart=>
  refine⟨0,rfl,by omega,hid ⟨((Bel.refl w).alloc _).alloc _,?_,?_⟩⟩
  ·rw[cutK_zero]
   exact(Below.heap_alloc _ _ _ (by simp)).trans (heap_alloc_new w _)
  ·have:=heap_alloc_new (w.alloc (.cells (l.map u8V).toArray 84)) (.cells (Array.replicate 16 (u8V 0)) 84)
   rw[World.size_alloc]at this
   exact this
 case round=>
  obtain⟨k,rfl,hk,H⟩:=hrel
  have Hk:=hid hk
  have hkn:k≤16:=by omega
  clear hk
  by_cases hlt:k<16
  ·have hkl:k<l.length:=by omega
   have c0:=H.out.cell (cutK_at l nb k hkl)
   have hn:=cutK_next l nb k hkl
   have hxl:=HX.out _ (List.getElem_mem hkl)
   have f0:wr.frozen? ⟨w.heap.size,k,none⟩=false:=by simp[World.frozen?,H.out.hc]
   generalize hx0:l[k]=x at c0 hn hxl
   by_cases h8:nb-8*k≤0
   ·have d1:decide (nb-8*k≤0)=true:=decide_eq_true h8
    have he:cutB x (nb-8*k)=0:=if_pos h8
    rw[he]at hn
    have HN:=hid (H.out.set k 0)
    rw[←hn]at HN
    clear hn he
    go_wp2_with fail
    go_roundg (gk-1)
    case measure=>have:=Hk.out;omega
    case rel=>exact⟨k+1,by go_num,by have:=Hk.out;omega,HN⟩
   ·have d1:decide (nb-8*k≤0)=false:=decide_eq_false h8
    by_cases h9:nb-8*k<8
    ·have d2:decide (nb-8*k<8)=true:=decide_eq_true h9
     have he:cutB x (nb-8*k)=x&&&((255*2^(8-(nb-8*k)).toNat)%256):=by
      unfold cutB
      rw[if_neg h8,if_pos h9]
     rw[he]at hn
     have HN:=hid (H.out.set k (x&&&((255*2^(8-(nb-8*k)).toNat)%256))).drew
     rw[←hn]at HN
     have hb:bits .and .u8 (x:Int) (255*2^(8-(nb-8*(k:Int))).toNat%256)=((x&&&((255*2^(8-(nb-8*k)).toNat)%256):Nat):Int):=by
      rw[←u8_and_nat _ _ hxl (Nat.mod_lt _ (by decide))]
      simp
     clear hn he
     go_wp2_with fail
     go_region
     go_wp2_with fail
     go_roundg (gk-1)
     case measure=>have:=Hk.out;omega
     case rel=>exact⟨k+1,by go_num,by have:=Hk.out;omega,HN⟩
    ·have d2:decide (nb-8*k<8)=false:=decide_eq_false h9
     have he:cutB x (nb-8*k)=x:=by
      unfold cutB
      rw[if_neg h8,if_neg h9]
     rw[he]at hn
     have hs:(cutK l nb k).set k x=cutK l nb k:=by
      refine List.ext_getElem (by simp) fun i h1 h2=> ?_
      rw[List.getElem_set]
      split
      ·rename_i e
       subst e
       have:=cutK_at l nb k hkl
       rw[List.getElem?_eq_getElem (by rw[cutK_len];exact hkl),hx0]at this
       exact(Option.some.inj this).symm
      ·rfl
     have HN:=H
     rw[hs]at hn
     rw[←hn]at HN
     clear hn he hs
     go_wp2_with fail
     go_roundg (gk-1)
     case measure=>have:=Hk.out;omega
     case rel=>exact⟨k+1,by go_num,by have:=Hk.out;omega,HN⟩
  ·obtain rfl:k=16:=by omega
   have hK:cutK l nb 16=cutL l nb:=cutK_all l nb 16 (by omega)
   rw[hK]at H
   clear hK
   have hll:(cutL l nb).length=16:=by simp[cutL,hl]
   have hR:=hid (show wr.rangeAt w.heap.size 0 ((cutL l nb).map u8V)from fun j v hv=>by simp[World.cell?,H.out.hc,hv])
   have hT:=hid (show wr.there (w.heap.size+1) 0 ((cutL l nb).map u8V).toArray.size from fun j hj=>by
    have hj':j<16:=by simpa[hll]using hj
    constructor
    ·simp[World.cell?,H.out.hr,hj']
    ·simp[World.frozen?,H.out.hr])
   have hZ:=hid (show(Tryz.prog.info? 84).map (·.size)=some ((cutL l nb).map u8V).length by rw[List.length_map,hll];kernel_rfl)
   go_wp2_with (first
    |refine wpList_load_mid rfl 84 (.tmp 2) rfl w.heap.size 0 rfl ((cutL l nb).map u8V) (.array 16 5) hR.out Tryz.underlying84 rfl hZ.out ?_
    |refine wpList_store_mid rfl 84 (.tmp 4) (.tmp 31) rfl (w.heap.size+1) 0 ((cutL l nb).map u8V).toArray rfl rfl hT.out (by rw[List.size_toArray];exact hZ.out) (by simp[u8V,Value.oneCell']) ?_)
   have hl2:=run_loadVar_mid (P:=Tryz.prog) (wr.setCells (w.heap.size+1) 0 ((cutL l nb).map u8V)) (w.heap.size+1) 0 84 ((cutL l nb).map u8V) (.array 16 5)
    (World.rangeAt_setCells_same _ _ _ _ (by simpa using hT.out)) Tryz.underlying84 rfl hZ.out
   refine bodyPost_ret (v:=.agg ((cutL l nb).map u8V).toArray) (by simp[results,Tryz.results197,Act.put,asAddr,hl2]) rfl ⟨rfl,?_⟩
   exact Bel.setCells (by omega) _ _ _ H.out.bel
end Go.Proofs.YtmlmkmhkmifnkaaGreatDoor.Ci
namespace Go.Proofs.YtmlmkmhkmifnkaaGreatDoor.Ci
open Go.RowKit
theorem eq_arr16(x0 x1 x2 x3 x4 x5 x6 x7 x8 x9 x10 x11 x12 x13 x14 x15 y0 y1 y2 y3 y4 y5 y6 y7 y8 y9 y10 y11 y12 y13 y14 y15:Nat)(w:World):(Op.equalIn 10000 84 (.agg #[.int .u8 (x0:Nat),.int .u8 (x1:Nat),.int .u8 (x2:Nat),.int .u8 (x3:Nat),.int .u8 (x4:Nat),.int .u8 (x5:Nat),.int .u8 (x6:Nat),.int .u8 (x7:Nat),.int .u8 (x8:Nat),.int .u8 (x9:Nat),.int .u8 (x10:Nat),.int .u8 (x11:Nat),.int .u8 (x12:Nat),.int .u8 (x13:Nat),.int .u8 (x14:Nat),.int .u8 (x15:Nat)]) (.agg #[.int .u8 (y0:Nat),.int .u8 (y1:Nat),.int .u8 (y2:Nat),.int .u8 (y3:Nat),.int .u8 (y4:Nat),.int .u8 (y5:Nat),.int .u8 (y6:Nat),.int .u8 (y7:Nat),.int .u8 (y8:Nat),.int .u8 (y9:Nat),.int .u8 (y10:Nat),.int .u8 (y11:Nat),.int .u8 (y12:Nat),.int .u8 (y13:Nat),.int .u8 (y14:Nat),.int .u8 (y15:Nat)])).run Tryz.prog w=.ok (decide ([x0,x1,x2,x3,x4,x5,x6,x7,x8,x9,x10,x11,x12,x13,x14,x15]=[y0,y1,y2,y3,y4,y5,y6,y7,y8,y9,y10,y11,y12,y13,y14,y15])) w:=by
 have u5:=Tryz.underlying5
 have a5:=Tryz.isAgg5
 have z5:=Tryz.sizeOf5
 rw[show(10000:Nat)=9999+1 from rfl,Op.equalIn]
 simp only[Sem.run_bind,run_underlying Tryz.underlying84,Result.andThen_ok]
 simp only[Std.Legacy.Range.forIn_eq_forIn_range',Std.Legacy.Range.size,Nat.sub_zero,Nat.add_sub_cancel,Nat.div_one,List.range'_succ,List.range'_zero,List.forIn_cons,List.forIn_nil]
 go_simp
 by_cases h0:x0=y0
 case neg=>simp[h0];intros;omega
 subst h0
 by_cases h1:x1=y1
 case neg=>simp[h1];intros;omega
 subst h1
 by_cases h2:x2=y2
 case neg=>simp[h2];intros;omega
 subst h2
 by_cases h3:x3=y3
 case neg=>simp[h3];intros;omega
 subst h3
 by_cases h4:x4=y4
 case neg=>simp[h4];intros;omega
 subst h4
 by_cases h5:x5=y5
 case neg=>simp[h5];intros;omega
 subst h5
 by_cases h6:x6=y6
 case neg=>simp[h6];intros;omega
 subst h6
 by_cases h7:x7=y7
 case neg=>simp[h7];intros;omega
 subst h7
 by_cases h8:x8=y8
 case neg=>simp[h8];intros;omega
 subst h8
 by_cases h9:x9=y9
 case neg=>simp[h9];intros;omega
 subst h9
 by_cases h10:x10=y10
 case neg=>simp[h10];intros;omega
 subst h10
 by_cases h11:x11=y11
 case neg=>simp[h11];intros;omega
 subst h11
 by_cases h12:x12=y12
 case neg=>simp[h12];intros;omega
 subst h12
 by_cases h13:x13=y13
 case neg=>simp[h13];intros;omega
 subst h13
 by_cases h14:x14=y14
 case neg=>simp[h14];intros;omega
 subst h14
 by_cases h15:x15=y15
 case neg=>simp[h15];intros;omega
 subst h15
 simp
theorem eq_arr(l m:List Nat)(hl:l.length=16)(hm:m.length=16)(w:World):(Op.equalIn 10000 84 (.agg (l.map u8V).toArray) (.agg (m.map u8V).toArray)).run Tryz.prog w=.ok (decide (l=m)) w:=by
 match l,hl,m,hm with
 |[x0,x1,x2,x3,x4,x5,x6,x7,x8,x9,x10,x11,x12,x13,x14,x15],_,[y0,y1,y2,y3,y4,y5,y6,y7,y8,y9,y10,y11,y12,y13,y14,y15],_=>exact eq_arr16 x0 x1 x2 x3 x4 x5 x6 x7 x8 x9 x10 x11 x12 x13 x14 x15 y0 y1 y2 y3 y4 y5 y6 y7 y8 y9 y10 y11 y12 y13 y14 y15 w
theorem heap_setCells(b:Nat)(t:TypeId):∀(vs:List Value) (o:Nat) (w:World) (cs:List Value),w.heap[b]?=some (.cells cs.toArray t (0,0))→o+vs.length≤cs.length→
 (w.setCells b o vs).heap[b]?=some (.cells (cs.take o++vs++cs.drop (o+vs.length)).toArray t (0,0))
 |[],o,w,cs,h,_=>by
  rw[World.setCells,h]
  simp
 |v::vs,o,w,cs,h,hl=>by
  rw[List.length_cons]at hl
  have h2:(w.setCell ⟨b,o,none⟩ v).heap[b]?=some (.cells (cs.set o v).toArray t (0,0)):=by
   rw[heap_setCell_same w _ _ _ _ _ h,List.setIfInBounds_toArray]
  rw[World.setCells,heap_setCells b t vs (o+1) _ (cs.set o v) h2 (by rw[List.length_set];omega)]
  have e1:(cs.set o v).take (o+1)=cs.take o++[v]:=by
   rw[List.take_set,List.take_succ_eq_append_getElem (by omega),List.set_append_right _ _ (by rw[List.length_take];omega)]
   simp[List.length_take,Nat.min_eq_left (by omega:o≤cs.length)]
  have e2:(cs.set o v).drop (o+1+vs.length)=cs.drop (o+(v::vs).length):=by
   rw[List.drop_set_of_lt (by omega),List.length_cons]
   congr 1;omega
  rw[e1,e2]
  simp
theorem heap_setCells_whole{b:Nat}{t:TypeId}{vs cs:List Value}{w:World}(h:w.heap[b]?=some (.cells cs.toArray t (0,0)))(hl:vs.length=cs.length):
 (w.setCells b 0 vs).heap[b]?=some (.cells vs.toArray t (0,0)):=by
 rw[heap_setCells b t vs 0 w cs h (by omega),hl]
 simp
theorem heap_setCells_other(b k:Nat)(hk:k≠b):∀(vs:List Value) (o:Nat) (w:World),(w.setCells b o vs).heap[k]?=w.heap[k]?
 |[],_,_=>rfl
 |v::vs,o,w=>by rw[World.setCells,heap_setCells_other b k hk vs,heap_setCell_other _ _ _ _ hk]
theorem there_of{w:World}{b o n:Nat}{t:TypeId}{cs:List Value}(h:w.heap[b]?=some (.cells cs.toArray t (0,0)))(hl:o+n≤cs.length):w.there b o n:=fun j hj=>by
 constructor
 ·simp[World.cell?,h,(by omega:o+j<cs.length)]
 ·simp[World.frozen?,h]
theorem range_of{w:World}{b o:Nat}{t:TypeId}{cs vs:List Value}(h:w.heap[b]?=some (.cells cs.toArray t (0,0)))(hl:∀j v,vs[j]?=some v→cs[o+j]?=some v):w.rangeAt b o vs:=fun j v hv=>by
 simp[World.cell?,h,hl j v hv]
theorem alloc_second(w:World)(o p:Obj):((w.alloc o).alloc p).heap[w.heap.size+1]?=some p:=by
 have:=heap_alloc_new (w.alloc o) p
 rw[World.size_alloc]at this
 exact this
theorem size_setCells(b:Nat):∀(vs:List Value) (o:Nat) (w:World),(w.setCells b o vs).heap.size=w.heap.size
 |[],_,_=>rfl
 |v::vs,o,w=>by rw[World.setCells,size_setCells b vs,World.size_setCell]
structure Aft (w:World) where
 wd:World
 bel:Bel w wd
instance (w:World):Inhabited (Aft w):=⟨⟨w,Bel.refl w⟩⟩
theorem wp_region_aft {P:Program} {id:Nat} {Q:Exit→Act→World→Prop} {a:Act} {w:World} {l:List Oper} (hm:P.follows .mixedOrders=true) (hB:Region.lexB .any l.toArray=true)
 (h:wpQuiet P l.toArray (fun w'=>∃p:Aft w,w'=p.wd) (fun a'=>∀w',(∃p:Aft w,w'=p.wd)→Q .normal a' w') l a):(Code.region id l.toArray true).wp P Q a w:=
 wp_region_quiet (C:=fun w'=>∃p:Aft w,w'=p.wd) hm hB ⟨⟨w.drew,(Bel.refl w).drew⟩,rfl⟩ (by simpa using h)
theorem Calls.aft{P:Program}{f:FuncId}{args:Array Value}{w:World}{p:Aft w}{v:Value}(h:Calls P f args p.wd fun e w'=>e=.returned v∧Bel p.wd w'):
 Calls P f args p.wd fun e w''=>e=.returned v∧∃q:Aft w,w''=q.wd:=
 h.mono fun _ w' ⟨he,hb⟩=>⟨he,⟨w',p.bel.trans hb⟩,rfl⟩
theorem quiet_load_aft {P:Program} {ops:Array Oper} {w:World} {Q:Act→Prop} {op:Oper} {rest:List Oper} {a:Act} (ty:TypeId) (x:Operand) (ho:op.op=.load ty x)
 (b o:Nat) (hx:a.eval x=.pointer (some ⟨b,o,none⟩)) (cs:List Value) (d:TypeDesc) (hS:∀p:Aft w,p.wd.rangeAt b o cs)
 (hu:P.underlying ty=some d) (hd:d.isRow=true) (hi:(P.info? ty).map (·.size)=some cs.length) (hw:Region.wanted op (yielded ops a.tmps)=true)
 (h:∀a',a'=a.put op.dst (.agg cs.toArray)→wpQuiet P ops (fun w'=>∃p:Aft w,w'=p.wd) Q rest a'):wpQuiet P ops (fun w'=>∃p:Aft w,w'=p.wd) Q (op::rest) a:=by
 show if Region.wanted op (yielded ops a.tmps)then _ else _
 rw[if_pos hw]
 refine⟨_,?_,h _ rfl⟩
 rintro w' ⟨p,rfl⟩
 unfold Oper.quietAt execOp
 simp only[ho,hx,Instr.loadAt,Instr.sureAddr,Sem.run_bind,Sem.run_pure,Result.andThen_ok,run_loadVar_mid p.wd b o ty cs d (hS p) hu hd hi]
 exact⟨rfl,rfl⟩
end Go.Proofs.YtmlmkmhkmifnkaaGreatDoor.Ci
namespace Go.Proofs.YtmlmkmhkmifnkaaGreatDoor.Ci
open Go.RowKit
theorem size_run(b:Bool)(w:World):Calls Tryz.prog 126 #[.bool b] w fun e w'=>e=.returned (.int .i64 (sizeQ b:Nat))∧Bel w w':=by
 cases b with
 |false=>
  go_enter Tryz.func126,Tryz.ntmps126
  go_wp2_with fail
  go_ret
  exact⟨rfl,Bel.refl _⟩
 |true=>
  go_enter Tryz.func126,Tryz.ntmps126
  go_wp2_with fail
  go_ret
  exact⟨rfl,Bel.refl _⟩
theorem Aft.cell{w:World}(p:Aft w){b k:Nat}{v:Value}{cs:Array Value}{t:TypeId}(h:w.heap[b]?=some (.cells cs t (0,0)))(hv:cs[k]?=some v):p.wd.cell? ⟨b,k,none⟩=some v:=by
 simp[World.cell?,p.bel.heap h,hv]
theorem netC_six(n:Nt):(netC n).toArray[0]?=some (.bool n.six):=by simp[netC]
theorem netC_bits(n:Nt):(netC n).toArray[1]?=some (.int .i64 n.bits):=by simp[netC]
theorem Aft.range{w:World}(p:Aft w){b:Nat}{n:Nt}{t:TypeId}(h:w.heap[b]?=some (.cells (netC n).toArray t (0,0))):p.wd.rangeAt b 2 (n.addr.map u8V):=fun j v hv=>by
 refine p.cell h ?_
 simpa[netC,Nat.add_comm]using hv
theorem right_run(n:Nt)(hn:n.Fits)(w:World):Calls Tryz.prog 123 #[netV n] w fun e w'=>e=.returned (.bool (rightQ n))∧Bel w w':=by
 have HX:=hid ((Bel.refl w).alloc (.cells (netC n).toArray 86))
 have hb:=heap_alloc_new w (.cells (netC n).toArray 86)
 have c0:∀p:Aft (w.alloc (.cells (netC n).toArray 86)),p.wd.cell? ⟨w.heap.size,0,none⟩=some (.bool n.six):=fun p=>p.cell hb (netC_six n)
 have c1:∀p:Aft (w.alloc (.cells (netC n).toArray 86)),p.wd.cell? ⟨w.heap.size,1,none⟩=some (.int .i64 n.bits):=fun p=>p.cell hb (netC_bits n)
 have HR:=hid (fun p:Aft (w.alloc (.cells (netC n).toArray 86))=>p.range hb)
 have hl:=hn.len
 have hq:rightQ n=(decide (0≤n.bits)&&decide (n.bits≤(sizeQ n.six:Nat))&&decide (cutL n.addr n.bits=n.addr)):=rfl
 have hz:=hid (show(Tryz.prog.info? 84).map (·.size)=some (n.addr.map u8V).length by rw[List.length_map,hl];kernel_rfl)
 have hby:=hid hn.by_
 have h128:sizeQ n.six≤128:=by unfold sizeQ;split<;>omega
 have hcl:=eq_arr (cutL n.addr n.bits) n.addr (by simp[cutL,hl]) hl
 rw[hq]
 clear hb hn hq
 by_cases h0:0≤n.bits
 ·have d0:decide (0≤n.bits)=true:=decide_eq_true h0
  by_cases h1:n.bits≤(sizeQ n.six:Nat)
  ·have d1:decide (n.bits≤(sizeQ n.six:Nat))=true:=decide_eq_true h1
   have HC:=(show Hid (∀W,Calls Tryz.prog 197 #[.agg (n.addr.map u8V).toArray,.int .i64 n.bits] W fun e w'=>e=.returned (.agg ((cutL n.addr n.bits).map u8V).toArray)∧Bel W w')from
    fun W=>cut_run n.addr n.bits W hl hby.out h0 (by omega))
   rw[d0,d1]
   unfold netV
   go_enter Tryz.func123,Tryz.ntmps123
   go_wp2_with fail
   refine wp_region_aft (by kernel_rfl) (by kernel_rfl) ?_
   repeat (first
    |go_big_quiet_skip
    | (refine quiet_load_aft 84 _ rfl w.heap.size 2 rfl (n.addr.map u8V) (.array 16 5) HR.out Tryz.underlying84 rfl hz.out (by rfl) ?_;intro a' ha';simp only[Act.put,Array.setIfInBounds,List.size_toArray,go_sem]at ha';subst ha')
    |go_big_quiet_step (first
     | (go_at_call 126;exact Calls.aft (size_run n.six _))
     | (go_at_call 197;exact Calls.aft (HC.out _)))
    |quiet_step (first
     | (go_at_call 126;exact Calls.aft (size_run n.six _))
     | (go_at_call 197;exact Calls.aft (HC.out _))))
   refine wpQuiet_nil ?_
   rintro _ ⟨p,rfl⟩
   go_wp2_with fail
   go_ret
   exact⟨rfl,HX.out.trans p.bel⟩
  ·have d1:decide (n.bits≤(sizeQ n.six:Nat))=false:=decide_eq_false h1
   rw[d0,d1]
   unfold netV
   go_enter Tryz.func123,Tryz.ntmps123
   go_wp2_with fail
   refine wp_region_aft (by kernel_rfl) (by kernel_rfl) ?_
   repeat (go_big_quiet_step (first
    | (go_at_call 126;exact Calls.aft (size_run n.six _))))
   refine wpQuiet_nil ?_
   rintro _ ⟨p,rfl⟩
   go_wp2_with fail
   go_ret
   exact⟨rfl,HX.out.trans p.bel⟩
 ·have d0:decide (0≤n.bits)=false:=decide_eq_false h0
  rw[d0]
  unfold netV
  go_enter Tryz.func123,Tryz.ntmps123
  go_wp2_with fail
  refine wp_region_aft (by kernel_rfl) (by kernel_rfl) ?_
  repeat (go_big_quiet_step (fail))
  refine wpQuiet_nil ?_
  rintro _ ⟨p,rfl⟩
  go_wp2_with fail
  go_ret
  exact⟨rfl,HX.out.trans p.bel⟩
theorem rightQ_bits{n:Nt}(h:rightQ n=true):0≤n.bits∧n.bits≤128:=by
 unfold rightQ sizeQ at h
 simp only[Bool.and_eq_true,decide_eq_true_eq]at h
 refine⟨h.1.1,?_⟩
 have:=h.1.2
 split at this<;>omega
end Go.Proofs.YtmlmkmhkmifnkaaGreatDoor.Ci