import Derived.Test.YtmlmkmhkmifnkaaGreatDoorK12
set_option maxHeartbeats 16000000
set_option maxRecDepth 1000000
namespace Go.Proofs.YtmlmkmhkmifnkaaGreatDoor.Ma
open Ci (splitL addrQ formQ Nt rightQ addrT hexL hexB digB)
theorem split_join(c:UInt8):∀(s p:List UInt8) (ps:List (List UInt8)),splitL c s=p::ps→s=p++ps.flatMap (c:: ·)
 |[],p,ps,h=>by
  rw[splitL]at h
  obtain⟨rfl,rfl⟩:=List.cons.inj h
  rfl
 |b::l,p,ps,h=>by
  rw[splitL]at h
  by_cases hb:b=c
  ·rw[if_pos hb]at h
   obtain⟨rfl,rfl⟩:=List.cons.inj h
   rcases hs:splitL c l with _|⟨q,qs⟩
   ·exact absurd hs (Ci.splitL_ne c l)
   ·rw[List.flatMap_cons,hb,List.nil_append,List.cons_append,←split_join c l q qs hs]
  ·rw[if_neg hb]at h
   rcases hs:splitL c l with _|⟨q,qs⟩
   ·exact absurd hs (Ci.splitL_ne c l)
   ·rw[hs]at h
    obtain⟨rfl,rfl⟩:=List.cons.inj h
    rw[List.cons_append,←split_join c l q qs hs]
def tailI:List (List UInt8)→List It
 |[]=>[]
 |p::ps=>⟨[],[46],46,[]⟩::⟨[],p,97,p⟩::tailI ps
def dotI(g:List UInt8):List (List UInt8)→List It
 |[]=>[]
 |p::ps=>⟨g,p,97,p⟩::tailI ps
theorem tailI_flat:∀ps,flat (tailI ps)=ps.flatMap (46:: ·)
 |[]=>rfl
 |p::ps=>by
  show[46]++(p++flat (tailI ps))=_
  rw[tailI_flat ps,List.flatMap_cons]
  rfl
theorem dotI_flat(g s:List UInt8):flat (dotI g (splitL 46 s))=g++s:=by
 rcases hs:splitL 46 s with _|⟨p,ps⟩
 ·exact absurd hs (Ci.splitL_ne 46 s)
 ·have:=split_join 46 s p ps hs
  show(g++p)++flat (tailI ps)=_
  rw[tailI_flat,List.append_assoc,←this]
theorem u8_forall{p:UInt8→Prop}(h:∀n:Fin 256,p (UInt8.ofNat n.val)):∀b,p b:=fun b=>by
 have:=h ⟨b.toNat,b.toNat_lt⟩
 simpa using this
theorem ldh_at:∀b:UInt8,ldhB b=true→atB b=true∧b≠91:=u8_forall (by decide)
theorem named_ok{s:List UInt8}(h:namedQ s=true):∀p∈splitL 46 s,p≠[]∧∀b∈p,atB b=true:=by
 intro p hp
 have:=List.all_eq_true.1 h p hp
 unfold lblQ at this
 simp only[Bool.and_eq_true]at this
 refine⟨fun e=>by rw[e]at this;simp at this,fun b hb=>(ldh_at b (List.all_eq_true.1 this.1.1.2 b hb)).1⟩
theorem named_ne{s:List UInt8}(h:namedQ s=true):s≠[]:=by
 rintro rfl
 have:=(named_ok h [] (by simp[splitL])).1
 exact this rfl
def inB(b:UInt8):Bool:=decide (32<b.toNat)&&decide (b.toNat≤126)&&b !=91&&b !=92&&b !=93
theorem hex_in:∀b:UInt8,hexB b=true→inB b=true:=u8_forall (by decide)
theorem dig_in:∀b:UInt8,digB b=true→inB b=true∧lowB b≠105:=u8_forall (by decide)
theorem join_in(sep:UInt8)(hs:inB sep=true)(ps:List (List UInt8))(hp:∀p∈ps,∀b∈p,inB b=true):∀b∈Lib.join ps [sep],inB b=true:=by
 intro b h
 cases ps with
 |nil=>cases h
 |cons p ps=>
  rw[Lib.join_cons]at h
  rcases List.mem_append.1 h with h|h
  ·exact hp p (List.mem_cons_self ..) b h
  ·unfold Lib.joinTail at h
   obtain⟨q,hq,hb⟩:=List.mem_flatten.1 h
   obtain⟨r,hr,rfl⟩:=List.mem_map.1 hq
   rcases List.mem_append.1 hb with hb|hb
   ·rw[List.mem_singleton.1 hb];exact hs
   ·exact hp r (List.mem_cons_of_mem _ hr) b hb
theorem form_in(n:Nt):∀b∈formQ n,inB b=true:=by
 have hd:∀k,∀b∈Lib.decDigits k,inB b=true:=fun k b hb=>(dig_in b (Ci.decDigits_ok k b hb)).1
 have hx:∀l:List Nat,∀b∈Lib.join (l.map hexL) [58],inB b=true:=fun l=>join_in 58 (by decide) _ (fun p hp b hb=>by
  obtain⟨g,-,rfl⟩:=List.mem_map.1 hp
  exact hex_in b (Ci.hexL_ok g b hb).1)
 have ha:∀b∈addrT n,inB b=true:=by
  intro b hb
  unfold addrT at hb
  split at hb
  ·unfold Ci.formL at hb
   split at hb
   ·exact hx _ b hb
   ·rcases List.mem_append.1 hb with hb|hb
    ·rcases List.mem_append.1 hb with hb|hb
     ·exact hx _ b hb
     ·rcases List.mem_cons.1 hb with rfl|hb
      ·decide
      ·rw[List.mem_singleton.1 hb];decide
    ·exact hx _ b hb
  ·refine join_in 46 (by decide) _ (fun p hp b hb=> ?_) b hb
   obtain⟨g,-,rfl⟩:=List.mem_map.1 hp
   exact hd g b hb
 intro b hb
 unfold formQ at hb
 split at hb
 ·rcases List.mem_append.1 hb with hb|hb
  ·exact ha b hb
  ·rcases List.mem_cons.1 hb with rfl|hb
   ·decide
   ·exact hd _ b hb
 ·exact ha b hb
structure Good (p:Pt):Prop where
 nn:p.null=false
 dn:p.dom≠[]
 rt:rightP p=0
theorem Good.may{p:Pt}(h:Good p):mayQ p=true:=by
 have:=h.rt
 unfold rightP at this
 cases hm:mayQ p with
 |true=>rfl
 |false=>rw[hm]at this;simp at this
theorem Good.len{p:Pt}(h:Good p):¬(64<(formP p.loc).length∨(!p.lit)=true∧255<p.dom.length∨256<(shownP p).length+2):=by
 have h1:=h.rt
 unfold rightP at h1
 rw[h.may,h.nn]at h1
 intro hc
 rw[if_neg (by decide),if_neg (by decide),if_pos hc]at h1
 simp at h1
theorem Good.loc{p:Pt}(h:Good p):p.loc≠[]∧∀b∈p.loc,oddB b=false:=by
 have:=h.may
 unfold mayQ at this
 rw[h.nn,if_neg (by decide)]at this
 by_cases hc:(p.loc.isEmpty||p.loc.any oddB)=true
 ·rw[if_pos hc]at this;simp at this
 ·simp only[Bool.or_eq_true,not_or]at hc
  refine⟨fun e=>hc.1 (by rw[e];rfl),fun b hb=> ?_⟩
  cases ho:oddB b with
  |false=>rfl
  |true=>exact absurd (List.any_eq_true.2 ⟨b,hb,ho⟩) hc.2
theorem Good.lit{p:Pt}(h:Good p)(hl:p.lit=true):∃n,addrQ p.dom=some n∧formQ n=p.dom:=by
 have:=h.may
 unfold mayQ at this
 rw[h.nn,if_neg (by decide),hl]at this
 by_cases hc:(p.loc.isEmpty||p.loc.any oddB)=true
 ·rw[if_pos hc]at this;simp at this
 ·rw[if_neg hc,if_pos rfl]at this
  cases ha:addrQ p.dom with
  |none=>rw[ha]at this;simp at this
  |some n=>rw[ha]at this;exact⟨n,rfl,by simpa using this⟩
theorem Good.nam{p:Pt}(h:Good p)(hl:p.lit=false):namedQ p.dom=true∧lowL p.dom=p.dom:=by
 have:=h.may
 unfold mayQ at this
 rw[h.nn,if_neg (by decide),hl]at this
 have he:p.dom.isEmpty=false:=by
  cases hd:p.dom with
  |nil=>exact absurd hd h.dn
  |cons=>rfl
 by_cases hc:(p.loc.isEmpty||p.loc.any oddB)=true
 ·rw[if_pos hc]at this;simp at this
 ·rw[if_neg hc,if_neg (by decide),he,if_neg (by decide)]at this
  simpa using this
theorem showQ_good{p:Pt}(h:Good p):showQ p=(shownP p,0):=by
 unfold showQ
 have he:p.dom.isEmpty=false:=by
  cases hd:p.dom with
  |nil=>exact absurd hd h.dn
  |cons=>rfl
 rw[h.nn,he,if_neg (by decide),if_pos h.rt]
theorem good_of_show{p:Pt}(h:(showQ p).2=0):Good p:=by
 unfold showQ at h
 by_cases hc:(p.null||p.dom.isEmpty)=true
 ·rw[if_pos hc]at h;simp at h
 ·rw[if_neg hc]at h
  simp only[Bool.or_eq_true,not_or]at hc
  by_cases hr:rightP p=0
  ·exact⟨by simpa using hc.1,fun e=>hc.2 (by rw[e];rfl),hr⟩
  ·rw[if_neg hr]at h;exact absurd h hr
def locI(g loc:List UInt8):List It:=if dottedQ loc then dotI g (splitL 46 loc)else[⟨g,34::(loc.flatMap esc++[34]),113,loc⟩]
def domI(p:Pt):List It:=if p.lit then[⟨[],domP p,108,domP p⟩]else dotI [] (splitL 46 p.dom)
def putP(g:List UInt8)(p:Pt):Spc:=⟨locI g p.loc++⟨[],[64],64,[]⟩::domI p,p.loc,domP p⟩
theorem locI_flat(g loc:List UInt8):flat (locI g loc)=g++formP loc:=by
 unfold locI formP
 split
 ·exact dotI_flat g loc
 ·simp[flat,It.b]
theorem domI_flat(p:Pt):flat (domI p)=domP p:=by
 unfold domI
 cases hl:p.lit with
 |true=>
  rw[if_pos rfl]
  simp[flat,It.b]
 |false=>
  rw[if_neg (by decide),dotI_flat]
  unfold domP
  rw[hl,if_neg (by decide)]
  rfl
theorem putP_flat(g:List UInt8){p:Pt}(h:Good p):flat (putP g p).sec=g++shownP p:=by
 have he:p.dom.isEmpty=false:=by
  cases hd:p.dom with
  |nil=>exact absurd hd h.dn
  |cons=>rfl
 unfold putP shownP
 rw[h.nn,if_neg (by decide),he,Bool.and_false,if_neg (by decide),flat_app,locI_flat,flat_cons,domI_flat]
 simp[It.b]
theorem litP(p:Pt)(hl:p.lit=true):domP p=91::(((if sixP p then IPv6 else[])++p.dom)++[93]):=by
 unfold domP
 rw[hl,if_pos rfl]
 simp
theorem lit_in{p:Pt}(h:Good p)(hl:p.lit=true):∀b∈(if sixP p then IPv6 else[])++p.dom,inB b=true:=by
 obtain⟨n,hn,hf⟩:=h.lit hl
 intro b hb
 rcases List.mem_append.1 hb with hb|hb
 ·split at hb
  ·have key:∀b∈IPv6,inB b=true:=by decide
   exact key b hb
  ·cases hb
 ·rw[←hf]at hb
  exact form_in n b hb
theorem good_addr{loc dom:List UInt8}(h:(addrOf loc dom).2=0):Good (addrOf loc dom).1:=by
 unfold addrOf at h⊢
 simp only at h⊢
 by_cases hd:(domainQ dom).2.2=0
 ·rw[if_pos hd]at h
  refine⟨rfl,?_,h⟩
  show(domainQ dom).1≠[]
  unfold domainQ at hd⊢
  by_cases h1:isLit dom=true
  ·rw[if_pos h1]at hd⊢
   cases ha:addrQ (stripQ (innerQ dom))with
   |none=>rw[ha]at hd;simp at hd
   |some n=>
    rw[ha]at hd
    simp only at hd⊢
    by_cases h6:n.six=sixQ' (innerQ dom)
    ·rw[if_pos h6]
     intro hf
     have hdq:domainQ dom=(formQ n,true,0):=by unfold domainQ;rw[if_pos h1,ha];simp only;rw[if_pos h6]
     rw[hdq,show formQ n=[]from hf]at h
     have hm:mayQ ⟨false,loc,[],true⟩=false:=by
      have hnone:addrQ []=none:=by decide
      unfold mayQ
      rw[if_neg Bool.false_ne_true]
      by_cases hc:(loc.isEmpty||loc.any oddB)=true
      ·rw[if_pos hc]
      ·rw[if_neg hc,if_pos rfl]
       simp only
       rw[hnone]
     unfold rightP at h
     rw[hm]at h
     simp at h
    ·rw[if_neg h6]at hd;simp at hd
  ·rw[if_neg h1]at hd⊢
   by_cases hn:namedQ dom=true
   ·rw[hn,if_neg (by decide)]at hd⊢
    by_cases hl:255<dom.length
    ·rw[if_pos hl]at hd;simp at hd
    ·rw[if_neg hl]
     intro e
     exact named_ne hn (List.map_eq_nil_iff.1 e)
   ·have:namedQ dom=false:=by simpa using hn
    rw[this,if_pos (by decide)]at hd
    simp at hd
 ·rw[if_neg hd]at h
  exact absurd h hd
end Go.Proofs.YtmlmkmhkmifnkaaGreatDoor.Ma
namespace Go.Proofs.YtmlmkmhkmifnkaaGreatDoor.Ma
theorem mails_ok:∀(L:List Sp) (l:List Ml),mailsQ L=(l,0)→l=L.map (fun x=>⟨(addrOf x.loc x.dom).1,x.from_,x.til,x.name⟩)∧∀x∈L,(addrOf x.loc x.dom).2=0
 |[],l,h=>by
  rw[mailsQ]at h
  obtain⟨rfl,-⟩:=Prod.mk.inj h
  exact⟨rfl,fun x hx=>by cases hx⟩
 |x::L,l,h=>by
  rw[mailsQ]at h
  by_cases h1:(addrOf x.loc x.dom).2=0
  ·rw[if_pos h1]at h
   by_cases h2:(mailsQ L).2=0
   ·rw[if_pos h2]at h
    obtain⟨rfl,-⟩:=Prod.mk.inj h
    obtain⟨e,f⟩:=mails_ok L (mailsQ L).1 (by rw[←h2])
    refine⟨by rw[List.map_cons,←e],fun y hy=> ?_⟩
    rcases List.mem_cons.1 hy with rfl|hy
    ·exact h1
    ·exact f y hy
   ·rw[if_neg h2]at h
    exact absurd (Prod.mk.inj h).2 h2
  ·rw[if_neg h1]at h
   have:=(Prod.mk.inj h).2
   split at this<;>simp at this
theorem mails_bad:∀(L:List Sp),(mailsQ L).2≠0→(mailsQ L).1=[]
 |[],h=>rfl
 |x::L,h=>by
  rw[mailsQ]at h⊢
  by_cases h1:(addrOf x.loc x.dom).2=0
  ·rw[if_pos h1]at h⊢
   by_cases h2:(mailsQ L).2=0
   ·rw[if_pos h2]at h;simp at h
   ·rw[if_neg h2]
  ·rw[if_neg h1]
theorem parse_ok{body:List UInt8}{l:List Ml}(h:parseQ body=(l,0)):body.length≤65536∧∃L,readQ body=some L∧mailsQ L=(l,0)∧l.length≤200:=by
 unfold parseQ at h
 by_cases h1:65536<body.length
 ·rw[if_pos h1]at h;simp at h
 ·rw[if_neg h1]at h
  cases hr:readQ body with
  |none=>rw[hr]at h;simp at h
  |some L=>
   rw[hr]at h
   simp only at h
   by_cases h2:(mailsQ L).2=0∧200<(mailsQ L).1.length
   ·rw[if_pos h2]at h;simp at h
   ·rw[if_neg h2]at h
    refine⟨by omega,L,rfl,h,?_⟩
    rw[h]at h2
    simp only[true_and]at h2
    omega
theorem parse_good{body:List UInt8}{l:List Ml}(h:parseQ body=(l,0)):∀m∈l,Good m.path:=by
 obtain⟨-,L,-,hm,-⟩:=parse_ok h
 obtain⟨rfl,hg⟩:=mails_ok L l hm
 intro m hm
 obtain⟨x,hx,rfl⟩:=List.mem_map.1 hm
 exact good_addr (hg x hx)
theorem tok_raw{m:List Sg}(h:∃m' e,m=m'++[.keep e]∧IsEnd e∧∀i∈its m',Tok i):∀x∈m,∀s n,x=.sp s n→∀i∈s.sec,i.raw≠[]:=by
 obtain⟨m',e,rfl,-,ht⟩:=h
 rintro x hx s n rfl i hi
 rcases List.mem_append.1 hx with hx|hx
 ·exact raw_ne (ht i (List.mem_flatMap.2 ⟨_,hx,hi⟩)).r
 ·cases List.mem_singleton.1 hx
def OrdM(n:Nat):Nat→List Ml→Prop
 |a,[]=>a≤n
 |a,x::l=>a≤x.from_∧x.from_<x.til∧OrdM n x.til l
theorem parse_ord{body:List UInt8}{l:List Ml}(h:parseQ body=(l,0)):OrdM body.length 0 l:=by
 obtain⟨-,L,hr,hm,-⟩:=parse_ok h
 obtain⟨m,hR,rfl⟩:=read_sound body L hr
 obtain⟨rfl,-⟩:=mails_ok _ l hm
 have ho:=sps_ord m 0 body.length (body_ok hR.gr) (tok_raw hR.tk) (by rw[Nat.zero_add,←hR.tx];exact Nat.le_refl _)
 have key:∀(L:List Sp) (a:Nat),Ord body.length a L→OrdM body.length a (L.map fun x=>⟨(addrOf x.loc x.dom).1,x.from_,x.til,x.name⟩):=by
  intro L
  induction L with
  |nil=>intro a h;exact h
  |cons x L ih=>intro a h;exact⟨h.1,h.2.1,ih _ h.2.2⟩
 exact key _ _ ho
theorem replF_eq(body:List UInt8):∀(L:List Sp) (ps:List Pt) (at_:Nat) (b:List UInt8),(∀p∈ps,Good p)→L.length=ps.length→
 replF body at_ b (L.map fun x=>⟨(addrOf x.loc x.dom).1,x.from_,x.til,x.name⟩) ps=if 65536<(b++replL shownP body at_ L ps).length then([],101)else(b++replL shownP body at_ L ps,0)
 |[],ps,at_,b,_,hl=>by
  cases ps with
  |nil=>rfl
  |cons p ps=>simp at hl
 |x::L,ps,at_,b,hg,hl=>by
  cases ps with
  |nil=>simp at hl
  |cons p ps=>
   have:=showQ_good (hg p (List.mem_cons_self ..))
   rw[List.map_cons,replF,this,if_pos rfl,replF_eq body L ps _ _ (fun q hq=>hg q (List.mem_cons_of_mem _ hq)) (by simpa using hl),replL]
   simp only[List.append_assoc]
theorem replF_good(body:List UInt8):∀(ms:List Ml) (ps:List Pt) (at_:Nat) (b:List UInt8),ms.length=ps.length→(replF body at_ b ms ps).2=0→∀p∈ps,Good p
 |[],ps,at_,b,hl,_=>by
  cases ps with
  |nil=>intro p hp;cases hp
  |cons p ps=>simp at hl
 |x::ms,ps,at_,b,hl,h=>by
  cases ps with
  |nil=>simp at hl
  |cons p ps=>
   rw[replF]at h
   by_cases h1:(showQ p).2=0
   ·rw[if_pos h1]at h
    intro q hq
    rcases List.mem_cons.1 hq with rfl|hq
    ·exact good_of_show h1
    ·exact replF_good body ms ps _ _ (by simpa using hl) h q hq
   ·rw[if_neg h1]at h
    exact absurd h h1
theorem replace_ok{body:List UInt8}{ps:List Pt}(h:(replaceQ body ps).2=0):∃l,parseQ body=(l,0)∧l.length=ps.length∧∀p∈ps,Good p:=by
 unfold replaceQ at h
 by_cases h1:(parseQ body).2=0
 ·rw[if_neg (by simpa using h1)]at h
  by_cases h2:(parseQ body).1.length=ps.length
  ·rw[if_neg (by simpa using h2)]at h
   exact⟨_,Prod.ext rfl h1,h2,replF_good body _ ps 0 [] h2 h⟩
  ·rw[if_pos h2]at h;simp at h
 ·rw[if_pos h1]at h
  exact absurd h h1
end Go.Proofs.YtmlmkmhkmifnkaaGreatDoor.Ma
namespace Go.Proofs.YtmlmkmhkmifnkaaGreatDoor.Ma
open Go.RowKit
open Ci (Bel own_bel row_shape addr_add own_base)
theorem quo_len:∀(k:Nat) (s x:List UInt8) (n:Nat),s.length≤k→quoL s=some (x,n)→x.length≤n
 |0,s,x,n,hs,h=>by
  cases s with
  |nil=>simp[quoL]at h
  |cons=>simp at hs
 |k+1,s,x,n,hs,h=>by
  cases s with
  |nil=>simp[quoL]at h
  |cons b t=>
   rw[quoL.eq_def]at h
   simp only at h
   by_cases h1:b=34
   ·rw[if_pos h1]at h
    obtain⟨rfl,rfl⟩:=Prod.mk.inj (Option.some.inj h)
    exact Nat.zero_le _
   ·rw[if_neg h1]at h
    by_cases h2:b=13∨b=10
    ·rw[if_pos h2]at h
     obtain⟨⟨x',m⟩,h3,h4⟩:=Option.map_eq_some_iff.1 h
     obtain⟨rfl,rfl⟩:=Prod.mk.inj h4
     have:=quo_len k t x' m (by simp at hs;omega) h3
     simp only at this⊢;omega
    ·rw[if_neg h2]at h
     by_cases h3:b=92
     ·rw[if_pos h3]at h
      cases t with
      |nil=>simp at h
      |cons b2 t=>
       simp only at h
       by_cases h4:b2=13∨b2=10
       ·rw[if_pos h4]at h;simp at h
       ·rw[if_neg h4]at h
        obtain⟨⟨x',m⟩,h5,h6⟩:=Option.map_eq_some_iff.1 h
        obtain⟨rfl,rfl⟩:=Prod.mk.inj h6
        have:=quo_len k t x' m (by simp at hs;omega) h5
        simp only[List.length_cons]at this⊢;omega
     ·rw[if_neg h3]at h
      by_cases h4:b.toNat<32∧b≠9∨b=127
      ·rw[if_pos h4]at h;simp at h
      ·rw[if_neg h4]at h
       obtain⟨⟨x',m⟩,h5,h6⟩:=Option.map_eq_some_iff.1 h
       obtain⟨rfl,rfl⟩:=Prod.mk.inj h6
       have:=quo_len k t x' m (by simp at hs;omega) h5
       simp only[List.length_cons]at this⊢;omega
theorem raw_text{i:It}(h:Raw i):i.text.length≤i.raw.length∧i.kind≠0:=by
 cases h with
 |sg g c hc=>exact⟨Nat.zero_le _,fun e=>by rw[show c=0 from e]at hc;exact absurd hc (by decide)⟩
 |qu g c x hc=>exact⟨by have:=quo_len _ c x _ (Nat.le_refl _) hc;simp only[List.length_cons];omega,by show(113:UInt8)≠0;decide⟩
 |li g c hc=>exact⟨Nat.le_refl _,by show(108:UInt8)≠0;decide⟩
 |at_ g b c hc=>exact⟨Nat.le_refl _,by show(97:UInt8)≠0;decide⟩
theorem flat_mem_le:∀(l:List It) (i:It),i∈l→i.raw.length≤(flat l).length
 |[],_,h=>by cases h
 |j::l,i,h=>by
  rw[flat_cons,List.length_append]
  rcases List.mem_cons.1 h with rfl|h
  ·unfold It.b;rw[List.length_append];omega
  ·have:=flat_mem_le l i h;omega
structure Lexed (s:List UInt8) (T:List Tk):Prop where
 num:T.length≤s.length+1
 en:∃T' e,T=T'++[e]∧e.kind=101∧∀t∈T',t.kind≠101
 nn:∀t∈T,t.kind≠0
 tx:∀t∈T,t.text.length≤s.length
 pos:∀(i j:Nat) (hi:i<T.length) (hj:j<T.length),T[j].til≤s.length∧(i≤j→T[i].from_≤T[j].til)
theorem lexed{s:List UInt8}{T:List Tk}(h:cutQ s=some T):Lexed s T:=by
 obtain⟨l,e,h1,rfl,h3,h4,h5⟩:=lex_sound _ _ _ _ h
 have hf:flat (l++[e])=s:=h1.symm
 have hin:=posn_in (l++[e]) 0
 have hk:∀t∈posn 0 (l++[e]),t.kind≠0∧t.text.length≤s.length:=by
  intro t ht
  obtain⟨i,hi,e1,e2⟩:=posn_kind _ _ t ht
  rw[e1,e2]
  rcases List.mem_append.1 hi with hi|hi
  ·have:=raw_text (h3 i hi).r
   have h6:=flat_mem_le (l++[e]) i (List.mem_append_left _ hi)
   rw[hf]at h6
   exact⟨this.2,Nat.le_trans this.1 h6⟩
  ·rw[List.mem_singleton.1 hi,h4.2.2.1,h4.2.2.2]
   exact⟨by decide,Nat.zero_le _⟩
 refine⟨?_,?_,fun t ht=>(hk t ht).1,fun t ht=>(hk t ht).2,?_⟩
 ·rw[posn_len,List.length_append,List.length_singleton]
  have:=flat_len_le l fun i hi=>raw_ne (h3 i hi).r
  rw[←hf,flat_app,List.length_append]
  omega
 ·refine⟨posn 0 l,⟨e.kind,e.text,0+(flat l).length+e.gap.length,0+(flat l).length+e.b.length⟩,?_,h4.2.2.1,?_⟩
  ·rw[posn_app];rfl
  ·intro t ht
   obtain⟨i,hi,e1,-⟩:=posn_kind _ _ t ht
   rw[e1]
   exact raw_kind (h3 i hi).r
 ·intro i j hi hj
  refine⟨?_,fun hij=>posn_ord _ _ _ _ hi hj hij⟩
  have:=(hin _ (List.getElem_mem hj)).2.2
  rw[hf]at this
  omega
theorem cx_of{s:ByteArray}{w W:World}{T:List Tk}{lb cp:Nat}(hs:s.size≤65536)(hl:Lexed s.data.toList T)(ht:Toks w W (.slice (some ⟨lb,0,none⟩) T.length cp) T):(⟨W,lb,s,T⟩:Cx).Ok∧(⟨W,lb,s,T⟩:Cx).Pos:=by
 have hsz:=Lib.size_eq s
 have hne:0<T.length:=by
  obtain⟨T',e,rfl,-⟩:=hl.en
  simp
 refine⟨⟨?_,?_,by show T.length≤65537;have:=hl.num;omega,hl.en,hl.nn,fun t h=>by have:=hl.tx t h;omega⟩,fun i j hi hj=>by have:=hl.pos i j hi hj;refine⟨by show T[j].til≤s.size;have:=this.1;omega,this.2⟩⟩
 ·intro j v hv
  have hj:=(List.getElem?_eq_some_iff.1 hv).1
  rw[ht.1]at hj
  exact(World.ownsRow.cellAt ht j hj).trans hv
 ·rcases ht.2 with⟨-,h⟩|⟨g,cap,cur,e,hg,hh,-⟩
  ·omega
  ·cases e
   exact(Array.getElem?_eq_some_iff.1 hh).1
theorem toks_at{w W:World}{v:Value}{T:List Tk}(h:Toks w W v T)(hne:0<T.length):∃lb cp,v=.slice (some ⟨lb,0,none⟩) T.length cp∧w.heap.size≤lb∧lb<W.heap.size∧T.length≤cp:=by
 rcases h.2 with⟨-,h⟩|⟨g,cap,cur,e,hg,hh,h1,h2,h3⟩
 ·omega
 ·exact⟨g,cap,e,hg,(Array.getElem?_eq_some_iff.1 hh).1,by omega⟩
theorem read_of{s:List UInt8}{T:List Tk}(h:cutQ s=some T):readQ s=if(commasQ 101 (elementQ s) (T.length+1) ⟨false,T,[]⟩).bad then none else some (commasQ 101 (elementQ s) (T.length+1) ⟨false,T,[]⟩).all:=by
 unfold readQ
 rw[h]
theorem read_none{s:List UInt8}(h:cutQ s=none):readQ s=none:=by
 unfold readQ
 rw[h]
theorem ord_len{n:Nat}:∀{l:List Sp} {a:Nat},Ord n a l→a+l.length≤n
 |[],a,h=>h
 |x::l,a,h=>by have:=ord_len h.2.2;have:=h.1;have:=h.2.1;simp only[List.length_cons];omega
theorem read_len{s:List UInt8}{L:List Sp}(h:readQ s=some L):Ord s.length 0 L∧L.length≤s.length:=by
 obtain⟨m,hR,rfl⟩:=read_sound s L h
 have ho:=sps_ord m 0 s.length (body_ok hR.gr) (tok_raw hR.tk) (by rw[Nat.zero_add,←hR.tx];exact Nat.le_refl _)
 exact⟨ho,by have:=ord_len ho;omega⟩
theorem raw_pos{i:It}(h:Raw i):1≤i.raw.length:=by
 have:=raw_ne h
 cases hr:i.raw with
 |nil=>exact absurd hr this
 |cons b l=>simp
theorem tl_len{w:UInt8→Bool}{c:List It}{t:List UInt8}(h:Tl w c t)(hr:∀i∈c,Raw i):t.length≤(flat c).length:=by
 induction h with
 |nil=>exact Nat.le_refl _
 |cons d i c t _ _ _ ih=>
  have h1:=ih fun j hj=>hr j (List.mem_cons_of_mem _ (List.mem_cons_of_mem _ hj))
  have h2:=raw_pos (hr d (List.mem_cons_self ..))
  have h3:=(raw_text (hr i (List.mem_cons_of_mem _ (List.mem_cons_self ..)))).1
  rw[flat_cons,flat_cons]
  unfold It.b
  simp only[List.length_append,List.length_cons,List.length_nil]at h1⊢
  omega
theorem dots_len{w:UInt8→Bool}{c:List It}{t:List UInt8}(h:Dots w c t)(hr:∀i∈c,Raw i):t.length≤(flat c).length:=by
 cases h with
 |mk i c t _ hc=>
  have h1:=tl_len hc fun j hj=>hr j (List.mem_cons_of_mem _ hj)
  have h3:=(raw_text (hr i (List.mem_cons_self ..))).1
  rw[flat_cons]
  unfold It.b
  simp only[List.length_append]at h1⊢
  omega
theorem dom_len{c:List It}{t:List UInt8}(h:IsDom c t)(hr:∀i∈c,Raw i):t.length≤(flat c).length:=by
 cases h with
 |lit i _=>
  have h3:=(raw_text (hr i (List.mem_cons_self ..))).1
  rw[flat_cons]
  unfold It.b
  simp only[List.length_append]
  omega
 |dots c t hd=>exact dots_len hd hr
theorem spec_len{s:Spc}(h:IsSpec s)(hr:∀i∈s.sec,Raw i):s.loc.length≤(flat s.sec).length∧s.dom.length≤(flat s.sec).length:=by
 cases h with
 |mk l a d loc dom h1 h2 h3=>
  have k1:=dots_len h1 fun i hi=>hr i (List.mem_append_left _ hi)
  have k2:=dom_len h3 fun i hi=>hr i (List.mem_append_right _ (List.mem_cons_of_mem _ hi))
  show loc.length≤(flat (l++a::d)).length∧dom.length≤(flat (l++a::d)).length
  rw[flat_app,flat_cons,List.length_append,List.length_append]
  omega
theorem sps_mem:∀(m:List Sg) (o:Nat) (x:Sp),x∈spsOf o m→∃s n,Sg.sp s n∈m∧x.loc=s.loc∧x.dom=s.dom
 |[],_,x,h=>by simp[spsOf]at h
 |.keep i::m,o,x,h=>by
  rw[spsOf]at h
  obtain⟨s,n,h1,h2⟩:=sps_mem m _ x h
  exact⟨s,n,List.mem_cons_of_mem _ h1,h2⟩
 |.sp s n::m,o,x,h=>by
  rw[spsOf]at h
  rcases List.mem_cons.1 h with rfl|h
  ·exact⟨s,n,List.mem_cons_self ..,rfl,rfl⟩
  ·obtain⟨s,n,h1,h2⟩:=sps_mem m _ x h
   exact⟨s,n,List.mem_cons_of_mem _ h1,h2⟩
theorem its_sec_le:∀(m:List Sg) (s:Spc) (n:List UInt8),Sg.sp s n∈m→(flat s.sec).length≤(flat (its m)).length
 |[],_,_,h=>by cases h
 |y::m,s,n,h=>by
  have e:flat (its (y::m))=flat y.its++flat (its m):=by
   show flat (y.its++its m)=_
   rw[flat_app]
  rw[e,List.length_append]
  rcases List.mem_cons.1 h with rfl|h
  ·show _≤(flat s.sec).length+_;omega
  ·have:=its_sec_le m s n h;omega
theorem read_small{s:List UInt8}{L:List Sp}(h:readQ s=some L):∀x∈L,x.loc.length≤s.length∧x.dom.length≤s.length:=by
 obtain⟨m,hR,rfl⟩:=read_sound s L h
 intro x hx
 obtain⟨sp,n,hm,e1,e2⟩:=sps_mem m 0 x hx
 rw[e1,e2]
 have hle:=its_sec_le m sp n hm
 rw[←hR.tx]at hle
 have hr:∀i∈sp.sec,Raw i:=by
  obtain⟨m',e,rfl,-,ht⟩:=hR.tk
  rcases List.mem_append.1 hm with hm|hm
  ·exact fun i hi=>(ht i (List.mem_flatMap.2 ⟨_,hm,hi⟩)).r
  ·cases List.mem_singleton.1 hm
 have:=spec_len (show IsSpec sp from body_ok hR.gr _ hm) hr
 omega
def mlOf(x:Sp):Ml:=⟨(addrOf x.loc x.dom).1,x.from_,x.til,x.name⟩
def MlI(L:List Sp)(k:Nat)(l:List Ml):Prop:=l.length=k∧mailsQ L=if(mailsQ (L.drop k)).2=0 then(l++(mailsQ (L.drop k)).1,0)else([],(mailsQ (L.drop k)).2)
theorem MlI.zero(L:List Sp):MlI L 0 []:=by
 refine⟨rfl,?_⟩
 rw[List.drop_zero]
 split
 ·rename_i h;rw[List.nil_append,←h]
 ·rename_i h;rw[←mails_bad L h]
theorem drop_at'{α:Type}{l:List α}{k:Nat}(hk:k<l.length):l.drop k=l[k]::l.drop (k+1):=List.drop_eq_getElem_cons hk
theorem MlI.next{L:List Sp}{k:Nat}{l:List Ml}(h:MlI L k l)(hk:k<L.length)(h0:(addrOf L[k].loc L[k].dom).2=0):MlI L (k+1) (l++[mlOf L[k]]):=by
 refine⟨by rw[List.length_append,h.1];rfl,?_⟩
 rw[h.2,drop_at' hk,mailsQ,if_pos h0]
 by_cases h1:(mailsQ (L.drop (k+1))).2=0
 ·rw[if_pos h1,if_pos h1,if_pos rfl]
  simp[mlOf]
 ·rw[if_neg h1,if_neg h1,if_neg h1]
theorem MlI.bad{L:List Sp}{k:Nat}{l:List Ml}(h:MlI L k l)(hk:k<L.length)(h0:(addrOf L[k].loc L[k].dom).2≠0):mailsQ L=([],if(addrOf L[k].loc L[k].dom).2=91 then 101 else 100):=by
 rw[h.2,drop_at' hk,mailsQ,if_neg h0]
 by_cases h9:(addrOf L[k].loc L[k].dom).2=91
 ·rw[if_pos h9];rfl
 ·rw[if_neg h9];rfl
theorem MlI.end_{L:List Sp}{k:Nat}{l:List Ml}(h:MlI L k l)(hk:L.length≤k):mailsQ L=(l,0):=by
 rw[h.2,List.drop_eq_nil_of_le hk,mailsQ,if_pos rfl,List.append_nil]
end Go.Proofs.YtmlmkmhkmifnkaaGreatDoor.Ma
namespace Go.Proofs.YtmlmkmhkmifnkaaGreatDoor.Ma
open Go.RowKit
open Ci (Bel Lay)
theorem ib_run(s:ByteArray)(c:UInt8)(W:World):Calls Tryz.prog 168 #[.string s,.int .u8 (c.toNat:Int)] W fun e w'=>e=.returned (.int .i64 (Lib.indexByte s.data.toList c))∧w'=W:=by
 have:=Tryz.strings_IndexByte s c.toNat W;rw[u8_back]at this;exact this
def whN(B:List UInt8)(l:List UInt8):Nat:=(l.takeWhile (B.contains ·)).length
theorem whN_le(B l:List UInt8):whN B l≤l.length:=by
 unfold whN
 exact(List.takeWhile_prefix _).length_le
theorem whN_step{B l:List UInt8}{k:Nat}(hk:k<l.length)(h:whN B l=k+whN B (l.drop k))(hc:B.contains l[k]=true):whN B l=(k+1)+whN B (l.drop (k+1)):=by
 rw[h,drop_at hk]
 unfold whN
 rw[List.takeWhile_cons,if_pos hc,List.length_cons]
 omega
theorem whN_stop{B l:List UInt8}{k:Nat}(hk:k<l.length)(h:whN B l=k+whN B (l.drop k))(hc:B.contains l[k]=false):whN B l=k:=by
 rw[h,drop_at hk]
 unfold whN
 rw[List.takeWhile_cons,hc]
 simp
theorem whN_end{B l:List UInt8}{k:Nat}(hk:l.length≤k)(h:whN B l=k+whN B (l.drop k)):whN B l=k:=by
 rw[h,List.drop_eq_nil_of_le hk]
 rfl
theorem whN_all(B:List UInt8):∀l:List UInt8,(whN B l=l.length)↔l.all (B.contains ·)=true
 |[]=>by simp[whN]
 |b::l=>by
  have ih:=whN_all B l
  unfold whN at ih⊢
  rw[List.takeWhile_cons,List.all_cons]
  cases hb:B.contains b with
  |true=>simpa using ih
  |false=>simp
theorem while_run(s bs:ByteArray)(w:World)(hs:s.size<9223372036854775807):
 Calls Tryz.prog 201 #[.string s,.string bs] w fun e w'=>e=.returned (.int .i64 (whN bs.data.toList s.data.toList:Nat))∧w'=w:=by
 have hl:s.data.toList.length=s.size:=by rw[Lib.size_eq]
 have HL:=hid hl
 have HI:=(show Hid (∀(c:UInt8) (W:World),Calls Tryz.prog 168 #[.string bs,.int .u8 (c.toNat:Int)] W fun e w'=>e=.returned (.int .i64 (Lib.indexByte bs.data.toList c))∧w'=W)from fun c W=>ib_run bs c W)
 clear hl
 go_enter Tryz.func201,Tryz.ntmps201
 go_wp2_with fail
 go_loopg [5] (s.size+1) (fun gg v5 wr=>∃(k:Nat),v5=.int .i64 k∧k+gg=s.size+1∧k≤s.size∧Hid (wr=w∧whN bs.data.toList s.data.toList=k+whN bs.data.toList (s.data.toList.drop k)))
 case atStart=>exact⟨0,rfl,by omega,by omega,hid ⟨rfl,by simp⟩⟩
 case round=>
  obtain⟨k,rfl,hk,hk2,H⟩:=hrel
  by_cases hlt:k<s.size
  ·have hlt':k<s.data.toList.length:=by rw[HL.out];exact hlt
   have HC:=hid (show s.data.toList[k]'hlt'=s[k]from rfl)
   cases hc:bs.data.toList.contains s[k]with
   |true=>
    have b1:decide (0≤Lib.indexByte bs.data.toList s[k])=true:=by rw[index_has];exact hc
    have HN:=hid (whN_step hlt' H.out.2 (by rw[HC.out];exact hc))
    have HW:=hid H.out.1
    clear hc
    go_wp2_with (first|(go_at_call 168;refine(HI.out _ _).mono ?_;rintro e w1 ⟨rfl,rfl⟩))
    go_roundg (gk-1)
    case measure=>omega
    case rel=>exact⟨k+1,by go_num,by omega,by omega,hid ⟨HW.out,HN.out⟩⟩
   |false=>
    have b1:decide (0≤Lib.indexByte bs.data.toList s[k])=false:=by rw[index_has];exact hc
    have HN:=hid (whN_stop hlt' H.out.2 (by rw[HC.out];exact hc))
    have HW:=hid H.out.1
    clear hc
    go_wp2_with (first|(go_at_call 168;refine(HI.out _ _).mono ?_;rintro e w1 ⟨rfl,rfl⟩))
    go_ret
    exact⟨by rw[HN.out];rfl,HW.out⟩
  ·have HN:=hid (whN_end (by rw[HL.out];omega) H.out.2)
   have HW:=hid H.out.1
   go_wp2_with fail
   go_ret
   exact⟨by rw[HN.out];rfl,HW.out⟩
theorem only_run(s bs:ByteArray)(w:World)(hs:s.size<9223372036854775807):
 Calls Tryz.prog 128 #[.string s,.string bs] w fun e w'=>e=.returned (.bool (s.data.toList.all (bs.data.toList.contains ·)))∧w'=w:=by
 have HI:=(show Hid (∀(W:World),Calls Tryz.prog 201 #[.string s,.string bs] W fun e w'=>e=.returned (.int .i64 (whN bs.data.toList s.data.toList:Nat))∧w'=W)from fun W=>while_run s bs W hs)
 have HX:=hid (show(((whN bs.data.toList s.data.toList:Nat):Int)==(s.size:Int))=s.data.toList.all (bs.data.toList.contains ·) by
  have h1:=whN_all bs.data.toList s.data.toList
  have h2:=Lib.size_eq s
  rw[Bool.eq_iff_iff,←h1,beq_iff_eq]
  omega)
 generalize whN bs.data.toList s.data.toList=n at HI HX
 go_enter Tryz.func128,Tryz.ntmps128
 go_wp2_with (first|(go_at_call 201;refine(HI.out _).mono ?_;rintro e w1 ⟨rfl,rfl⟩))
 go_ret
 exact⟨by rw[←HX.out];rfl,rfl⟩
def turnB(f t:List UInt8)(c:UInt8):UInt8:=if 0≤Lib.indexByte f c then t.getD (Lib.indexByte f c).toNat 0 else c
def turnK(f t:List UInt8)(l:List UInt8)(k:Nat):List UInt8:=(l.take k).map (turnB f t)++l.drop k
structure TuI (w wr:World) (l:List UInt8) (cap:Nat):Prop where
 bel:Bel w wr
 hc:∃(rest:List Value),wr.heap[w.heap.size]?=some (.cells ((l.map fun b=>Value.int .u8 (b.toNat:Int))++rest).toArray 5 (l.length+rest.length,l.length+rest.length+1))
theorem TuI.cell{w wr:World}{l:List UInt8}{cap:Nat}(h:TuI w wr l cap){k:Nat}(hk:k<l.length):wr.cell? ⟨w.heap.size,k,none⟩=some (.int .u8 (l[k].toNat:Int)):=by
 obtain⟨rest,hc⟩:=h.hc
 simp[World.cell?,hc]
 rw[List.getElem?_append_left (by rw[List.length_map];exact hk)]
 simp[hk]
theorem TuI.free{w wr:World}{l:List UInt8}{cap:Nat}(h:TuI w wr l cap){k:Nat}(hk:k<l.length):wr.frozen? ⟨w.heap.size,k,none⟩=false:=by
 obtain⟨rest,hc⟩:=h.hc
 simp[World.frozen?,hc]
 omega
theorem TuI.set{w wr:World}{l:List UInt8}{cap:Nat}(h:TuI w wr l cap)(k:Nat)(hk:k<l.length)(x:UInt8):TuI w (wr.setCell ⟨w.heap.size,k,none⟩ (.int .u8 (x.toNat:Int))) (l.set k x) cap:=by
 obtain⟨rest,hc⟩:=h.hc
 refine⟨h.bel.setCell (Nat.le_refl _) _,rest,?_⟩
 have e:(wr.setCell ⟨w.heap.size,k,none⟩ (.int .u8 (x.toNat:Int))).heap[w.heap.size]?=some (.cells ((((l.map fun b=>Value.int .u8 (b.toNat:Int))++rest).toArray).setIfInBounds k (.int .u8 (x.toNat:Int))) 5 (l.length+rest.length,l.length+rest.length+1)):=by
  simp[World.setCell,Array.getElem?_modify,hc]
 rw[e]
 simp[List.map_set,hk]
theorem turnK_zero(f t l:List UInt8):turnK f t l 0=l:=by simp[turnK]
theorem turnK_len(f t l:List UInt8)(k:Nat):(turnK f t l k).length=l.length:=by simp[turnK];omega
theorem turnK_at(f t l:List UInt8)(k:Nat)(hk:k<l.length):(turnK f t l k)[k]'(by rw[turnK_len];exact hk)=l[k]:=by
 unfold turnK
 rw[List.getElem_append_right (by simp;omega)]
 simp[Nat.min_eq_left (Nat.le_of_lt hk)]
theorem turnK_next(f t l:List UInt8)(k:Nat)(hk:k<l.length):turnK f t l (k+1)=(turnK f t l k).set k (turnB f t l[k]):=by
 unfold turnK
 refine List.ext_getElem (by simp;omega) fun i h1 h2=> ?_
 rw[List.getElem_set]
 by_cases e:k=i
 ·subst e
  rw[if_pos rfl,List.getElem_append_left (by simp;omega)]
  simp
 ·rw[if_neg e]
  rw[List.getElem_append,List.getElem_append]
  simp only[List.length_map,List.length_take]
  split<;>split<;>first|omega|(simp;done)|(simp;congr 1;omega)
theorem turnK_all(f t l:List UInt8):turnK f t l l.length=l.map (turnB f t):=by simp[turnK]
theorem index_lt(c:UInt8):∀l:List UInt8,0≤Lib.indexByte l c→(Lib.indexByte l c).toNat<l.length
 |[],h=>by simp[Lib.indexByte]at h
 |b::l,h=>by
  have ih:=index_lt c l
  have hg:=Lib.indexByte_ge l c
  have e:Lib.indexByte (b::l) c=if b==c then 0 else if Lib.indexByte l c== -1 then -1 else Lib.indexByte l c+1:=rfl
  rw[e]at h⊢
  by_cases h1:b=c
  ·rw[if_pos (by simpa using h1)];simp
  ·rw[if_neg (by simpa using h1)]at h⊢
   by_cases h2:Lib.indexByte l c= -1
   ·rw[if_pos (by simpa using h2)]at h;simp at h
   ·rw[if_neg (by simpa using h2)]at h⊢
    have:=ih (by omega)
    rw[List.length_cons];omega
theorem turned_run(s f t:ByteArray)(ht:f.size=t.size)(w:World)(hs:s.size<9223372036854775807):
 Calls Tryz.prog 120 #[.string s,.string f,.string t] w fun e w'=>e=.returned (.string ⟨(s.data.toList.map (turnB f.data.toList t.data.toList)).toArray⟩)∧Bel w w':=by
 have hcv:=Lib.run_convert_string_bytes (P:=Tryz.prog) w 9 48 5 s (u:=.string) Tryz.underlying9 Tryz.underlying48 Tryz.underlying5
 have hLn:s.data.toList.length=s.size:=by rw[Lib.size_eq]
 have H0:=hid (show TuI w (Lib.bytesWorld w 5 s) (turnK f.data.toList t.data.toList s.data.toList 0) 0 from by
  refine⟨Ci.bel_bytes w s,List.replicate (grownCap w s.size 0 5-s.size) (.int .u8 0),?_⟩
  rw[Lib.bytesWorld_at_new,turnK_zero]
  have e:Lib.bytesCells w 5 s=((s.data.toList.map fun(b:UInt8)=>Value.int .u8 (b.toNat:Int))++List.replicate (grownCap w s.size 0 5-s.size) (Value.int .u8 0)).toArray:=by
   unfold Lib.bytesCells
   simp
  rw[e]
  simp)
 have HI:=(show Hid (∀(c:UInt8) (W:World),Calls Tryz.prog 168 #[.string f,.int .u8 (c.toNat:Int)] W fun e w'=>e=.returned (.int .i64 (Lib.indexByte f.data.toList c))∧w'=W)from fun c W=>ib_run f c W)
 generalize grownCap w s.size 0 5=cap at hcv H0
 obtain⟨W1,hW1⟩:∃W1,W1=Lib.bytesWorld w 5 s:=⟨_,rfl⟩
 rw[←hW1]at hcv H0
 have HLn:=hid hLn
 have HT:=hid ht
 clear hW1 hLn ht
 go_enter Tryz.func120,Tryz.ntmps120
 go_wp2_with fail
 go_loopg [8,9,10,15] s.size (fun gg v8 v9 v10 v15 wr=>∃k:Nat,v15=.int .i64 k∧k+gg=s.size∧Hid (TuI w wr (turnK f.data.toList t.data.toList s.data.toList k) 0))
 case atStart=>exact⟨0,rfl,by omega,H0⟩
 case round=>
  clear H0
  obtain⟨k,rfl,hk,H⟩:=hrel
  have hkn:k≤s.size:=by omega
  by_cases hlt:k<s.size
  ·have hlt':k<s.data.toList.length:=by rw[HLn.out];exact hlt
   have hkl:k<(turnK f.data.toList t.data.toList s.data.toList k).length:=by rw[turnK_len];exact hlt'
   have c0:=H.out.cell hkl
   rw[turnK_at _ _ _ _ hlt']at c0
   have f0:=H.out.free hkl
   have HN:=hid (turnK_next f.data.toList t.data.toList s.data.toList k hlt')
   have HS:=(show Hid (∀x,TuI w (wr.setCell ⟨w.heap.size,k,none⟩ (.int .u8 ((x:UInt8).toNat:Int))) ((turnK f.data.toList t.data.toList s.data.toList k).set k x) 0)from fun x=>H.out.set k hkl x)
   have HA:=hid (show(turnK f.data.toList t.data.toList s.data.toList k).set k s.data.toList[k]=turnK f.data.toList t.data.toList s.data.toList k from by
    have e:=turnK_at f.data.toList t.data.toList s.data.toList k hlt'
    rw[←e]
    exact List.set_getElem_self hkl)
   clear hkl
   generalize s.data.toList[k]=x at c0 HN HA
   have HJ:=hid (show∀(_:0≤Lib.indexByte f.data.toList x),(Lib.indexByte f.data.toList x).toNat<t.size from fun h=>by
    have:=index_lt x f.data.toList h
    have h2:=Lib.size_eq f
    have:=HT.out
    omega)
   have HB:=hid (show turnB f.data.toList t.data.toList x=if 0≤Lib.indexByte f.data.toList x then t.data.toList.getD (Lib.indexByte f.data.toList x).toNat 0 else x from rfl)
   by_cases hx:0≤Lib.indexByte f.data.toList x
   ·have hj:=HJ.out hx
    obtain⟨i,hi⟩:∃i:Nat,Lib.indexByte f.data.toList x=(i:Int):=⟨_,(Int.toNat_of_nonneg hx).symm⟩
    have HIx:=(show Hid (∀(W:World),Calls Tryz.prog 168 #[.string f,.int .u8 (x.toNat:Int)] W fun e w'=>e=.returned (.int .i64 (i:Int))∧w'=W)from fun W=>by rw[←hi];exact HI.out x W)
    have hi':i<t.size:=by rw[hi]at hj;exact hj
    have HE:=hid (show turnB f.data.toList t.data.toList x=t[i]from by
     rw[HB.out,if_pos hx,hi]
     have h2:=Lib.size_eq t
     rw[Int.toNat_natCast,List.getD_eq_getElem?_getD,List.getElem?_eq_getElem (by omega)]
     rfl)
    clear hx hj hi HJ HB
    go_wp2_with (first|(go_at_call 168;refine(HIx.out _).mono ?_;rintro e w1 ⟨rfl,rfl⟩))
    go_roundg (gk-1)
    case measure=>omega
    case rel=>exact⟨k+1,by go_num,by omega,hid (by rw[HN.out,HE.out];exact HS.out _)⟩
   ·have b1:decide (0≤Lib.indexByte f.data.toList x)=false:=decide_eq_false hx
    have HIx:=(show Hid (∀(W:World),Calls Tryz.prog 168 #[.string f,.int .u8 (x.toNat:Int)] W fun e w'=>e=.returned (.int .i64 (Lib.indexByte f.data.toList x))∧w'=W)from fun W=>HI.out x W)
    have HE:=hid (show(turnK f.data.toList t.data.toList s.data.toList k).set k (turnB f.data.toList t.data.toList x)=turnK f.data.toList t.data.toList s.data.toList k from by rw[HB.out,if_neg hx];exact HA.out)
    clear hx HJ HB
    go_wp2_with (first|(go_at_call 168;refine(HIx.out _).mono ?_;rintro e w1 ⟨rfl,rfl⟩))
    go_roundg (gk-1)
    case measure=>omega
    case rel=>exact⟨k+1,by go_num,by omega,hid (by rw[HN.out,HE.out];exact H.out)⟩
  ·obtain rfl:k=s.size:=by omega
   have HF:=hid (show turnK f.data.toList t.data.toList s.data.toList s.size=s.data.toList.map (turnB f.data.toList t.data.toList) by rw[←HLn.out];exact turnK_all _ _ _)
   have hcb:(convert 48 9 (.slice (some ⟨w.heap.size,0,none⟩) s.size cap)).run Tryz.prog wr=.ok (.string ⟨(s.data.toList.map (turnB f.data.toList t.data.toList)).toArray⟩) wr:=by
    have hl:(s.data.toList.map (turnB f.data.toList t.data.toList)).length=s.size:=by rw[List.length_map,HLn.out]
    rw[←hl]
    refine run_convert_bytes_back wr 48 9 5 ⟨w.heap.size,0,none⟩ cap _ Tryz.underlying48 Tryz.underlying5 Tryz.underlying9 fun j hj=> ?_
    have H2:=H.out
    rw[HF.out]at H2
    rw[Ci.addr_add,Nat.zero_add]
    exact H2.cell hj
   go_wp2_with fail
   go_ret
   exact⟨rfl,H.out.bel⟩
end Go.Proofs.YtmlmkmhkmifnkaaGreatDoor.Ma
namespace Go.Proofs.YtmlmkmhkmifnkaaGreatDoor.Ma
open Go.RowKit
open Ci (Bel Lay pieces pieces_data splitL dot)
def upsL:List UInt8:=[65,66,67,68,69,70,71,72,73,74,75,76,77,78,79,80,81,82,83,84,85,86,87,88,89,90]
def losL:List UInt8:=[97,98,99,100,101,102,103,104,105,106,107,108,109,110,111,112,113,114,115,116,117,118,119,120,121,122]
theorem turn_low:∀b:UInt8,turnB upsL losL b=lowB b:=u8_forall (by decide)
theorem low_map(l:List UInt8):l.map (turnB upsL losL)=lowL l:=by
 unfold lowL
 exact List.map_congr_left fun b _=>turn_low b
theorem lower_run(s:ByteArray)(w:World)(hs:s.size<9223372036854775807):Calls Tryz.prog 63 #[.string s] w fun e w'=>e=.returned (.string ⟨(lowL s.data.toList).toArray⟩)∧Bel w w':=by
 have HI:=(show Hid (∀W,Calls Tryz.prog 120 #[.string s,.string ⟨upsL.toArray⟩,.string ⟨losL.toArray⟩] W fun e w'=>e=.returned (.string ⟨(lowL s.data.toList).toArray⟩)∧Bel W w')from fun W=>by
  rw[←low_map]
  exact turned_run s ⟨upsL.toArray⟩ ⟨losL.toArray⟩ rfl W hs)
 go_enter Tryz.func63,Tryz.ntmps63
 go_wp2_with (first|(go_at_call 120;refine(HI.out _).mono ?_;rintro e w1 ⟨rfl,hb1⟩))
 go_ret
 exact⟨rfl,hb1⟩
def ldhL:List UInt8:=[97,98,99,100,101,102,103,104,105,106,107,108,109,110,111,112,113,114,115,116,117,118,119,120,121,122,65,66,67,68,69,70,71,72,73,74,75,76,77,78,79,80,81,82,83,84,85,86,87,88,89,90,48,49,50,51,52,53,54,55,56,57,45]
theorem ldh_has:∀b:UInt8,ldhL.contains b=ldhB b:=u8_forall (by decide)
theorem pat_has:∀b:UInt8,atomsL.contains b=patB b:=u8_forall (by decide)
theorem all_ldh(l:List UInt8):l.all (ldhL.contains ·)=l.all ldhB:=by
 congr 1;funext b;exact ldh_has b
theorem all_pat(l:List UInt8):l.all (atomsL.contains ·)=l.all patB:=by
 congr 1;funext b;exact pat_has b
theorem all_take{α:Type}(p:α→Bool)(l:List α)(k:Nat)(hk:k<l.length)(h:(l.take k).all p=true):(l.take (k+1)).all p=p l[k]:=by
 rw[List.take_succ_eq_append_getElem hk,List.all_append,h]
 simp
theorem all_false{α:Type}(p:α→Bool)(l:List α)(k:Nat)(hk:k<l.length)(h:p l[k]=false):l.all p=false:=by
 rw[List.all_eq_false]
 exact⟨l[k],List.getElem_mem hk,by rw[h];simp⟩
def lblB(x:ByteArray):Bool:=lblQ x.data.toList
theorem named_pieces(s:ByteArray):namedQ s.data.toList=(pieces s dot).all lblB:=by
 unfold namedQ
 rw[←pieces_data s 46,List.all_map]
 rfl
def patP(x:ByteArray):Bool:= !x.data.toList.isEmpty&&x.data.toList.all patB
theorem dotted_pieces(s:ByteArray):dottedQ s.data.toList=(pieces s dot).all patP:=by
 unfold dottedQ
 rw[←pieces_data s 46,List.all_map]
 rfl
theorem pieces_num(s:ByteArray)(hs:s.size<4294967281):(pieces s dot).length≤4294967281:=by
 have h1:=congrArg List.length (pieces_data s 46)
 rw[List.length_map,Ci.splitL_len]at h1
 have h2:=List.count_le_length (a:=(46:UInt8)) (l:=s.data.toList)
 rw[←Lib.size_eq]at h2
 show(pieces s ⟨#[46]⟩).length≤_
 omega
structure Pcs (w wr:World) (P:List ByteArray):Prop where
 bel:Bel w wr
 hc:wr.heap[w.heap.size]?=some (.cells (P.map Value.string).toArray 9 (0,0))
theorem Pcs.cell{w wr:World}{P:List ByteArray}(h:Pcs w wr P){k:Nat}(hk:k<P.length):wr.cell? ⟨w.heap.size,k,none⟩=some (.string P[k]):=by
 simp[World.cell?,h.hc,hk]
theorem emp_iff(x:ByteArray):x.toList.isEmpty=x.data.toList.isEmpty:=by
 rw[ByteArray.toList_eq]
theorem lbl_emp{x:ByteArray}(h:x.toList.isEmpty=true):lblB x=false:=by
 rw[emp_iff]at h
 unfold lblB lblQ
 rw[h];rfl
theorem lbl_parts{x:ByteArray}(h:x.toList.isEmpty=false)(h0:0<x.size)(m:Nat)(hm:m<x.size)(hm2:m+1=x.size):lblB x=(decide (x.size≤63)&&x.data.toList.all ldhB&&(x[0] !=45)&&(x[m] !=45)):=by
 have hs:=Lib.size_eq x
 rw[emp_iff]at h
 have e1:x.data.toList.head?=some x[0]:=by
  rw[List.head?_eq_getElem?,List.getElem?_eq_getElem (by omega)]
  rfl
 have e2:x.data.toList.getLast?=some x[m]:=by
  rw[List.getLast?_eq_getElem?,show x.data.toList.length-1=m by omega,List.getElem?_eq_getElem (by omega)]
  rfl
 unfold lblB lblQ
 rw[h,e1,e2,←hs]
 rfl
theorem named_run(s:ByteArray)(w:World)(hw:Lay w)(hs:s.size<4294967281):
 Calls Tryz.prog 66 #[.string s] w fun e w'=>e=.returned (.bool (namedQ s.data.toList))∧Bel w w':=by
 have HS:=(show Hid (Calls Tryz.prog 127 #[.string s,.string ⟨#[46]⟩] w fun e w'=>e=.returned (.slice (some ⟨w.heap.size,0,none⟩) (pieces s dot).length (pieces s dot).length)∧Pcs w w' (pieces s dot))from(Ci.split_run s dot w hw hs (by decide)).mono fun e w' ⟨h1,h2,h3⟩=>⟨h1,h3,h2⟩)
 have hn:=pieces_num s hs
 have HR:=hid (named_pieces s)
 have HO:=(show Hid (∀x,x.size≤63→∀W,Calls Tryz.prog 128 #[.string x,.string ⟨ldhL.toArray⟩] W fun e w'=>e=.returned (.bool (x.data.toList.all ldhB))∧w'=W)from fun x hx W=>by
  rw[←all_ldh]
  exact only_run x ⟨ldhL.toArray⟩ W (by omega))
 generalize pieces s dot=P at HS hn HR
 generalize namedQ s.data.toList=r at HR
 clear hw
 go_enter Tryz.func66,Tryz.ntmps66
 go_wp2_with (first|(go_at_call 127;refine HS.out.mono ?_;rintro e w1 ⟨rfl,hp⟩;have H0:=hid hp;clear hp))
 go_loopg [4,8] P.length (fun gg v4 v8 wr=>∃k:Nat,v8=.int .i64 k∧k+gg=P.length∧Hid (Pcs w wr P∧(P.take k).all lblB=true))
 case atStart=>exact⟨0,rfl,by omega,hid ⟨H0.out,by simp⟩⟩
 case round=>
  clear H0 HS
  obtain⟨k,rfl,hk,H⟩:=hrel
  have hkn:k≤P.length:=by omega
  by_cases hlt:k<P.length
  ·have c0:=H.out.1.cell hlt
   have HA:=hid (fun(h:lblB P[k]=false)=>all_false lblB P k hlt h)
   have HN:=hid (all_take lblB P k hlt H.out.2)
   have HB:=hid H.out.1.bel
   generalize P[k]=x at c0 HA HN
   have HK:=hid hk
   cases hemp:x.toList.isEmpty with
   |true=>
    have HX:=hid (show r=false from HR.out.trans (HA.out (lbl_emp hemp)))
    clear hk
    go_wp2_with fail
    go_ret
    exact⟨by rw[HX.out];rfl,HB.out⟩
   |false=>
    have h0:0<x.size:=by
     rw[emp_iff]at hemp
     rw[Lib.size_eq]
     rcases hx:x.data.toList with _|⟨b,l⟩
     ·rw[hx]at hemp;simp at hemp
     ·simp
    obtain⟨m,hm⟩:∃m,m+1=x.size:=⟨x.size-1,by omega⟩
    have hlb:m<x.size:=by omega
    have HP:=hid (lbl_parts hemp h0 m hlb hm)
    by_cases h63:63<x.size
    ·have b1:decide ((63:Int)<(x.size:Int))=true:=decide_eq_true (by omega)
     have HX:=hid (show r=false from HR.out.trans (HA.out (by rw[HP.out,decide_eq_false (by omega:¬x.size≤63)];rfl)))
     clear hk h63
     go_wp2_with fail
     go_ret
     exact⟨by rw[HX.out];rfl,HB.out⟩
    ·have b1:decide ((63:Int)<(x.size:Int))=false:=decide_eq_false (by omega)
     have HO1:=(show Hid (∀W,Calls Tryz.prog 128 #[.string x,.string ⟨ldhL.toArray⟩] W fun e w'=>e=.returned (.bool (x.data.toList.all ldhB))∧w'=W)from fun W=>HO.out x (by omega) W)
     have HD:=hid (show decide (x.size≤63)=true from decide_eq_true (by omega))
     cases ha:x.data.toList.all ldhB with
     |false=>
      have HX:=hid (show r=false from HR.out.trans (HA.out (by rw[HP.out,ha,HD.out];rfl)))
      rw[ha]at HO1
      clear hk h63 ha
      go_wp2_with (first|(go_at_call 128;refine(HO1.out _).mono ?_;rintro e w1 ⟨rfl,rfl⟩))
      go_ret
      exact⟨by rw[HX.out];rfl,HB.out⟩
     |true=>
      have hla:wrap64 ((x.size:Int)-1)=(m:Int):=by rw[show(x.size:Int)-1=(m:Int) by omega];unfold wrap64;omega
      clear hm
      by_cases h1:x[0]=45
      ·have c1:(((x[0]'h0).toNat:Int)==45)=true:=byte_eq (n:=45) (by decide) h1
       have HX:=hid (show r=false from HR.out.trans (HA.out (by rw[HP.out,ha,HD.out,h1];rfl)))
       rw[ha]at HO1
       clear hk h63 ha h1
       go_wp2_with (first|(go_at_call 128;refine(HO1.out _).mono ?_;rintro e w1 ⟨rfl,rfl⟩))
       go_ret
       exact⟨by rw[HX.out];rfl,HB.out⟩
      ·have c1:(((x[0]'h0).toNat:Int)==45)=false:=byte_ne (n:=45) (by decide) h1
       have HE1:=hid (show(x[0] !=45)=true by simpa using h1)
       by_cases h2:x[m]=45
       ·have c2:(((x[m]'hlb).toNat:Int)==45)=true:=byte_eq (n:=45) (by decide) h2
        have HX:=hid (show r=false from HR.out.trans (HA.out (by rw[HP.out,ha,HD.out,h2,HE1.out];rfl)))
        rw[ha]at HO1
        clear hk h63 ha h1 h2
        go_wp2_with (first|(go_at_call 128;refine(HO1.out _).mono ?_;rintro e w1 ⟨rfl,rfl⟩))
        go_ret
        exact⟨by rw[HX.out];rfl,HB.out⟩
       ·have c2:(((x[m]'hlb).toNat:Int)==45)=false:=byte_ne (n:=45) (by decide) h2
        have HE2:=hid (show(x[m] !=45)=true by simpa using h2)
        have HT:=hid (show(P.take (k+1)).all lblB=true by rw[HN.out,HP.out,ha,HD.out,HE1.out,HE2.out];rfl)
        have HPc:=hid H.out.1
        rw[ha]at HO1
        clear hk h63 ha h1 h2 H HN HA HP HE1 HE2 HD
        go_wp2_with (first|(go_at_call 128;refine(HO1.out _).mono ?_;rintro e w1 ⟨rfl,rfl⟩))
        go_roundg (gk-1)
        case measure=>have:=HK.out;omega
        case rel=>exact⟨k+1,by go_num,by have:=HK.out;omega,hid ⟨HPc.out,HT.out⟩⟩
  ·obtain rfl:k=P.length:=by omega
   have HX:=hid (show r=true from HR.out.trans (by have:=H.out.2;rwa[List.take_length]at this))
   have HB:=hid H.out.1.bel
   go_wp2_with fail
   go_ret
   exact⟨by rw[HX.out];rfl,HB.out⟩
theorem dotted_run(s:ByteArray)(w:World)(hw:Lay w)(hs:s.size<4294967281):
 Calls Tryz.prog 157 #[.string s] w fun e w'=>e=.returned (.bool (dottedQ s.data.toList))∧Bel w w':=by
 have HS:=(show Hid (Calls Tryz.prog 127 #[.string s,.string ⟨#[46]⟩] w fun e w'=>e=.returned (.slice (some ⟨w.heap.size,0,none⟩) (pieces s dot).length (pieces s dot).length)∧Pcs w w' (pieces s dot))from(Ci.split_run s dot w hw hs (by decide)).mono fun e w' ⟨h1,h2,h3⟩=>⟨h1,h3,h2⟩)
 have hn:=pieces_num s hs
 have HR:=hid (dotted_pieces s)
 have HO:=(show Hid (∀x∈pieces s dot,∀W,Calls Tryz.prog 128 #[.string x,.string ⟨atomsL.toArray⟩] W fun e w'=>e=.returned (.bool (x.data.toList.all patB))∧w'=W)from fun x hx W=>by
  rw[←all_pat]
  exact only_run x ⟨atomsL.toArray⟩ W (by have:=Ci.pieces_size s dot hs x hx;omega))
 generalize pieces s dot=P at HS hn HR HO
 generalize dottedQ s.data.toList=r at HR
 clear hw
 go_enter Tryz.func157,Tryz.ntmps157
 go_wp2_with (first|(go_at_call 127;refine HS.out.mono ?_;rintro e w1 ⟨rfl,hp⟩;have H0:=hid hp;clear hp))
 go_loopg [4,8] P.length (fun gg v4 v8 wr=>∃k:Nat,v8=.int .i64 k∧k+gg=P.length∧Hid (Pcs w wr P∧(P.take k).all patP=true))
 case atStart=>exact⟨0,rfl,by omega,hid ⟨H0.out,by simp⟩⟩
 case round=>
  clear H0 HS
  obtain⟨k,rfl,hk,H⟩:=hrel
  have hkn:k≤P.length:=by omega
  by_cases hlt:k<P.length
  ·have c0:=H.out.1.cell hlt
   have HA:=hid (fun(h:patP P[k]=false)=>all_false patP P k hlt h)
   have HN:=hid (all_take patP P k hlt H.out.2)
   have HB:=hid H.out.1.bel
   have hmem:=List.getElem_mem hlt
   generalize P[k]=x at c0 HA HN hmem
   have HK:=hid hk
   have HP:=hid (show patP x=(!x.toList.isEmpty&&x.data.toList.all patB) by rw[emp_iff];rfl)
   have HO1:=(show Hid (∀W,Calls Tryz.prog 128 #[.string x,.string ⟨atomsL.toArray⟩] W fun e w'=>e=.returned (.bool (x.data.toList.all patB))∧w'=W)from fun W=>HO.out x hmem W)
   clear hmem
   cases hemp:x.toList.isEmpty with
   |true=>
    have HX:=hid (show r=false from HR.out.trans (HA.out (by rw[HP.out,hemp];rfl)))
    clear hk
    go_wp2_with fail
    go_ret
    exact⟨by rw[HX.out];rfl,HB.out⟩
   |false=>
    cases ha:x.data.toList.all patB with
    |false=>
     have HX:=hid (show r=false from HR.out.trans (HA.out (by rw[HP.out,hemp,ha];rfl)))
     rw[ha]at HO1
     clear hk ha
     go_wp2_with (first|(go_at_call 128;refine(HO1.out _).mono ?_;rintro e w1 ⟨rfl,rfl⟩))
     go_ret
     exact⟨by rw[HX.out];rfl,HB.out⟩
    |true=>
     have HT:=hid (show(P.take (k+1)).all patP=true by rw[HN.out,HP.out,hemp,ha];rfl)
     have HPc:=hid H.out.1
     rw[ha]at HO1
     clear hk ha H HN HA HP
     go_wp2_with (first|(go_at_call 128;refine(HO1.out _).mono ?_;rintro e w1 ⟨rfl,rfl⟩))
     go_roundg (gk-1)
     case measure=>have:=HK.out;omega
     case rel=>exact⟨k+1,by go_num,by have:=HK.out;omega,hid ⟨HPc.out,HT.out⟩⟩
  ·obtain rfl:k=P.length:=by omega
   have HX:=hid (show r=true from HR.out.trans (by have:=H.out.2;rwa[List.take_length]at this))
   have HB:=hid H.out.1.bel
   go_wp2_with fail
   go_ret
   exact⟨by rw[HX.out];rfl,HB.out⟩
end Go.Proofs.YtmlmkmhkmifnkaaGreatDoor.Ma
namespace Go.Proofs.YtmlmkmhkmifnkaaGreatDoor.Ci
open Go.RowKit
def nA:Nt:=⟨false,8,[10,0,0,0,0,0,0,0,0,0,0,0,0,0,0,0]⟩
set_option maxRecDepth 100000
theorem net_len(n:Nt)(h:n.addr.length=16):(Tryz.prog.info? 86).map (·.size)=some (netC n).length:=by rw[netC_len _ h];exact net_info
theorem range_net{w:World}{b:Nat}{n:Nt}(h:w.heap[b]?=some (.cells (netC n).toArray 86 (0,0))):w.rangeAt b 0 (netC n):=range_of h fun j v hv=>by simpa using hv
end Go.Proofs.YtmlmkmhkmifnkaaGreatDoor.Ci