import Derived.Test.YtmlmkmhkmifnkaaGreatDoorK13
set_option maxHeartbeats 16000000
set_option maxRecDepth 1000000
namespace Go.Proofs.YtmlmkmhkmifnkaaGreatDoor.Hs
inductive Z where|ok|cr|need|no
deriving DecidableEq
def blk(c:UInt8):Bool:=c==32||c==9
def zs(z:Z)(c:UInt8):Z:=match z with
 |.ok=>if c=13 then .cr else .ok
 |.cr=>if c=13 then .cr else if c=10 then .need else .ok
 |.need=>if blk c then .ok else .no
 |.no=>.no
def zr(z:Z)(l:List UInt8):Z:=l.foldl zs z
theorem zr_app(z:Z)(a b:List UInt8):zr z (a++b)=zr (zr z a) b:=List.foldl_append ..
theorem zr_no(l:List UInt8):zr .no l=.no:=by
 induction l with
 |nil=>rfl
 |cons c t ih=>exact ih
def Cl(l:List UInt8):Prop:=zr .ok l=.ok∨zr .ok l=.cr
def lineN:List UInt8→Nat
 |[]=>0
 |c::t=>if c=13∧t.head?=some 10 then 0 else lineN t+1
def nextN(l:List UInt8):Nat:=if lineN l<l.length then lineN l+2 else lineN l
theorem lineN_le:∀l:List UInt8,lineN l≤l.length
 |[]=>Nat.le_refl _
 |c::t=>by unfold lineN;split;exact Nat.zero_le _;exact Nat.succ_le_succ (lineN_le t)
theorem line_split:∀l:List UInt8,lineN l<l.length→∃r,l=l.take (lineN l)++13::10::r
 |[],h=>by simp[lineN]at h
 |c::t,h=>by
  unfold lineN at h⊢
  split
  ·rename_i hc
   obtain⟨rfl,ht⟩:=hc
   cases t with
   |nil=>simp at ht
   |cons b r=>simp at ht;subst ht;exact⟨r,rfl⟩
  ·rename_i hc
   rw[if_neg hc]at h
   obtain⟨r,hr⟩:=line_split t (by simpa using h)
   exact⟨r,by rw[List.take_succ_cons,List.cons_append,←hr]⟩
theorem next_le(l:List UInt8):nextN l≤l.length:=by
 unfold nextN
 split
 ·rename_i h
  obtain⟨r,hr⟩:=line_split l h
  have:=congrArg List.length hr
  simp only[List.length_append,List.length_take,List.length_cons]at this
  omega
 ·exact lineN_le l
def Nl(l:List UInt8):Prop:=lineN l=l.length
theorem lineN_cons(c:UInt8)(t:List UInt8):lineN (c::t)=if c=13∧t.head?=some 10 then 0 else lineN t+1:=rfl
theorem nl_take:∀l:List UInt8,Nl (l.take (lineN l))
 |[]=>rfl
 |c::t=>by
  by_cases hc:c=13∧t.head?=some 10
  ·rw[lineN_cons,if_pos hc];rfl
  ·rw[lineN_cons,if_neg hc,List.take_succ_cons]
   have ih:=nl_take t
   unfold Nl at ih⊢
   have:¬(c=13∧(t.take (lineN t)).head?=some 10):=by
    intro hh
    apply hc
    refine⟨hh.1,?_⟩
    cases t with
    |nil=>simp at hh
    |cons b r=>
     have:=hh.2
     cases hn:lineN (b::r)with
     |zero=>rw[hn]at this;simp at this
     |succ k=>rw[hn]at this;simpa using this
   rw[lineN_cons,if_neg this,ih];rfl
theorem line_app:∀(a r:List UInt8),Nl a→lineN (a++13::10::r)=a.length
 |[],r,_=>by simp[lineN]
 |c::t,r,h=>by
  unfold Nl lineN at h
  have hc:¬(c=13∧t.head?=some 10):=fun hh=>by rw[if_pos hh]at h;simp at h
  rw[if_neg hc]at h
  have ih:=line_app t r (by unfold Nl;simpa using h)
  have:¬(c=13∧(t++13::10::r).head?=some 10):=fun hh=>by
   cases t with
   |nil=>simp at hh
   |cons b q=>exact hc ⟨hh.1,by simpa using hh.2⟩
  show(if c=13∧(t++13::10::r).head?=some 10 then 0 else lineN (t++13::10::r)+1)=_
  rw[if_neg this,ih];rfl
theorem zr_nl:∀(l:List UInt8),Nl l→(zr .ok l=.ok∨zr .ok l=.cr)∧(l.head?≠some 10→zr .cr l=.ok∨zr .cr l=.cr)
 |[],_=>⟨.inl rfl,fun _=>.inr rfl⟩
 |c::t,h=>by
  unfold Nl lineN at h
  have hc:¬(c=13∧t.head?=some 10):=fun hh=>by rw[if_pos hh]at h;simp at h
  rw[if_neg hc]at h
  have ih:=zr_nl t (by unfold Nl;simpa using h)
  have e1:∀z,zr z (c::t)=zr (zs z c) t:=fun _=>rfl
  rw[e1,e1]
  by_cases h13:c=13
  ·subst h13
   have ht:t.head?≠some 10:=fun hh=>hc ⟨rfl,hh⟩
   exact⟨ih.2 ht,fun _=>ih.2 ht⟩
  ·have:zs .ok c=.ok:=by simp[zs,h13]
   rw[this]
   refine⟨ih.1,fun h10=> ?_⟩
   have:zs .cr c=.ok:=by
    have:c≠10:=fun e=>h10 (by rw[e];rfl)
    simp[zs,h13,this]
   rw[this];exact ih.1
theorem cl_split(l:List UInt8)(h:Cl l):Nl l∨∃r,l=l.take (lineN l)++13::10::r∧∃b t,r=b::t∧blk b=true∧Cl t:=by
 by_cases hl:lineN l<l.length
 ·right
  obtain⟨r,hr⟩:=line_split l hl
  refine⟨r,hr,?_⟩
  have hn:=nl_take l
  generalize l.take (lineN l)=a at hr hn
  unfold Cl at h
  rw[hr,zr_app]at h
  have e:∀z,(z=Z.ok∨z=Z.cr)→zr z (13::10::r)=zr .need r:=fun z hz=>by rcases hz with rfl|rfl<;>rfl
  rw[e _ (zr_nl a hn).1]at h
  cases r with
  |nil=>rcases h with h|h<;>cases h
  |cons b t=>
   refine⟨b,t,rfl,?_⟩
   have e2:zr .need (b::t)=zr (zs .need b) t:=rfl
   rw[e2]at h
   by_cases hb:blk b=true
   ·have:zs .need b=.ok:=by simp[zs,hb]
    rw[this]at h
    exact⟨hb,h⟩
   ·have:zs .need b=.no:=by simp[zs,hb]
    rw[this,zr_no]at h
    rcases h with h|h<;>cases h
 ·left;unfold Nl;have:=lineN_le l;omega
def nameB(c:UInt8):Bool:=decide (33≤c.toNat)&&decide (c.toNat≤126)&&c !=58
def colN(l:List UInt8):Nat:=(l.takeWhile (· !=58)).length
def nameN(l:List UInt8):Option Nat:=if colN l<l.length∧0<colN l∧(l.take (colN l)).all nameB=true then some (colN l)else none
structure Fd where
 nm:List UInt8
 bd:List UInt8
 fr:Nat
 tt:Nat
deriving DecidableEq
def extl(d:List UInt8)(out:List Fd)(e tt:Nat):List Fd:=match out.getLast? with
 |none=>out
 |some f=>out.dropLast++[⟨f.nm,(d.take e).drop (f.fr+f.nm.length+1),f.fr,tt⟩]
def spl(d:List UInt8):Nat→Nat→List Fd→List Fd×Nat
 |0,at_,out=>(out,at_)
 |f+1,at_,out=>
  if d.length≤at_ then(out,at_)
  else if out≠[]∧0<lineN (d.drop at_)∧blk ((d.drop at_).headD 0)=true then
   spl d f (at_+nextN (d.drop at_)) (extl d out (at_+lineN (d.drop at_)) (at_+nextN (d.drop at_)))
  else match nameN ((d.drop at_).take (lineN (d.drop at_)))with
   |some c=>spl d f (at_+nextN (d.drop at_)) (out++[⟨(d.drop at_).take c,((d.drop at_).take (lineN (d.drop at_))).drop (c+1),at_,at_+nextN (d.drop at_)⟩])
   |none=>(out,if lineN (d.drop at_)=0 then at_+nextN (d.drop at_)else at_)
structure Sg where
 nm:List UInt8
 bd:List UInt8
 cr:Bool
def tl(b:Bool):List UInt8:=if b then[13,10]else[]
def Sg.b(s:Sg):List UInt8:=s.nm++58::(s.bd++tl s.cr)
structure Sg.Ok (s:Sg):Prop where
 ne:s.nm≠[]
 nm:s.nm.all nameB=true
 cl:Cl s.bd
def fl(l:List Sg):List UInt8:=l.flatMap Sg.b
def fds:Nat→List Sg→List Fd
 |_,[]=>[]
 |o,s::l=>⟨s.nm,s.bd,o,o+s.b.length⟩::fds (o+s.b.length) l
theorem fl_app(a b:List Sg):fl (a++b)=fl a++fl b:=by simp[fl]
theorem fds_app:∀(a:List Sg) (o:Nat) (b:List Sg),fds o (a++b)=fds o a++fds (o+(fl a).length) b
 |[],o,b=>by simp[fds,fl]
 |s::a,o,b=>by
  show _::fds _ (a++b)=_
  rw[fds_app a]
  show _=_::fds _ a++_
  simp[fl,Nat.add_assoc]
theorem fds_len:∀(a:List Sg) (o:Nat),(fds o a).length=a.length
 |[],_=>rfl
 |_::a,_=>congrArg (· +1) (fds_len a _)
def Ends(S:List Sg)(rest:List UInt8):Prop:=∀A s B,S=A++s::B→s.cr=true∨(B=[]∧rest=[])
def Stop(S:List Sg)(r:List UInt8):Prop:=r=[]∨(nameN (r.take (lineN r))=none∧¬(S≠[]∧0<lineN r∧blk (r.headD 0)=true))
def stopAt(r:List UInt8):Nat:=if r=[]then 0 else if lineN r=0 then nextN r else 0
structure Dec (d:List UInt8) (S:List Sg) (r:List UInt8):Prop where
 eq:d=fl S++r
 ok:∀s∈S,s.Ok
 ends:Ends S r
 stop:Stop S r
theorem nl_tail{b:UInt8}{t:List UInt8}(h:Nl (b::t)):Nl t:=by
 unfold Nl at h⊢
 rw[lineN_cons]at h
 split at h
 ·simp at h
 ·simpa using h
theorem nl_cl{l:List UInt8}(h:Nl l):Cl l:=(zr_nl l h).1
theorem cl_more{a l:List UInt8}(ha:Cl a)(hl:Nl l)(h0:l≠[])(hb:blk (l.headD 0)=true):Cl (a++13::10::l):=by
 cases l with
 |nil=>exact absurd rfl h0
 |cons b t=>
  unfold Cl
  rw[zr_app]
  have e:zr (zr .ok a) (13::10::b::t)=zr .ok t:=by
   have e1:∀z,(z=Z.ok∨z=Z.cr)→zr z (13::10::b::t)=zr (zs .need b) t:=fun z hz=>by rcases hz with rfl|rfl<;>rfl
   rw[e1 _ ha]
   have:zs .need b=.ok:=by
    have:blk b=true:=hb
    simp[zs,this]
   rw[this]
  rw[e]
  exact nl_cl (nl_tail hl)
theorem col_split(l:List UInt8)(h:colN l<l.length):l=l.take (colN l)++58::l.drop (colN l+1):=by
 induction l with
 |nil=>simp[colN]at h
 |cons c t ih=>
  by_cases hc:c=58
  ·subst hc;simp[colN]
  ·have e:colN (c::t)=colN t+1:=by simp[colN,hc]
   rw[e]at h⊢
   rw[List.take_succ_cons,List.cons_append,List.drop_succ_cons,←ih (by simpa using h)]
theorem name_split{l:List UInt8}{c:Nat}(h:nameN l=some c):∃nm bd,l=nm++58::bd∧nm.length=c∧nm≠[]∧nm.all nameB=true∧l.take c=nm∧l.drop (c+1)=bd:=by
 unfold nameN at h
 split at h
 ·rename_i hh
  cases h
  obtain⟨h1,h2,h3⟩:=hh
  have hl:(l.take (colN l)).length=colN l:=by rw[List.length_take];omega
  exact⟨_,_,col_split l h1,hl,fun e=>by rw[e]at hl;simp at hl;omega,h3,rfl,rfl⟩
 ·cases h
theorem nl_drop:∀(a:List UInt8) {b:List UInt8},Nl (a++b)→Nl b
 |[],_,h=>h
 |_::a,_,h=>nl_drop a (nl_tail h)
theorem line_rest(r:List UInt8):∃(c:Bool) (r':List UInt8),r=r.take (lineN r)++(tl c++r')∧nextN r=lineN r+(tl c).length∧(c=false→r'=[]):=by
 by_cases h:lineN r<r.length
 ·obtain⟨r',hr⟩:=line_split r h
  exact⟨true,r',hr,by unfold nextN;rw[if_pos h];rfl,fun e=>by cases e⟩
 ·refine⟨false,[],?_,by unfold nextN;rw[if_neg h];rfl,fun _=>rfl⟩
  rw[List.take_of_length_le (by omega)];simp[tl]
structure Inv (d:List UInt8) (at_:Nat) (out:List Fd) (S:List Sg) (r:List UInt8):Prop where
 eq:d=fl S++r
 at_:at_=(fl S).length
 out:out=fds 0 S
 ok:∀s∈S,s.Ok
 ends:Ends S r
theorem Inv.drop{d:List UInt8}{at_:Nat}{out:List Fd}{S:List Sg}{r:List UInt8}(h:Inv d at_ out S r):d.drop at_=r:=by
 rw[h.eq,h.at_,List.drop_left]
theorem Ends.all{S:List Sg}{r:List UInt8}(h:Ends S r)(hr:r≠[]):∀s∈S,s.cr=true:=fun s hs=>by
 obtain⟨A,B,e⟩:=List.append_of_mem hs
 rcases h A s B e with h|h
 ·exact h
 ·exact absurd h.2 hr
theorem ends_of{S:List Sg}(h:∀s∈S,s.cr=true)(s:Sg)(r:List UInt8)(hs:s.cr=false→r=[]):Ends (S++[s]) r:=fun A x B e=>by
 rcases List.eq_nil_or_concat B with rfl|⟨B',y,rfl⟩
 ·have e2:=List.append_inj' e rfl
  cases e2.2
  cases hc:s.cr
  ·exact .inr ⟨rfl,hs hc⟩
  ·exact .inl rfl
 ·left
  have e1:S++[s]=(A++x::B')++[y]:=by rw[e];simp
  have e2:=List.append_inj' e1 rfl
  exact h x (by rw[e2.1];simp)
theorem fds_last(A:List Sg)(s:Sg):(fds 0 (A++[s])).getLast?=some ⟨s.nm,s.bd,(fl A).length,(fl A).length+s.b.length⟩∧(fds 0 (A++[s])).dropLast=fds 0 A:=by
 rw[fds_app]
 simp[fds]
theorem Sg.len(s:Sg):s.b.length=s.nm.length+1+s.bd.length+(tl s.cr).length:=by
 unfold Sg.b;simp;omega
theorem fl_one(A:List Sg)(s:Sg):fl (A++[s])=fl A++s.b:=by simp[fl]
theorem Inv.field{d:List UInt8}{at_:Nat}{out:List Fd}{S:List Sg}{r:List UInt8}(h:Inv d at_ out S r){c:Nat}(hr:r≠[])(hn:nameN (r.take (lineN r))=some c):
 ∃s r',Inv d (at_+nextN r) (out++[⟨r.take c,(r.take (lineN r)).drop (c+1),at_,at_+nextN r⟩]) (S++[s]) r':=by
 obtain⟨nm,bd,e1,e2,e3,e4,e5,e6⟩:=name_split hn
 obtain⟨k,r',hr',hnx,hk⟩:=line_rest r
 have hnl:=nl_take r
 rw[e1]at hnl
 have hbd:Nl bd:=nl_drop (nm++[58]) (by simpa using hnl)
 have hb:r=(⟨nm,bd,k⟩:Sg).b++r':=by
  rw[hr',e1];simp[Sg.b]
 have hlen:(⟨nm,bd,k⟩:Sg).b.length=nextN r:=by
  rw[Sg.len,hnx]
  have:=congrArg List.length e1
  rw[List.length_take,Nat.min_eq_left (lineN_le r)]at this
  rw[this];simp;omega
 have ht:r.take c=nm:=by
  have:(r.take (lineN r)).take c=r.take c:=by
   have:=congrArg List.length e1
   rw[List.length_take,Nat.min_eq_left (lineN_le r)]at this
   rw[List.take_take,Nat.min_eq_left]
   rw[this,List.length_append,e2];omega
  rw[←this,e5]
 refine⟨⟨nm,bd,k⟩,r',⟨?_,?_,?_,?_,?_⟩⟩
 ·rw[fl_one,List.append_assoc,←hb];exact h.eq
 ·rw[fl_one,List.length_append,hlen,←h.at_]
 ·rw[fds_app,←h.out,ht,e6,Nat.zero_add,←h.at_]
  show _=out++[_]
  rw[hlen]
 ·intro s hs
  rcases List.mem_append.mp hs with hs|hs
  ·exact h.ok s hs
  ·cases List.mem_singleton.mp hs
   exact⟨e3,e4,nl_cl hbd⟩
 ·exact ends_of (h.ends.all hr) _ _ hk
theorem Inv.cont{d:List UInt8}{at_:Nat}{out:List Fd}{S:List Sg}{r:List UInt8}(h:Inv d at_ out S r)(hr:r≠[])(h0:out≠[])(hn:0<lineN r)(hb:blk (r.headD 0)=true):
 ∃S' r',Inv d (at_+nextN r) (extl d out (at_+lineN r) (at_+nextN r)) S' r':=by
 obtain⟨k,r',hr',hnx,hk⟩:=line_rest r
 have hnl:=nl_take r
 rcases List.eq_nil_or_concat S with rfl|⟨A,s,rfl⟩
 ·exact absurd h.out h0
 rw[List.concat_eq_append]at h
 have hS:=h.ends.all hr
 have hcr:s.cr=true:=hS s (by simp)
 have hso:=h.ok s (by simp)
 have htl:(r.take (lineN r)).length=lineN r:=by rw[List.length_take,Nat.min_eq_left (lineN_le r)]
 have hne:r.take (lineN r)≠[]:=fun e=>by rw[e]at htl;simp at htl;omega
 have hhd:(r.take (lineN r)).headD 0=r.headD 0:=by
  cases r with
  |nil=>exact absurd rfl hr
  |cons b t=>cases hl:lineN (b::t)with
   |zero=>omega
   |succ n=>rfl
 have hsb:s.b=s.nm++58::(s.bd++[13,10]):=by unfold Sg.b;rw[hcr];rfl
 refine⟨A++[⟨s.nm,s.bd++13::10::r.take (lineN r),k⟩],r',⟨?_,?_,?_,?_,?_⟩⟩
 ·have e:=h.eq
  rw[fl_one,hsb]at e
  rw[fl_one]
  rw[e]
  unfold Sg.b
  conv=>lhs;rw[hr']
  simp
 ·rw[fl_one,List.length_append,Sg.len,hnx,h.at_,fl_one,List.length_append,Sg.len,hcr]
  simp only[List.length_append,List.length_cons,htl]
  simp[tl];omega
 ·obtain⟨l1,l2⟩:=fds_last A s
  unfold extl
  rw[h.out,l1]
  show(fds 0 (A++[s])).dropLast++[_]=_
  rw[l2,fds_app]
  congr 1
  have e2:d.take (at_+lineN r)=fl A++(s.nm++58::(s.bd++13::10::r.take (lineN r))):=by
   have e:=h.eq
   rw[e,h.at_,List.take_append,List.take_of_length_le (by omega),fl_one,hsb]
   have:(fl A++(s.nm++58::(s.bd++[13,10]))).length+lineN r-(fl A++(s.nm++58::(s.bd++[13,10]))).length=lineN r:=by omega
   rw[this];simp
  show[Fd.mk _ _ _ _]=[Fd.mk _ _ _ _]
  have e3:(d.take (at_+lineN r)).drop ((fl A).length+s.nm.length+1)=s.bd++13::10::r.take (lineN r):=by
   rw[e2]
   have:fl A++(s.nm++58::(s.bd++13::10::r.take (lineN r)))=(fl A++s.nm++[58])++(s.bd++13::10::r.take (lineN r)):=by simp
   rw[this,List.drop_left' (by simp;omega)]
  rw[e3]
  have e4:at_+nextN r=0+(fl A).length+(⟨s.nm,s.bd++13::10::r.take (lineN r),k⟩:Sg).b.length:=by
   rw[Sg.len,hnx,h.at_,fl_one,List.length_append,Sg.len,hcr]
   simp only[List.length_append,List.length_cons,htl]
   simp[tl];omega
  rw[e4,Nat.zero_add]
 ·intro x hx
  rcases List.mem_append.mp hx with hx|hx
  ·exact h.ok x (by simp[hx])
  ·cases List.mem_singleton.mp hx
   exact⟨hso.ne,hso.nm,cl_more hso.cl hnl hne (by rw[hhd];exact hb)⟩
 ·exact ends_of (fun x hx=>hS x (by simp[hx])) _ _ hk
theorem next_pos{r:List UInt8}(h:r≠[]):0<nextN r:=by
 unfold nextN
 split
 ·omega
 ·rename_i hh
  have:0<r.length:=List.length_pos_iff.mpr h
  omega
theorem spl_sound(d:List UInt8):∀(f at_:Nat) (out:List Fd) (S:List Sg) (r:List UInt8),Inv d at_ out S r→r.length<f→
 ∃S' r',Dec d S' r'∧spl d f at_ out=(fds 0 S',(fl S').length+stopAt r')
 |0,_,_,_,_,_,hf=>by omega
 |f+1,at_,out,S,r,h,hf=>by
  have hd:=h.drop
  unfold spl
  rw[hd]
  have hlen:d.length=at_+r.length:=by rw[h.eq,List.length_append,h.at_]
  by_cases hr:r=[]
  ·subst hr
   rw[if_pos (by rw[hlen];simp)]
   exact⟨S,[],⟨h.eq,h.ok,h.ends,.inl rfl⟩,by rw[h.out,h.at_];rfl⟩
  have hpos:0<r.length:=List.length_pos_iff.mpr hr
  rw[if_neg (by omega)]
  have hnp:=next_pos hr
  have hnl:=next_le r
  split
  ·rename_i hc
   obtain⟨S',r',hi⟩:=h.cont hr hc.1 hc.2.1 hc.2.2
   refine spl_sound d f _ _ S' r' hi ?_
   have e1:=hi.drop
   rw[←e1,List.length_drop];omega
  ·rename_i hc
   cases hn:nameN (r.take (lineN r))with
   |some c=>
    obtain⟨s,r',hi⟩:=h.field hr hn
    refine spl_sound d f _ _ _ r' hi ?_
    have e1:=hi.drop
    rw[←e1,List.length_drop];omega
   |none=>
    refine⟨S,r,⟨h.eq,h.ok,h.ends,.inr ⟨hn,?_⟩⟩,?_⟩
    ·intro hh
     apply hc
     refine⟨?_,hh.2⟩
     rw[h.out]
     intro e
     have:=fds_len S 0
     rw[e]at this
     exact hh.1 (List.length_eq_zero_iff.mp this.symm)
    ·show(out,_)=_
     rw[h.out,h.at_]
     unfold stopAt
     rw[if_neg hr]
     split<;>simp
theorem spl_succ(d:List UInt8)(f at_:Nat)(out:List Fd):spl d (f+1) at_ out=
 if d.length≤at_ then(out,at_)
 else if out≠[]∧0<lineN (d.drop at_)∧blk ((d.drop at_).headD 0)=true then
  spl d f (at_+nextN (d.drop at_)) (extl d out (at_+lineN (d.drop at_)) (at_+nextN (d.drop at_)))
 else match nameN ((d.drop at_).take (lineN (d.drop at_)))with
  |some c=>spl d f (at_+nextN (d.drop at_)) (out++[⟨(d.drop at_).take c,((d.drop at_).take (lineN (d.drop at_))).drop (c+1),at_,at_+nextN (d.drop at_)⟩])
  |none=>(out,if lineN (d.drop at_)=0 then at_+nextN (d.drop at_)else at_):=rfl
theorem line_pre:∀(a x:List UInt8),(∀c∈a,c≠13)→lineN (a++x)=a.length+lineN x
 |[],x,_=>by simp
 |c::a,x,h=>by
  have hc:¬(c=13∧(a++x).head?=some 10):=fun hh=>h c (by simp) hh.1
  rw[List.cons_append,lineN_cons,if_neg hc,line_pre a x fun y hy=>h y (by simp[hy])]
  simp;omega
theorem nameB_facts{c:UInt8}(h:nameB c=true):c≠13∧c≠10∧c≠58∧blk c=false:=by
 unfold nameB at h
 simp only[Bool.and_eq_true,decide_eq_true_eq,bne_iff_ne]at h
 refine⟨fun e=> ?_,fun e=> ?_,h.2,?_⟩
 ·rw[e]at h;exact absurd h.1.1 (by decide)
 ·rw[e]at h;exact absurd h.1.1 (by decide)
 ·unfold blk
  have h1:c≠32:=fun e=>by rw[e]at h;exact absurd h.1.1 (by decide)
  have h2:c≠9:=fun e=>by rw[e]at h;exact absurd h.1.1 (by decide)
  simp[h1,h2]
theorem nameB_all{nm:List UInt8}(h:nm.all nameB=true):∀c∈nm,nameB c=true:=List.all_eq_true.mp h
theorem colN_at:∀(nm x:List UInt8),(∀c∈nm,c≠58)→colN (nm++58::x)=nm.length
 |[],x,_=>by simp[colN]
 |c::nm,x,h=>by
  have:colN (c::(nm++58::x))=colN (nm++58::x)+1:=by simp[colN,h c (by simp)]
  rw[List.cons_append,this,colN_at nm x fun y hy=>h y (by simp[hy])];rfl
theorem name_of{nm:List UInt8}(bd:List UInt8)(h0:nm≠[])(h:nm.all nameB=true):nameN (nm++58::bd)=some nm.length:=by
 unfold nameN
 have e:=colN_at nm bd fun c hc=>(nameB_facts (nameB_all h c hc)).2.2.1
 rw[e,if_pos]
 refine⟨by simp,List.length_pos_iff.mpr h0,?_⟩
 rw[List.take_left];exact h
theorem body_line{bd:List UInt8}(hc:Cl bd)(k:Bool)(R:List UInt8)(hk:k=false→R=[]):
 (Nl bd∧lineN (bd++(tl k++R))=bd.length∧nextN (bd++(tl k++R))=bd.length+(tl k).length)
 ∨∃a b t,bd=a++13::10::b::t∧Nl a∧blk b=true∧Cl (b::t)∧lineN (bd++(tl k++R))=a.length∧nextN (bd++(tl k++R))=a.length+2:=by
 rcases cl_split bd hc with h|⟨r,hr,b,t,hbt,hb,ht⟩
 ·left
  cases k with
  |true=>
   have e:=line_app bd R h
   refine⟨h,e,?_⟩
   show nextN (bd++13::10::R)=_
   unfold nextN
   rw[e,if_pos (by simp)];rfl
  |false=>
   have e:bd++(tl false++R)=bd:=by rw[hk rfl];simp[tl]
   rw[e]
   unfold Nl at h
   refine⟨h,h,?_⟩
   unfold nextN;rw[if_neg (by omega)];rw[h];rfl
 ·right
  subst hbt
  refine⟨_,b,t,hr,nl_take bd,hb,?_,?_⟩
  ·have:zr .ok (b::t)=zr .ok t:=by
    have hb13:b≠13:=fun e=>by rw[e]at hb;cases hb
    show zr (zs .ok b) t=_
    simp[zs,hb13]
   unfold Cl;rw[this];exact ht
  ·have e0:bd++(tl k++R)=bd.take (lineN bd)++13::10::(b::t++(tl k++R)):=by
    conv=>lhs;rw[hr]
    simp
   have e:=line_app (bd.take (lineN bd)) (b::t++(tl k++R)) (nl_take bd)
   rw[e0]
   refine⟨e,?_⟩
   unfold nextN
   rw[e,if_pos (by simp)]
theorem conts_full(d:List UInt8)(S1:List Sg)(nm:List UInt8)(k:Bool)(R:List UInt8)(hk:k=false→R=[]):∀(n:Nat) (bd1 b2:List UInt8) (f at_:Nat),b2.length≤n→
 d=fl S1++(nm++58::(bd1++13::10::(b2++(tl k++R))))→(∃b t,b2=b::t∧blk b=true)→Cl b2→at_=(fl S1).length+nm.length+1+bd1.length+2→d.length<at_+f→
 ∃f',d.length<(fl S1).length+(⟨nm,bd1++13::10::b2,k⟩:Sg).b.length+f'∧spl d f at_ (fds 0 S1++[⟨nm,bd1,(fl S1).length,at_⟩])=spl d f' ((fl S1).length+(⟨nm,bd1++13::10::b2,k⟩:Sg).b.length) (fds 0 S1++[⟨nm,bd1++13::10::b2,(fl S1).length,(fl S1).length+(⟨nm,bd1++13::10::b2,k⟩:Sg).b.length⟩])
 |0,bd1,b2,f,at_,hn,hd,⟨b,t,hb,_⟩,_,_,_=>by rw[hb]at hn;simp at hn
 |n+1,bd1,b2,f,at_,hn,hd,⟨b,t,hb,hbb⟩,hc,hat,hf=>by
  have hdl:d.length=at_+(b2++(tl k++R)).length:=by rw[hd,hat];simp;omega
  have hdr:d.drop at_=b2++(tl k++R):=by
   have:d=(fl S1++(nm++58::(bd1++[13,10])))++(b2++(tl k++R)):=by rw[hd];simp
   rw[this,List.drop_left' (by rw[hat];simp;omega)]
  have h2:0<b2.length:=by rw[hb];simp
  have hext:∀m tt,m≤b2.length→extl d (fds 0 S1++[⟨nm,bd1,(fl S1).length,at_⟩]) (at_+m) tt=fds 0 S1++[⟨nm,bd1++13::10::b2.take m,(fl S1).length,tt⟩]:=fun m tt hm=>by
   unfold extl
   simp only[List.getLast?_append,List.getLast?_singleton,Option.some_or,List.dropLast_concat]
   have e1:d=(fl S1++nm++[58])++((bd1++13::10::b2)++(tl k++R)):=by rw[hd];simp
   have e2:(d.take (at_+m)).drop ((fl S1).length+nm.length+1)=bd1++13::10::b2.take m:=by
    rw[e1,List.take_append,List.take_of_length_le (by rw[hat];simp;omega),List.drop_left' (by simp;omega)]
    have:at_+m-(fl S1++nm++[58]).length=bd1.length+2+m:=by rw[hat];simp;omega
    rw[this,List.take_append,List.take_append,List.take_of_length_le (by omega)]
    have e3:bd1.length+2+m-bd1.length=m+2:=by omega
    rw[e3]
    have e4:bd1.length+2+m-(bd1++13::10::b2).length=0:=by simp;omega
    rw[e4]
    simp
   rw[e2]
  cases f with
  |zero=>omega
  |succ f=>
   have hpos:¬d.length≤at_:=by rw[hdl];simp;omega
   have hhd:(b2++(tl k++R)).headD 0=b:=by rw[hb];rfl
   rw[spl_succ,if_neg hpos,hdr,hhd]
   have hlp:0<lineN (b2++(tl k++R)):=by
    have hb13:b≠13:=fun e=>by rw[e]at hbb;cases hbb
    rw[hb,List.cons_append,lineN_cons,if_neg fun hh=>hb13 hh.1];omega
   rw[if_pos ⟨by simp,hlp,hbb⟩]
   rcases body_line hc k R hk with⟨_,e1,e2⟩|⟨a,b',t',ea,hna,hb',hc',e1,e2⟩
   ·rw[e1,e2,hext _ _ (Nat.le_refl _),List.take_length]
    have e3:at_+(b2.length+(tl k).length)=(fl S1).length+(⟨nm,bd1++13::10::b2,k⟩:Sg).b.length:=by rw[hat,Sg.len];simp;omega
    rw[e3]
    refine⟨f,?_,rfl⟩
    rw[←e3];omega
   ·have hal:a.length≤b2.length:=by rw[ea];simp
    rw[e1,e2,hext _ _ hal]
    have htk:b2.take a.length=a:=by rw[ea,List.take_left]
    rw[htk]
    have:=conts_full d S1 nm k R hk n (bd1++13::10::a) (b'::t') f (at_+(a.length+2)) (by rw[ea]at hn;simp at hn⊢;omega) (by rw[hd,ea];simp) ⟨b',t',rfl,hb'⟩ hc' (by rw[hat];simp;omega) (by omega)
    have e5:(bd1++13::10::a)++13::10::b'::t'=bd1++13::10::b2:=by rw[ea];simp
    rw[e5]at this
    exact this
theorem field_full(d:List UInt8)(S1:List Sg)(s:Sg)(R:List UInt8)(hk:s.cr=false→R=[])(hs:s.Ok)(f:Nat)(hd:d=fl S1++(s.b++R))(hf:d.length<(fl S1).length+f):
 ∃f',d.length<(fl (S1++[s])).length+f'∧spl d f (fl S1).length (fds 0 S1)=spl d f' (fl (S1++[s])).length (fds 0 (S1++[s])):=by
 obtain⟨nm,bd,k⟩:=s
 have hlen:(fl (S1++[⟨nm,bd,k⟩])).length=(fl S1).length+(⟨nm,bd,k⟩:Sg).b.length:=by rw[fl_one,List.length_append]
 have hfd:fds 0 (S1++[⟨nm,bd,k⟩])=fds 0 S1++[⟨nm,bd,(fl S1).length,(fl S1).length+(⟨nm,bd,k⟩:Sg).b.length⟩]:=by rw[fds_app,Nat.zero_add];rfl
 have hdr:d.drop (fl S1).length=(nm++[58])++(bd++(tl k++R)):=by rw[hd,List.drop_left];simp[Sg.b]
 cases f with
 |zero=>
  have:=congrArg List.length hd
  simp at this;omega
 |succ f=>
  have hp:¬d.length≤(fl S1).length:=by
   have:=congrArg List.length hd
   simp[Sg.len]at this;omega
  have h13:∀c∈nm++[58],c≠(13:UInt8):=fun c hc=>by
   rcases List.mem_append.mp hc with h|h
   ·exact(nameB_facts (nameB_all hs.nm c h)).1
   ·cases List.mem_singleton.mp h;decide
  have hl:lineN ((nm++[58])++(bd++(tl k++R)))=nm.length+1+lineN (bd++(tl k++R)):=by rw[line_pre _ _ h13];simp
  have hnx:nextN ((nm++[58])++(bd++(tl k++R)))=nm.length+1+nextN (bd++(tl k++R)):=by
   unfold nextN;rw[hl]
   have:((nm++[58])++(bd++(tl k++R))).length=nm.length+1+(bd++(tl k++R)).length:=by simp;omega
   rw[this]
   by_cases hh:lineN (bd++(tl k++R))<(bd++(tl k++R)).length
   ·rw[if_pos hh,if_pos (by omega)];omega
   ·rw[if_neg hh,if_neg (by omega)]
  have hhb:blk (((nm++[58])++(bd++(tl k++R))).headD 0)=false:=by
   have h0:nm≠[]:=hs.ne
   cases nm with
   |nil=>exact absurd rfl h0
   |cons c t=>exact(nameB_facts (nameB_all hs.nm c (by simp))).2.2.2
  have htk:∀m,((nm++[58])++(bd++(tl k++R))).take (nm.length+1+m)=nm++58::(bd++(tl k++R)).take m:=fun m=>by
   rw[List.take_append,List.take_of_length_le (by simp)]
   have:nm.length+1+m-(nm++[58]).length=m:=by simp
   rw[this];simp
  rw[spl_succ,if_neg hp,hdr,if_neg (by rw[hhb];simp),hl,htk,hnx,name_of _ hs.ne hs.nm]
  dsimp only
  have e1:List.take nm.length ((nm++[58])++(bd++(tl k++R)))=nm:=by rw[List.append_assoc,List.take_left]
  have e2:∀x:List UInt8,(nm++58::x).drop (nm.length+1)=x:=fun x=>by
   have:nm++58::x=(nm++[58])++x:=by simp
   rw[this,List.drop_left' (by simp)]
  rw[e1,e2,hlen,hfd]
  have hbl:(⟨nm,bd,k⟩:Sg).b.length=nm.length+1+bd.length+(tl k).length:=Sg.len _
  rcases body_line hs.cl k R hk with⟨_,e3,e4⟩|⟨a,b',t',ea,hna,hb',hc',e3,e4⟩
  ·have e5:bd.length≤bd.length:=Nat.le_refl _
   change lineN (bd++(tl k++R))=bd.length at e3
   change nextN (bd++(tl k++R))=bd.length+(tl k).length at e4
   rw[e3,e4,List.take_left]
   have e6:(fl S1).length+(nm.length+1+(bd.length+(tl k).length))=(fl S1).length+(⟨nm,bd,k⟩:Sg).b.length:=by rw[hbl];omega
   rw[e6]
   refine⟨f,?_,rfl⟩
   have:=hs.ne
   have:0<nm.length:=List.length_pos_iff.mpr this
   rw[hbl];omega
  ·change bd=a++13::10::b'::t' at ea
   change lineN (bd++(tl k++R))=a.length at e3
   change nextN (bd++(tl k++R))=a.length+2 at e4
   rw[e3,e4]
   have e7:(bd++(tl k++R)).take a.length=a:=by rw[ea,List.append_assoc,List.take_left]
   rw[e7]
   have:=conts_full d S1 nm k R hk (b'::t').length a (b'::t') f ((fl S1).length+(nm.length+1+(a.length+2))) (Nat.le_refl _) (by rw[hd,ea];simp[Sg.b]) ⟨b',t',rfl,hb'⟩ hc' (by omega) (by omega)
   rw[←ea]at this
   exact this
theorem spl_full(d:List UInt8)(r:List UInt8):∀(S2 S1:List Sg) (f:Nat),Dec d (S1++S2) r→d.length<(fl S1).length+f→
 spl d f (fl S1).length (fds 0 S1)=(fds 0 (S1++S2),(fl (S1++S2)).length+stopAt r)
 |[],S1,f,h,hf=>by
  rw[List.append_nil]at h⊢
  have hdr:d.drop (fl S1).length=r:=by rw[h.eq,List.drop_left]
  cases f with
  |zero=>
   have:=congrArg List.length h.eq
   simp at this;omega
  |succ f=>
   rw[spl_succ]
   rcases h.stop with hr|⟨hn,hb⟩
   ·subst hr
    have:=congrArg List.length h.eq
    rw[if_pos (by simp at this;omega)];rfl
   ·by_cases hr:r=[]
    ·subst hr
     have:=congrArg List.length h.eq
     rw[if_pos (by simp at this;omega)];rfl
    have hp:0<r.length:=List.length_pos_iff.mpr hr
    have:=congrArg List.length h.eq
    rw[if_neg (by simp at this;omega),hdr,if_neg,hn]
    ·show(fds 0 S1,_)=_
     unfold stopAt
     rw[if_neg hr]
     split<;>simp
    ·intro hh
     apply hb
     refine⟨fun e=>hh.1 (by rw[e];rfl),hh.2⟩
 |s::S2,S1,f,h,hf=>by
  have e1:S1++s::S2=(S1++[s])++S2:=by simp
  have hk:s.cr=false→fl S2++r=[]:=fun hc=>by
   rcases h.ends S1 s S2 rfl with hh|⟨h1,h2⟩
   ·rw[hc]at hh;cases hh
   ·rw[h1,h2];rfl
  obtain⟨f',hf',e⟩:=field_full d S1 s (fl S2++r) hk (h.ok s (by simp)) f (by rw[h.eq,fl_app];simp[fl]) hf
  rw[e,e1]
  exact spl_full d r S2 (S1++[s]) f' (by rw[←e1];exact h) hf'
theorem splits(d:List UInt8):∃S r,Dec d S r∧spl d (d.length+1) 0 []=(fds 0 S,(fl S).length+stopAt r):=
 spl_sound d (d.length+1) 0 [] [] d ⟨rfl,rfl,rfl,fun _ h=>(List.not_mem_nil h).elim,fun A s B e=>by cases A<;>cases e⟩ (Nat.lt_succ_self _)
theorem splits_of{d:List UInt8}{S:List Sg}{r:List UInt8}(h:Dec d S r):spl d (d.length+1) 0 []=(fds 0 S,(fl S).length+stopAt r):=by
 have:=spl_full d r S [] (d.length+1) h (by simp[fl])
 exact this
theorem fds_get:∀(S:List Sg) (o i:Nat) (h:i<S.length),(fds o S)[i]?=some ⟨S[i].nm,S[i].bd,o+(fl (S.take i)).length,o+(fl (S.take (i+1))).length⟩
 |[],_,_,h=>by simp at h
 |s::S,o,0,_=>by simp[fds,fl]
 |s::S,o,i+1,h=>by
  show(fds (o+s.b.length) S)[i]?=_
  rw[fds_get S _ i (by simpa using h)]
  simp[fl,Nat.add_assoc]
theorem fds_bytes(S:List Sg)(r:List UInt8)(i:Nat)(h:i<S.length):((fl S++r).take (fl (S.take (i+1))).length).drop (fl (S.take i)).length=S[i].b:=by
 have e:fl S=fl (S.take (i+1))++fl (S.drop (i+1)):=by rw[←fl_app,List.take_append_drop]
 rw[e,List.append_assoc,List.take_left,List.take_add_one,fl_app,List.drop_left]
 rw[List.getElem?_eq_getElem h]
 simp[fl]
theorem fds_to(S:List Sg):((fds 0 S).getLast?.map Fd.tt).getD 0=(fl S).length:=by
 rcases List.eq_nil_or_concat S with rfl|⟨A,s,rfl⟩
 ·rfl
 ·rw[List.concat_eq_append,(fds_last A s).1,fl_one,List.length_append];rfl
def turn(B:List UInt8→List UInt8)(may isA:List UInt8→Bool)(s:Sg):Sg:=
 if isA s.nm=true∧may (⟨s.nm,B s.bd,s.cr⟩:Sg).b=true then⟨s.nm,B s.bd,s.cr⟩else s
theorem turn_nm(B:List UInt8→List UInt8)(may isA:List UInt8→Bool)(s:Sg):(turn B may isA s).nm=s.nm∧(turn B may isA s).cr=s.cr:=by
 unfold turn;split<;>exact⟨rfl,rfl⟩
theorem turn_dec{B:List UInt8→List UInt8}{may isA:List UInt8→Bool}(hB:∀b,Cl b→Cl (B b)){d r:List UInt8}{S:List Sg}(h:Dec d S r):Dec (fl (S.map (turn B may isA))++r) (S.map (turn B may isA)) r where
 eq:=rfl
 ok:=fun s hs=>by
  obtain⟨x,hx,rfl⟩:=List.mem_map.mp hs
  have ho:=h.ok x hx
  unfold turn
  split
  ·exact⟨ho.ne,ho.nm,hB _ ho.cl⟩
  ·exact ho
 ends:=fun A s Z e=>by
  obtain⟨A',t,e1,e2,e3⟩:=List.map_eq_append_iff.mp e
  obtain⟨x,B',e4,e5,e6⟩:=List.map_eq_cons_iff.mp e3
  subst e4
  rcases h.ends A' x B' e1 with hh|⟨h1,h2⟩
  ·left;rw[←e5,(turn_nm _ _ _ x).2];exact hh
  ·right;subst h1;exact⟨by rw[←e6];rfl,h2⟩
 stop:=by
  rcases h.stop with hh|⟨h1,h2⟩
  ·exact .inl hh
  ·refine .inr ⟨h1,fun hh=>h2 ⟨fun e=>hh.1 (by rw[e];rfl),hh.2⟩⟩
def cs(z:Option (Bool×Nat))(c:UInt8):Option (Bool×Nat):=match z with
 |none=>none
 |some (k,n)=>if c=0 then none else if k then(if c=10∧n≤999 then some (false,0)else none)else if c=10 then none else some (c==13,n+1)
def cr_(z:Option (Bool×Nat))(l:List UInt8):Option (Bool×Nat):=l.foldl cs z
theorem cr_app(z:Option (Bool×Nat))(a b:List UInt8):cr_ z (a++b)=cr_ (cr_ z a) b:=List.foldl_append ..
theorem cr_none(l:List UInt8):cr_ none l=none:=by
 induction l with
 |nil=>rfl
 |cons c t ih=>exact ih
def z0:Option (Bool×Nat):=some (false,0)
def Sent(l:List UInt8):Prop:=cr_ z0 l=z0
theorem cr_snoc(z:Option (Bool×Nat))(a:List UInt8):cr_ z (a++[13,10])=z0∨cr_ z (a++[13,10])=none:=by
 rw[cr_app]
 cases h:cr_ z a with
 |none=>right;exact cr_none _
 |some x=>
  obtain⟨k,n⟩:=x
  cases k
  ·show cr_ (some (true,n+1)) [10]=_∨_
   show cs (some (true,n+1)) 10=_∨cs (some (true,n+1)) 10=_
   by_cases hn:n+1≤999
   ·left;simp[cs,hn,z0]
   ·right;simp[cs,hn]
  ·right;rfl
theorem sent_turn{B:List UInt8→List UInt8}{may isA:List UInt8→Bool}(hm:∀b,may b=true→cr_ z0 b≠none){r:List UInt8}:∀(S:List Sg),Ends S r→(∀s∈S,s.Ok)→Sent (fl S++r)→Sent (fl (S.map (turn B may isA))++r)
 |[],_,_,h=>h
 |s::S,he,ho,h=>by
  unfold Sent at h⊢
  have e1:fl (s::S)++r=s.b++(fl S++r):=by simp[fl]
  have e2:fl ((s::S).map (turn B may isA))++r=(turn B may isA s).b++(fl (S.map (turn B may isA))++r):=by simp[fl]
  rw[e1,cr_app]at h
  rw[e2,cr_app]
  have hcr:s.cr=true:=by
   rcases he [] s S rfl with hh|⟨h1,h2⟩
   ·exact hh
   ·cases hc:s.cr with
    |true=>rfl
    |false=>
     exfalso
     subst h1 h2
     have hb:s.b=s.nm++[58]++s.bd:=by unfold Sg.b;rw[hc];simp[tl]
     have hne:s.b≠[]:=by rw[hb];simp
     change cr_ (cr_ z0 s.b) []=z0 at h
     change cr_ z0 s.b=z0 at h
     obtain⟨x,c,e⟩:∃x c,s.b=x++[c]:=by
      rcases List.eq_nil_or_concat s.b with h0|⟨x,c,h0⟩
      ·exact absurd h0 hne
      ·exact⟨x,c,by rw[h0,List.concat_eq_append]⟩
     rw[e,cr_app]at h
     -- the last byte is a LF behind a CR
     cases hx:cr_ z0 x with
     |none=>rw[hx]at h;cases h
     |some y=>
      obtain⟨k,n⟩:=y
      rw[hx]at h
      change cs (some (k,n)) c=z0 at h
      have hk:k=true∧c=10:=by
       cases k
       ·exfalso
        simp only[cs]at h
        split at h
        ·cases h
        ·split at h
         ·rename_i hh;cases hh
         ·split at h
          ·cases h
          ·have:=congrArg (Option.map Prod.snd) h
           simp[z0]at this
       ·refine⟨rfl,?_⟩
        simp only[cs]at h
        split at h
        ·cases h
        ·split at h
         ·split at h
          ·rename_i hh;exact hh.1
          ·cases h
         ·rename_i hh;exact absurd trivial hh
      obtain⟨rfl,rfl⟩:=hk
      -- x ends with a CR
      have hx13:∃y,x=y++[13]:=by
       rcases List.eq_nil_or_concat x with h0|⟨y,b,h0⟩
       ·rw[h0]at hx;cases hx
       ·rw[List.concat_eq_append]at h0
        refine⟨y,?_⟩
        rw[h0,cr_app]at hx
        cases hy:cr_ z0 y with
        |none=>rw[hy]at hx;cases hx
        |some q=>
         obtain⟨k2,n2⟩:=q
         rw[hy]at hx
         change cs (some (k2,n2)) b=some (true,n)at hx
         have:b=13:=by
          simp only[cs]at hx
          split at hx
          ·cases hx
          ·split at hx
           ·split at hx
            ·cases hx
            ·cases hx
           ·split at hx
            ·cases hx
            ·have:=congrArg (Option.map Prod.fst) hx
             simpa using this
         rw[h0,this]
      obtain⟨y,rfl⟩:=hx13
      -- so the body ends by an end of a line, which it may not
      have hcl:=(ho s (by simp)).cl
      have e3:s.nm++[58]++s.bd=y++[13,10]:=by rw[←hb,e];simp
      have hz:∃q,s.bd=q++[13,10]:=by
       have hlen:=congrArg List.length e3
       simp at hlen
       have h2:2≤s.bd.length:=by
        rcases hbd:s.bd with _|⟨b1,_|⟨b2,t⟩⟩
        ·rw[hbd]at e3
         have:=congrArg List.getLast? e3
         simp at this
        ·rw[hbd]at e3
         have:=congrArg (fun l=>l.reverse) e3
         simp at this
        ·simp
       refine⟨s.bd.take (s.bd.length-2),?_⟩
       have:=congrArg (List.drop (y.length)) e3
       rw[List.drop_left,List.drop_append]at this
       have hy:y.length=s.nm.length+1+(s.bd.length-2):=by omega
       rw[List.drop_eq_nil_of_le (by simp;omega),List.nil_append]at this
       have hy2:y.length-(s.nm++[58]).length=s.bd.length-2:=by simp;omega
       rw[hy2]at this
       rw[←this,List.take_append_drop]
      obtain⟨q,hq⟩:=hz
      unfold Cl at hcl
      rw[hq,zr_app]at hcl
      have hn:∀z,zr z [13,10]=.need∨zr z [13,10]=.no:=fun z=>by cases z<;>decide
      rcases hn (zr .ok q)with hh|hh<;>rw[hh]at hcl<;>rcases hcl with h3|h3<;>cases h3
  have hbt:∀x:Sg,x.cr=true→cr_ z0 x.b=z0∨cr_ z0 x.b=none:=fun x hx=>by
   have:x.b=(x.nm++58::x.bd)++[13,10]:=by unfold Sg.b;rw[hx];simp[tl]
   rw[this];exact cr_snoc _ _
  have h1:cr_ z0 s.b=z0:=by
   rcases hbt s hcr with hh|hh
   ·exact hh
   ·rw[hh,cr_none]at h;cases h
  rw[h1]at h
  have h2:cr_ z0 (turn B may isA s).b=z0:=by
   unfold turn
   split
   ·rename_i hh
    rcases hbt ⟨s.nm,B s.bd,s.cr⟩ hcr with h3|h3
    ·exact h3
    ·exact absurd h3 (hm _ hh.2)
   ·exact h1
  rw[h2]
  refine sent_turn hm S (fun A x Z e=> ?_) (fun x hx=>ho x (by simp[hx])) h
  exact he (s::A) x Z (by rw[e];rfl)
end Go.Proofs.YtmlmkmhkmifnkaaGreatDoor.Hs
namespace Go.Proofs.YtmlmkmhkmifnkaaGreatDoor.Ma
open Hs (zr zs Z Cl blk zr_app zr_no)
open Ci (splitL splitL_ne)
theorem zr_last(z:Z)(x:List UInt8){c:UInt8}(h:c≠13∧c≠10):zr z (x++[c])=.ok∨zr z (x++[c])=.no:=by
 rw[zr_app]
 generalize zr z x=y
 show zs y c=_∨zs y c=_
 cases y<;>simp[zs,h.1,h.2]
theorem zr_fine:∀(t:List UInt8),(∀b∈t,b≠13∧b≠10)→zr .ok t=.ok
 |[],_=>rfl
 |c::t,h=>by
  have hc:=h c (by simp)
  have:zs .ok c=.ok:=by simp[zs,hc.1]
  show zr (zs .ok c) t=_
  rw[this];exact zr_fine t fun b hb=>h b (by simp[hb])
theorem zr_put(t:List UInt8)(h:∀b∈t,b≠13∧b≠10)(h0:t≠[]){z:Z}(hz:z=.ok∨z=.cr):zr z t=.ok:=by
 cases t with
 |nil=>exact absurd rfl h0
 |cons c t=>
  have hc:=h c (by simp)
  have:zs z c=.ok:=by rcases hz with rfl|rfl<;>simp[zs,hc.1,hc.2]
  show zr (zs z c) t=_
  rw[this];exact zr_fine t fun b hb=>h b (by simp[hb])
theorem quo_last:∀(k:Nat) (c x:List UInt8),c.length≤k→quoL c=some (x,c.length)→∃y,c=y++[34]
 |0,c,x,hk,h=>by
  have:c=[]:=List.length_eq_zero_iff.mp (by omega)
  subst this;cases h
 |k+1,[],x,hk,h=>by cases h
 |k+1,c::t,x,hk,h=>by
  have hm:∀(q:List UInt8) (f:List UInt8×Nat→List UInt8×Nat) (n:Nat),(quoL q).map f=some (x,n)→∃p,quoL q=some p∧f p=(x,n):=fun q f n e=>by
   cases hq:quoL q with
   |none=>rw[hq]at e;cases e
   |some p=>rw[hq]at e;exact⟨p,rfl,by simpa using e⟩
  rw[quoL.eq_def]at h
  simp only at h
  split at h
  ·rename_i hc
   have:t=[]:=by
    have:=congrArg (Option.map Prod.snd) h
    simp at this
    exact this
   subst this
   exact⟨[],by rw[hc];rfl⟩
  ·split at h
   ·obtain⟨p,hp,e⟩:=hm _ _ _ h
    have e2:p.2+1=(c::t).length:=congrArg Prod.snd e
    obtain⟨y,hy⟩:=quo_last k t p.1 (by simp at hk;omega) (by rw[hp];congr 1;exact Prod.ext rfl (by simp at e2;exact e2))
    exact⟨c::y,by rw[hy];rfl⟩
   ·split at h
    ·split at h
     ·cases h
     ·split at h
      ·cases h
      ·obtain⟨p,hp,e⟩:=hm _ _ _ h
       rename_i _ d t' _
       have e2:p.2+2=(c::d::t').length:=congrArg Prod.snd e
       obtain⟨y,hy⟩:=quo_last k t' p.1 (by simp at hk;omega) (by rw[hp];congr 1;exact Prod.ext rfl (by simp at e2;exact e2))
       exact⟨c::d::y,by rw[hy];rfl⟩
    ·split at h
     ·cases h
     ·obtain⟨p,hp,e⟩:=hm _ _ _ h
      have e2:p.2+1=(c::t).length:=congrArg Prod.snd e
      obtain⟨y,hy⟩:=quo_last k t p.1 (by simp at hk;omega) (by rw[hp];congr 1;exact Prod.ext rfl (by simp at e2;exact e2))
      exact⟨c::y,by rw[hy];rfl⟩
theorem brk_last:∀(c:List UInt8),brkL c=some c.length→∃y,c=y++[93]
 |[],h=>by cases h
 |c::t,h=>by
  rw[brkL]at h
  split at h
  ·rename_i hc
   have:t=[]:=by simp at h;exact h
   subst this
   exact⟨[],by rw[hc];rfl⟩
  ·split at h
   ·cases h
   ·cases hq:brkL t with
    |none=>rw[hq]at h;cases h
    |some n=>
     rw[hq]at h
     have:n=t.length:=by simpa using h
     obtain⟨y,hy⟩:=brk_last t (by rw[hq,this])
     exact⟨c::y,by rw[hy];rfl⟩
theorem at_fine:∀b:UInt8,atB b=true→(b≠13∧b≠10)∧blk b=false:=u8_forall (by decide)
theorem sg_fine:∀b:UInt8,sgB b=true→(b≠13∧b≠10)∧blk b=false:=u8_forall (by decide)
theorem odd_fine:∀b:UInt8,oddB b=false→b≠13∧b≠10:=u8_forall (by decide)
theorem in_fine:∀b:UInt8,inB b=true→b≠13∧b≠10:=u8_forall (by decide)
theorem raw_last{i:It}(h:Raw i):∃x c,i.raw=x++[c]∧c≠13∧c≠10:=by
 cases h with
 |sg g c hc=>exact⟨[],c,rfl,(sg_fine c hc).1⟩
 |qu g c x hc=>obtain⟨y,rfl⟩:=quo_last _ c x (Nat.le_refl _) hc;exact⟨34::y,34,rfl,by decide,by decide⟩
 |li g c hc=>obtain⟨y,rfl⟩:=brk_last c hc;exact⟨91::y,93,rfl,by decide,by decide⟩
 |at_ g b c hc=>
  rcases List.eq_nil_or_concat (b::c)with e|⟨x,d,e⟩
  ·cases e
  ·rw[List.concat_eq_append]at e
   exact⟨x,d,e,(at_fine d (hc d (by rw[e];simp))).1⟩
theorem raw_first{i:It}(h:Raw i):∃c x,i.raw=c::x∧blk c=false:=by
 cases h with
 |sg g c hc=>exact⟨c,[],rfl,(sg_fine c hc).2⟩
 |qu g c x hc=>exact⟨34,c,rfl,rfl⟩
 |li g c hc=>exact⟨91,c,rfl,rfl⟩
 |at_ g b c hc=>exact⟨b,c,rfl,(at_fine b (hc b (by simp))).2⟩
theorem zr_item(z:Z){i:It}(h:Raw i):zr z i.b=.ok∨zr z i.b=.no:=by
 obtain⟨x,c,e,hc⟩:=raw_last h
 unfold It.b
 rw[e,←List.append_assoc]
 exact zr_last z _ hc
theorem zr_items:∀(l:List It),l≠[]→(∀i∈l,Raw i)→∀z,zr z (flat l)=.ok∨zr z (flat l)=.no
 |[],h,_,_=>absurd rfl h
 |[i],_,h,z=>by
  have:flat [i]=i.b:=by simp[flat]
  rw[this];exact zr_item z (h i (by simp))
 |i::j::l,_,h,z=>by
  rw[flat_cons,zr_app]
  exact zr_items (j::l) (by simp) (fun x hx=>h x (by simp[hx])) _
theorem zr_rpl{α:Type}(F:List UInt8→α→Spc)(T:α→List UInt8)(hT:∀g a,flat (F g a).sec=g++T a)(hf:∀a,T a≠[]∧∀b∈T a,b≠13∧b≠10)(e:It):
 ∀(m:List Sg) (ps:List α),(∀x∈m,Sg.ok x)→(∀i∈its m,Raw i)→zr .ok (flat (its (m++[.keep e])))≠.no→
  zr .ok (flat (its (rpl F (m++[.keep e]) ps)))=zr .ok (flat (its (m++[.keep e])))
 |[],ps,_,_,_=>rfl
 |.keep i::m,ps,h1,h2,h3=>by
  have e1:flat (its (.keep i::m++[.keep e]))=i.b++flat (its (m++[.keep e])):=rfl
  have e2:flat (its (rpl F (.keep i::m++[.keep e]) ps))=i.b++flat (its (rpl F (m++[.keep e]) ps)):=rfl
  rw[e1,zr_app]at h3
  rw[e1,e2,zr_app,zr_app]
  rcases zr_item .ok (h2 i (show i∈[i]++its m by simp))with h|h
  ·rw[h]at h3⊢
   exact zr_rpl F T hT hf e m ps (fun x hx=>h1 x (List.mem_cons_of_mem _ hx)) (fun j hj=>h2 j (List.mem_cons_of_mem _ hj)) h3
  ·rw[h,zr_no]at h3;exact absurd rfl h3
 |.sp s n::m,[],h1,h2,h3=>by
  have hr:∀s:Spc,IsSpec s→(∀i∈s.sec,Raw i)→zr .ok (flat s.sec)=.ok∨zr .ok (flat s.sec)=.no:=fun s hs hi=>by
   obtain⟨i,t,e3,_⟩:=spec_head hs
   exact zr_items _ (by rw[e3];simp) hi _
  have e1:flat (its (.sp s n::m++[.keep e]))=flat s.sec++flat (its (m++[.keep e])):=by
   show flat (s.sec++its (m++[.keep e]))=_
   rw[flat_app]
  have e2:flat (its (rpl F (.sp s n::m++[.keep e]) []))=flat s.sec++flat (its (rpl F (m++[.keep e]) [])):=by
   show flat (s.sec++its (rpl F (m++[.keep e]) []))=_
   rw[flat_app]
  rw[e1,zr_app]at h3
  rw[e1,e2,zr_app,zr_app]
  rcases hr s (h1 _ (List.mem_cons_self ..)) (fun i hi=>h2 i (List.mem_append_left _ hi))with h|h
  ·rw[h]at h3⊢
   exact zr_rpl F T hT hf e m [] (fun x hx=>h1 x (List.mem_cons_of_mem _ hx)) (fun j hj=>h2 j (List.mem_append_right s.sec hj)) h3
  ·rw[h,zr_no]at h3;exact absurd rfl h3
 |.sp s n::m,a::ps,h1,h2,h3=>by
  obtain⟨i,t,e3,_⟩:=spec_head (show IsSpec s from h1 _ (List.mem_cons_self ..))
  have e1:flat (its (.sp s n::m++[.keep e]))=flat s.sec++flat (its (m++[.keep e])):=by
   show flat (s.sec++its (m++[.keep e]))=_
   rw[flat_app]
  have e2:flat (its (rpl F (.sp s n::m++[.keep e]) (a::ps)))=(gapOf s++T a)++flat (its (rpl F (m++[.keep e]) ps)):=by
   show flat ((F (gapOf s) a).sec++its (rpl F (m++[.keep e]) ps))=_
   rw[flat_app,hT]
  have hg:gapOf s=i.gap:=by unfold gapOf;rw[e3];rfl
  have hraw:∀j∈s.sec,Raw j:=fun j hj=>h2 j (List.mem_append_left _ hj)
  rw[e1,zr_app]at h3
  rw[e1,e2,zr_app .ok (gapOf s++T a),zr_app .ok (flat s.sec)]
  rcases zr_items s.sec (by rw[e3];simp) hraw .ok with h|h
  ·have hput:zr .ok (gapOf s++T a)=.ok:=by
    rw[zr_app]
    refine zr_put _ (hf a).2 (hf a).1 ?_
    obtain⟨c,x,er,hb⟩:=raw_first (hraw i (by rw[e3];simp))
    have e4:flat s.sec=i.gap++(c::(x++flat t)):=by rw[e3,flat_cons];unfold It.b;rw[er];simp
    rw[e4,zr_app]at h
    rw[hg]
    generalize zr .ok i.gap=y at h
    cases y
    ·exact .inl rfl
    ·exact .inr rfl
    ·exfalso
     change zr (zs .need c) _=_ at h
     have:zs .need c=.no:=by simp[zs,hb]
     rw[this,zr_no]at h;cases h
    ·rw[zr_no]at h;cases h
   rw[h]at h3⊢
   rw[hput]
   exact zr_rpl F T hT hf e m ps (fun x hx=>h1 x (List.mem_cons_of_mem _ hx)) (fun j hj=>h2 j (List.mem_append_right s.sec hj)) h3
  ·rw[h,zr_no]at h3;exact absurd rfl h3
theorem shownP_fine{p:Pt}(h:Good p):shownP p≠[]∧∀b∈shownP p,b≠13∧b≠10:=by
 have hd:p.dom.isEmpty=false:=by
  cases hd:p.dom with
  |nil=>exact absurd hd h.dn
  |cons=>rfl
 have e:shownP p=formP p.loc++[64]++domP p:=by
  unfold shownP
  rw[h.nn,if_neg (by decide),hd,Bool.and_false,if_neg (by decide)]
 rw[e]
 have hodd:∀b∈p.loc,b≠13∧b≠10:=fun b hb=>odd_fine b (h.loc.2 b hb)
 refine⟨by simp,fun b hb=> ?_⟩
 rcases List.mem_append.1 hb with hb|hb
 ·rcases List.mem_append.1 hb with hb|hb
  ·unfold formP at hb
   split at hb
   ·exact hodd b hb
   ·rcases List.mem_cons.1 hb with rfl|hb
    ·decide
    ·rcases List.mem_append.1 hb with hb|hb
     ·obtain⟨c,hc,hb⟩:=List.mem_flatMap.1 hb
      unfold esc at hb
      split at hb
      ·rcases List.mem_cons.1 hb with rfl|hb
       ·decide
       ·rw[List.mem_singleton.1 hb];exact hodd c hc
      ·rw[List.mem_singleton.1 hb];exact hodd c hc
     ·rw[List.mem_singleton.1 hb];decide
  ·rw[List.mem_singleton.1 hb];decide
 ·cases hl:p.lit with
  |true=>
   rw[litP p hl]at hb
   rcases List.mem_cons.1 hb with rfl|hb
   ·decide
   ·rcases List.mem_append.1 hb with hb|hb
    ·exact in_fine b (lit_in h hl b hb)
    ·rw[List.mem_singleton.1 hb];decide
  |false=>
   have e:domP p=p.dom:=by unfold domP;rw[hl,if_neg (by decide)]
   rw[e]at hb
   have hn:=named_ok (h.nam hl).1
   cases hs:splitL 46 p.dom with
   |nil=>exact absurd hs (splitL_ne 46 _)
   |cons q qs=>
    rw[hs]at hn
    rw[split_join 46 p.dom q qs hs]at hb
    rcases List.mem_append.1 hb with hb|hb
    ·exact(at_fine b ((hn q (by simp)).2 b hb)).1
    ·obtain⟨x,hx,hb⟩:=List.mem_flatMap.1 hb
     rcases List.mem_cons.1 hb with rfl|hb
     ·decide
     ·exact(at_fine b ((hn x (by simp[hx])).2 b hb)).1
theorem replace_cl{body:List UInt8}{ps:List Pt}{t:List UInt8}(h:replaceQ body ps=(t,0))(hc:Cl body):Cl t:=by
 obtain⟨l,hp,hl,hg⟩:=replace_ok (by rw[h])
 obtain⟨hb,L,hr,hm,h200⟩:=parse_ok hp
 obtain⟨m,hR,rfl⟩:=read_sound body L hr
 obtain⟨rfl,-⟩:=mails_ok _ l hm
 have hll:(spsOf 0 m).length=ps.length:=by rw[←hl,List.length_map]
 have e1:replaceQ body ps=replF body 0 [] ((spsOf 0 m).map fun x=>⟨(addrOf x.loc x.dom).1,x.from_,x.til,x.name⟩) ps:=by
  unfold replaceQ
  rw[hp]
  simp only
  rw[if_neg (by simp),if_neg (by rw[List.length_map];omega)]
 rw[e1,replF_eq body _ ps 0 [] hg hll,List.nil_append]at h
 by_cases h6:65536<(replL shownP body 0 (spsOf 0 m) ps).length
 ·rw[if_pos h6]at h;cases h
 ·rw[if_neg h6]at h
  have ht:t=replL shownP body 0 (spsOf 0 m) ps:=(congrArg Prod.fst h).symm
  have hqs:∃qs:List {p:Pt//Good p},qs.map (·.1)=ps:=by
   clear e1 h6 hl hll h ht
   induction ps with
   |nil=>exact⟨[],rfl⟩
   |cons p ps ih=>
    obtain⟨qs,e⟩:=ih fun q hq=>hg q (List.mem_cons_of_mem _ hq)
    exact⟨⟨p,hg p (List.mem_cons_self ..)⟩::qs,by rw[List.map_cons,e]⟩
  obtain⟨qs,rfl⟩:=hqs
  rw[List.length_map]at hll
  have hrep:∀(L:List Sp) (at_:Nat) (qs:List {p:Pt//Good p}),L.length=qs.length→replL shownP body at_ L (qs.map (·.1))=replL (fun a:{p:Pt//Good p}=>shownP a.1) body at_ L qs:=by
   intro L
   induction L with
   |nil=>intro at_ qs h;cases qs with
    |nil=>rfl
    |cons=>simp at h
   |cons x L ih=>intro at_ qs h;cases qs with
    |nil=>simp at h
    |cons q qs=>rw[List.map_cons,replL,replL,ih _ qs (by simpa using h)]
  have h1:=rpl_text (fun g (a:{p:Pt//Good p})=>putP g a.1) (fun a=>shownP a.1) (fun g a=>putP_flat g a.2) m qs [] [] body 0 0 (body_ok hR.gr) rfl rfl (by rw[List.nil_append];exact hR.tx) hll
  rw[List.nil_append]at h1
  rw[hrep _ _ _ hll,h1]at ht
  obtain⟨m',e,rfl,he,htk⟩:=hR.tk
  have hok:=body_ok hR.gr
  have h2:=zr_rpl (fun g (a:{p:Pt//Good p})=>putP g a.1) (fun a=>shownP a.1) (fun g a=>putP_flat g a.2) (fun a=>shownP_fine a.2) e m' qs (fun x hx=>hok x (by simp[hx])) (fun i hi=>(htk i hi).r) (by
   rw[←hR.tx];unfold Cl at hc;intro hh;rw[hh]at hc;rcases hc with hc|hc<;>cases hc)
  unfold Cl
  rw[ht,h2,←hR.tx]
  exact hc
end Go.Proofs.YtmlmkmhkmifnkaaGreatDoor.Ma