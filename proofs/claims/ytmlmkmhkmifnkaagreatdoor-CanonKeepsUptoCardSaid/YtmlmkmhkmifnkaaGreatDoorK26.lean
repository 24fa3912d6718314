import Derived.Test.YtmlmkmhkmifnkaaGreatDoorK25
import Derived.Laws.OwnMore
set_option maxHeartbeats 16000000
set_option maxRecDepth 1000000
namespace Go.Proofs.YtmlmkmhkmifnkaaGreatDoor.Hs
open Go.RowKit
open Ci (hid Bel own_bel own_base row_shape addr_add)
def fdC(f:Fd):List Value:=[.string ⟨f.nm.toArray⟩,.string ⟨f.bd.toArray⟩,.int .i64 f.fr,.int .i64 f.tt]
def fdCs(l:List Fd):List Value:=l.flatMap fdC
def Fds(a W:World)(v:Value)(l:List Fd):Prop:=W.ownsRow a.heap.size 55 4 v l.length (fdCs l)
theorem Fds.next{a W W':World}{v:Value}{l:List Fd}(h:Fds a W v l)(hb:Bel W W'):Fds a W' v l:=own_bel h hb
theorem fds_nil(a W:World):Fds a W (.slice none 0 0) []:=⟨rfl,.inl ⟨rfl,rfl⟩⟩
theorem fd_infos:(Tryz.prog.info? 55).map (fun i=>(i.zero,i.size,i.bytes))=some (some (.agg #[.string ⟨#[]⟩,.string ⟨#[]⟩,.int .i64 0,.int .i64 0]),4,48):=by kernel_rfl
theorem fd_one(f:Fd):∀u∈fdC f,u.oneCell'=true:=fun u hu=>by
 simp only[fdC,List.mem_cons,List.not_mem_nil,or_false]at hu
 rcases hu with rfl|rfl|rfl|rfl<;>rfl
theorem fdCs_len(l:List Fd):(fdCs l).length=l.length*4:=by
 induction l with
 |nil=>rfl
 |cons f l ih=>show(fdC f++fdCs l).length=_;rw[List.length_append,ih,List.length_cons];simp[fdC];omega
theorem fdCs_app(a b:List Fd):fdCs (a++b)=fdCs a++fdCs b:=by unfold fdCs;rw[List.flatMap_append]
theorem append_fd(w:World)(base:Nat)(v:Value)(l:List Fd)(x:Fd)(hown:w.ownsRow base 55 4 v l.length (fdCs l))(hl:l.length≤4294967296)(hb:base≤w.heap.size):
 ∃v' w',(Builtin.append_ #[51,51] 51 #[v,.slice (some ⟨w.heap.size,0,none⟩) 1 1]).run Tryz.prog (w.alloc (.cells (fdC x).toArray 55))=.ok v' w'∧w'.ownsRow base 55 4 v' (l++[x]).length (fdCs (l++[x]))∧(w.alloc (.cells (fdC x).toArray 55)).grownBy w' v.ownBlock:=by
 obtain⟨i,hi,j2,j3,j4⟩:=info_parts fd_infos
 obtain⟨v',w',h⟩:=run_append_own (P:=Tryz.prog) (w.alloc (.cells (fdC x).toArray 55)) base 51 51 55 i _ 4 48 Tryz.underlying51 hi j2 j3 j4 rfl (by decide) v l.length (fdCs l) (hown.alloc _) ⟨w.heap.size,0,none⟩ 1 1 (fdC x) rfl
  (fun j u hu=>by
    rw[addr_add,Nat.zero_add]
    have e:=heap_alloc_new w (.cells (fdC x).toArray 55)
    simp only[World.cell?,e]
    simpa using hu) (fd_one x) (by unfold maxLen;omega) (by omega) (by rw[World.size_alloc];omega)
 refine⟨v',w',h.1,?_,h.2.2.1⟩
 rw[List.length_append,fdCs_app]
 have:fdCs [x]=fdC x:=by simp[fdCs]
 rw[this]
 exact h.2.1
def lastTo(l:List Fd):Nat:=(l.getLast?.map Fd.tt).getD 0
def tooI(l:List Fd):Int:=if 65536<lastTo l then 111 else if 1000<l.length then 112 else 0
theorem lastTo_snoc(A:List Fd)(f:Fd):lastTo (A++[f])=f.tt:=by unfold lastTo;simp
theorem fds_cell{a W:World}{g cp:Nat}{A:List Fd}{f:Fd}(h:Fds a W (.slice (some ⟨g,0,none⟩) (A++[f]).length cp) (A++[f]))(j:Nat)(v:Value)(hj:(fdC f)[j]?=some v):W.cell? ⟨g,A.length*4+j,none⟩=some v:=by
 have hj4:j<4:=by
  have:=(List.getElem?_eq_some_iff.1 hj).1
  exact this
 rw[World.ownsRow.cellAt h (A.length*4+j) (by rw[List.length_append];simp;omega),fdCs_app,List.getElem?_append_right (by rw[fdCs_len];omega),fdCs_len]
 have:A.length*4+j-A.length*4=j:=by omega
 rw[this]
 have:fdCs [f]=fdC f:=by simp[fdCs]
 rw[this];exact hj
theorem fds_at{a W:World}{v:Value}{l:List Fd}(h:Fds a W v l)(hne:l≠[]):∃g cp,v=.slice (some ⟨g,0,none⟩) l.length cp∧l.length≤cp∧a.heap.size≤g:=by
 rcases h.2 with⟨rfl,h0⟩|⟨g,cap,cur,rfl,h1,-,h2,-⟩
 ·exact absurd (List.length_eq_zero_iff.mp h0) hne
 ·exact⟨g,cap,rfl,h2,h1⟩
theorem rchecked_run(a0:World)(v:Value)(l:List Fd)(b:Nat)(w:World)(hl:l.length≤4294967296)(h:Fds a0 w v l):Calls Tryz.prog 61 #[v,.int .i64 b] w fun e w'=>e=.returned (if tooI l=0 then .tuple #[v,.int .i64 b,.int .i64 0]else .tuple #[.slice none 0 0,.int .i64 0,.int .i64 (tooI l)])∧w'=w:=by
 by_cases hne:l=[]
 ·subst hne
  obtain⟨x,cp,rfl,-,-⟩:=row_shape h
  go_enter Tryz.func61,Tryz.ntmps61
  go_wp2_with fail
  go_ret3
  exact⟨rfl,rfl⟩
 ·obtain⟨g,cp,rfl,hcp,-⟩:=fds_at h hne
  obtain⟨A,f,rfl⟩:∃A f,l=A++[f]:=by
   rcases List.eq_nil_or_concat l with e|⟨A,f,e⟩
   ·exact absurd e hne
   ·exact⟨A,f,by rw[e,List.concat_eq_append]⟩
  have h3:=fds_cell h 3 _ rfl
  have hto:=hid (lastTo_snoc A f)
  have hlen:(A++[f]).length=A.length+1:=by simp
  have HL:=hid hlen
  rw[hlen]at hl hcp⊢
  obtain⟨R,hT⟩:∃R,R=(if tooI (A++[f])=0 then Value.tuple #[.slice (some ⟨g,0,none⟩) (A.length+1) cp,.int .i64 b,.int .i64 0]else Value.tuple #[.slice none 0 0,.int .i64 0,.int .i64 (tooI (A++[f]))]):=⟨_,rfl⟩
  have HT:=hid hT
  rw[←hT]
  obtain⟨n,hn⟩:∃n,n=A.length:=⟨_,rfl⟩
  rw[←hn]at h3 hl hcp⊢
  have HN:=hid hn
  obtain⟨tt,ht⟩:∃tt,tt=f.tt:=⟨_,rfl⟩
  rw[←ht]at h3
  have HTO:=hid (hto.out.trans ht.symm)
  clear hT hto hlen hn ht h hne
  have b0:decide (((n+1:Nat):Int)>0)=true:=decide_eq_true (by omega)
  have hi:(((n+1:Nat):Int)-1)=(n:Int):=by omega
  by_cases h1:65536<tt
  ·have b1:decide ((tt:Int)>65536)=true:=decide_eq_true (by omega)
   have HV:=hid (show R=.tuple #[.slice none 0 0,.int .i64 0,.int .i64 111] by
    rw[HT.out]
    have:tooI (A++[f])=111:=by unfold tooI;rw[HTO.out,if_pos h1]
    rw[this];rfl)
   go_enter Tryz.func61,Tryz.ntmps61
   go_wp2_with fail
   go_ret3
   exact⟨by rw[HV.out];rfl,rfl⟩
  ·have b1:decide ((tt:Int)>65536)=false:=decide_eq_false (by omega)
   by_cases h2:1000<n+1
   ·have b2:decide (((n+1:Nat):Int)>1000)=true:=decide_eq_true (by omega)
    have HV:=hid (show R=.tuple #[.slice none 0 0,.int .i64 0,.int .i64 112] by
     rw[HT.out]
     have:tooI (A++[f])=112:=by unfold tooI;rw[HTO.out,if_neg h1,HL.out,←HN.out,if_pos h2]
     rw[this];rfl)
    go_enter Tryz.func61,Tryz.ntmps61
    go_wp2_with fail
    go_ret3
    exact⟨by rw[HV.out];rfl,rfl⟩
   ·have b2:decide (((n+1:Nat):Int)>1000)=false:=decide_eq_false (by omega)
    have HV:=hid (show R=.tuple #[.slice (some ⟨g,0,none⟩) (n+1) cp,.int .i64 b,.int .i64 0] by
     rw[HT.out]
     have:tooI (A++[f])=0:=by unfold tooI;rw[HTO.out,if_neg h1,HL.out,←HN.out,if_neg h2]
     rw[this,HN.out];rfl)
    go_enter Tryz.func61,Tryz.ntmps61
    go_wp2_with fail
    go_ret3
    exact⟨by rw[HV.out];rfl,rfl⟩
end Go.Proofs.YtmlmkmhkmifnkaaGreatDoor.Hs
namespace Go.Proofs.YtmlmkmhkmifnkaaGreatDoor.Hs
open Go.RowKit
open Ci (hid Bel own_bel own_base row_shape addr_add)
open Ma (step_append_run)
theorem bs_sub{W:World}{b o:Nat}{l:List UInt8}(hc:∀i (h:i<l.length),W.cell? ⟨b,o+i,none⟩=some (.int .u8 (l[i].toNat:Int)))(k m:Nat):Bs W (some ⟨b,o+k,none⟩) ((l.drop k).take m):=fun _=>
 ⟨b,o+k,rfl,fun i hi=>by
  have h1:i<l.length-k:=by rw[List.length_take,List.length_drop]at hi;omega
  have:=hc (k+i) (by omega)
  rw[Nat.add_assoc,this];simp⟩
theorem colI_some{l:List UInt8}(h:0<colI l):∃c,nameN l=some c∧colI l=(c:Int):=by
 unfold colI at h⊢
 cases hn:nameN l with
 |none=>rw[hn]at h;simp at h
 |some c=>exact⟨c,rfl,rfl⟩
theorem colI_not{l:List UInt8}(h:¬0<colI l):nameN l=none:=by
 unfold colI at h
 cases hn:nameN l with
 |none=>rfl
 |some c=>
  rw[hn]at h
  obtain⟨nm,bd,-,e2,e3,-⟩:=name_split hn
  have:0<nm.length:=List.length_pos_iff.mpr e3
  exact absurd (show(0:Int)<(c:Int) by omega) h
theorem Inv.zero(d:List UInt8):Inv d 0 [] [] d:=⟨rfl,rfl,rfl,fun _ h=>(List.not_mem_nil h).elim,fun A s B e=>by cases A<;>cases e⟩
theorem Inv.last{d:List UInt8}{at_:Nat}{A:List Fd}{f:Fd}{S:List Sg}{r:List UInt8}(h:Inv d at_ (A++[f]) S r):f.fr+f.nm.length+1≤at_:=by
 rcases List.eq_nil_or_concat S with rfl|⟨B,s,rfl⟩
 ·have:=h.out;simp[fds]at this
 ·rw[List.concat_eq_append]at h
  have e:=h.out
  rw[fds_app]at e
  have e2:=List.append_inj' e rfl
  have e3:f=⟨s.nm,s.bd,0+(fl B).length,0+(fl B).length+s.b.length⟩:=by simpa[fds]using e2.2
  have e4:=h.at_
  rw[fl_one,List.length_append,s.len]at e4
  rw[e3]
  show 0+(fl B).length+s.nm.length+1≤at_
  omega
theorem extl_snoc(d:List UInt8)(A:List Fd)(f:Fd)(e X:Nat):extl d (A++[f]) e X=A++[⟨f.nm,(d.drop (f.fr+f.nm.length+1)).take (e-(f.fr+f.nm.length+1)),f.fr,X⟩]:=by
 unfold extl
 simp only[List.getLast?_append,List.getLast?_singleton,Option.some_or,List.dropLast_concat]
 rw[List.drop_take]
theorem fds_ext{a W:World}{g cp n:Nat}{A:List Fd}{f:Fd}(h:Fds a W (.slice (some ⟨g,0,none⟩) (n+1) cp) (A++[f]))(hn:A.length=n)(X:Nat)(s:List UInt8):
 Fds a ((W.setCell ⟨g,n*4+3,none⟩ (.int .i64 X)).setCell ⟨g,n*4+1,none⟩ (.string ⟨s.toArray⟩)).drew (.slice (some ⟨g,0,none⟩) (n+1) cp) (A++[⟨f.nm,s,f.fr,X⟩]):=by
 have hl:(A++[f]).length=n+1:=by simp[hn]
 have hl2:(A++[(⟨f.nm,s,f.fr,X⟩:Fd)]).length=n+1:=by simp[hn]
 unfold Fds at h⊢
 rw[hl]at h
 rw[hl2]
 have h1:=(World.ownsRow.stored h (n*4+3) (.int .i64 X)).1
 have h2:=(World.ownsRow.stored h1 (n*4+1) (.string ⟨s.toArray⟩)).1
 have e:((fdCs (A++[f])).set (n*4+3) (.int .i64 X)).set (n*4+1) (.string ⟨s.toArray⟩)=fdCs (A++[⟨f.nm,s,f.fr,X⟩]):=by
  have hA:(fdCs A).length=n*4:=by rw[fdCs_len,hn]
  have e1:∀x:Fd,fdCs [x]=fdC x:=fun x=>by simp[fdCs]
  rw[fdCs_app,fdCs_app,e1,e1,List.set_append,if_neg (by omega),List.set_append,if_neg (by omega),hA]
  have e2:n*4+3-n*4=3:=by omega
  have e3:n*4+1-n*4=1:=by omega
  rw[e2,e3]
  rfl
 rw[e]at h2
 exact h2.drew
theorem fl_len_le:∀(S:List Sg),S.length≤(fl S).length
 |[]=>Nat.le_refl _
 |s::S=>by
  have:=fl_len_le S
  show S.length+1≤(s.b++fl S).length
  rw[List.length_append,s.len];omega
theorem rsplit_run(p:Option Addr)(l:List UInt8)(c:Nat)(w:World)(hb:Bs w p l)(hs:l.length<4294967281)(hcap:l.length≤c)(hc63:c≤9223372036854775807):
 Calls Tryz.prog 23 #[.slice p l.length c] w fun e w'=>∃v,e=.returned (if tooI (spl l (l.length+1) 0 []).1=0 then .tuple #[v,.int .i64 ((spl l (l.length+1) 0 []).2:Int),.int .i64 0]else .tuple #[.slice none 0 0,.int .i64 0,.int .i64 (tooI (spl l (l.length+1) 0 []).1)])∧Bel w w'∧Fds w w' v (spl l (l.length+1) 0 []).1:=by
 have HB:=hid hb
 have HF:=hid (show∀S r,Dec l S r→spl l (l.length+1) 0 []=(fds 0 S,(fl S).length+stopAt r)from fun S r h=>splits_of h)
 obtain⟨F,hF⟩:∃F,F=(spl l (l.length+1) 0 []).1:=⟨_,rfl⟩
 obtain⟨B,hB⟩:∃B,B=(spl l (l.length+1) 0 []).2:=⟨_,rfl⟩
 have HG:=hid (show∀S r,Dec l S r→F=fds 0 S∧B=(fl S).length+stopAt r from fun S r h=>by rw[hF,hB,HF.out S r h];exact⟨rfl,rfl⟩)
 rw[←hF,←hB]
 clear hF hB HF hb
 obtain⟨R,hR⟩:∃R:Value→Value,∀v,R v=(if tooI F=0 then .tuple #[v,.int .i64 (B:Int),.int .i64 0]else .tuple #[.slice none 0 0,.int .i64 0,.int .i64 (tooI F)]):=⟨_,fun _=>rfl⟩
 have HR:=hid hR
 refine Calls.mono (R:=fun e w'=>∃v,e=.returned (R v)∧Bel w w'∧Fds w w' v F) ?_ fun e w' ⟨v,he,h⟩=>⟨v,by rw[he,hR],h⟩
 clear hR
 go_enter Tryz.func23,Tryz.ntmps23
 go_wp2_with fail
 go_loopg [5,6] l.length (fun gg v5 v6 wr=>∃at_:Nat,v6=.int .i64 at_∧at_+gg=l.length∧Hid (Bel w wr∧∃out S r,Fds w wr v5 out∧Inv l at_ out S r))
 case atStart=>exact⟨0,rfl,by omega,hid ⟨Bel.refl w,[],[],l,fds_nil _ _,Inv.zero l⟩⟩
 case round=>
  obtain⟨at_,rfl,hk,H⟩:=hrel
  have HK:=hid hk
  have hkn:at_≤l.length:=by omega
  clear hk
  obtain⟨hbel,out,S,r,hfd,hinv⟩:=H.out
  have HBel:=hid hbel
  have HFd:=hid hfd
  have HI:=hid hinv
  have hol:out.length≤at_:=by rw[hinv.out,fds_len,hinv.at_];exact fl_len_le S
  obtain⟨xo,co,hvo,hco,hco63⟩:=row_shape hfd
  clear hbel hfd hinv H
  subst hvo
  by_cases hlt:at_<l.length
  ·have b0:decide ((at_:Int)<(l.length:Int))=true:=decide_eq_true (by omega)
   obtain⟨b,o,rfl,hc⟩:=(HB.out.next HBel.out) (by omega)
   have h0:=hc at_ hlt
   have HRL:=hid (rline_run (some ⟨b,o,none⟩) l c at_ wr (fun _=>⟨b,o,rfl,hc⟩) (by omega) hkn)
   obtain⟨N,hN⟩:∃N,N=at_+lineN (l.drop at_):=⟨_,rfl⟩
   obtain⟨X,hX⟩:∃X,X=at_+nextN (l.drop at_):=⟨_,rfl⟩
   rw[←hN,←hX]at HRL
   have hNl:N≤l.length:=by have:=lineN_le (l.drop at_);rw[List.length_drop]at this;omega
   have hXl:X≤l.length:=by have:=next_le (l.drop at_);rw[List.length_drop]at this;omega
   have hN1:at_≤N:=by omega
   have hX1:at_<X:=by have:=next_pos (r:=l.drop at_) (fun e=>by have:=congrArg List.length e;rw[List.length_drop]at this;simp at this;omega);omega
   have hn:lineN (l.drop at_)=N-at_:=by omega
   have hlen:((l.drop at_).take (N-at_)).length=N-at_:=by rw[List.length_take,List.length_drop];omega
   have hcol:=rcolon_run (some ⟨b,o+at_,none⟩) ((l.drop at_).take (N-at_)) (c-at_) wr (bs_sub hc at_ (N-at_)) (by rw[hlen];omega) (by rw[hlen];omega)
   rw[hlen]at hcol
   have HCol:=hid hcol
   obtain⟨C,hC⟩:∃C,C=colI ((l.drop at_).take (N-at_)):=⟨_,rfl⟩
   rw[←hC]at HCol
   have HX:=hid (And.intro hC (And.intro hN hX))
   clear hC hcol hlen hn hN hX
   go_upto_region 12 with(first|(go_at_call 58;refine HRL.out.mono ?_;rintro _ w1 ⟨rfl,hw⟩;have hw:=hw.symm;subst hw)|(go_at_call 59;refine HCol.out.mono ?_;rintro _ w2 ⟨rfl,hw⟩;have hw:=hw.symm;subst hw))
   obtain⟨x,hx⟩:∃x,x=l[at_]'hlt:=⟨_,rfl⟩
   rw[←hx]at h0
   have HC:=hid hc
   clear hc
   have HXX:=hid (show x=(l.drop at_).headD 0 by rw[drop_at hlt];exact hx)
   clear hx
   have HBl:=hid (rblank_run x wr)
   obtain⟨q,hq⟩:∃q,q=decide (out≠[]∧at_<N∧blk x=true):=⟨_,rfl⟩
   have HQ:=hid hq
   clear hq
   go_cut [41]from 12 to 106 (fun v41 wx=>v41=.bool q∧wx=wr)
   case first=>
    by_cases h1:at_<N
    ·have b1:decide ((N:Int)>(at_:Int))=true:=decide_eq_true (by omega)
     obtain⟨y,hy⟩:∃y,y=blk x:=⟨_,rfl⟩
     rw[←hy]at HBl HQ
     clear hy
     cases y with
     |true=>
      by_cases h2:out=[]
      ·have HB2:=hid (show decide (1≤(out.length:Int))=false from decide_eq_false (by rw[h2];decide))
       have HV:=hid (show q=false by rw[HQ.out];simp[h2])
       clear h2
       go_wp2_with (go_at_call 60;refine HBl.out.mono ?_;rintro _ w2 ⟨rfl,hw⟩;have hw:=hw.symm;subst hw)
       go_meet
       case rel=>exact⟨by rw[HV.out,HB2.out],rfl⟩
      ·have hpos:0<out.length:=List.length_pos_iff.mpr h2
       have HB2:=hid (show decide (1≤(out.length:Int))=true from decide_eq_true (by omega))
       have HV:=hid (show q=true by rw[HQ.out];simp[h2,h1])
       clear h2
       go_wp2_with (go_at_call 60;refine HBl.out.mono ?_;rintro _ w2 ⟨rfl,hw⟩;have hw:=hw.symm;subst hw)
       go_meet
       case rel=>exact⟨by rw[HV.out,HB2.out],rfl⟩
     |false=>
      have HV:=hid (show q=false by rw[HQ.out];simp)
      go_wp2_with (go_at_call 60;refine HBl.out.mono ?_;rintro _ w2 ⟨rfl,hw⟩;have hw:=hw.symm;subst hw)
      go_meet
      case rel=>exact⟨by rw[HV.out],rfl⟩
    ·have b1:decide ((N:Int)>(at_:Int))=false:=decide_eq_false (by omega)
     have HV:=hid (show q=false by rw[HQ.out];simp[h1])
     go_wp2_with fail
     go_meet
     case rel=>exact⟨by rw[HV.out],rfl⟩
   case rest=>
    obtain⟨rfl,hw⟩:=hcut
    have hw:=hw.symm
    subst hw
    cases q with
    |true=>
     have hq:=of_decide_eq_true HQ.out.symm
     have hfd:=HFd.out
     obtain⟨g,cp,hv,-,hg⟩:=fds_at hfd hq.1
     cases hv
     obtain⟨A,f,hout⟩:∃A f,out=A++[f]:=by
      rcases List.eq_nil_or_concat out with e|⟨A,f,e⟩
      ·exact absurd e hq.1
      ·exact⟨A,f,by rw[e,List.concat_eq_append]⟩
     obtain⟨n,hn⟩:∃n,n=A.length:=⟨_,rfl⟩
     have hol2:out.length=n+1:=by rw[hout,hn];simp
     have hI:=HI.out
     have hdr:=hI.drop
     obtain⟨S',r',hi'⟩:=hI.cont (by rw[←hdr];exact fun e=>by have:=congrArg List.length e;rw[List.length_drop]at this;simp at this;omega) hq.1 (by have:=HX.out.2.1;rw[←hdr];omega) (by rw[←hdr,←HXX.out];exact hq.2.2)
     rw[←hdr,←HX.out.2.1,←HX.out.2.2,hout,extl_snoc]at hi'
     rw[hout]at hI hfd
     have hlast:=hI.last
     have c2:=fds_cell hfd 2 _ rfl
     have c0:=fds_cell hfd 0 _ rfl
     have c1:=fds_cell hfd 1 _ rfl
     have c3:=fds_cell hfd 3 _ rfl
     have HFd2:=hid (fds_ext (n:=n) (by rw[←hol2,hout];exact hfd) hn.symm X ((l.drop (f.fr+f.nm.length+1)).take (N-(f.fr+f.nm.length+1))))
     have HI2:=hid hi'
     have HBe:Hid (∀u v,Bel w ((wr.setCell ⟨g,n*4+3,none⟩ u).setCell ⟨g,n*4+1,none⟩ v).drew):=hid fun u v=>((HBel.out.setCell hg u).setCell hg v).drew
     rw[←hn]at c2 c0 c1 c3
     obtain⟨nb,hnb⟩:∃nb:ByteArray,nb=⟨f.nm.toArray⟩:=⟨_,rfl⟩
     have hnz:nb.size=f.nm.length:=by rw[hnb];exact List.size_toArray ..
     obtain⟨m,hm⟩:∃m,m=f.fr+f.nm.length+1:=⟨_,rfl⟩
     obtain⟨fr,hfr⟩:∃fr,fr=f.fr:=⟨_,rfl⟩
     have hme:m=fr+nb.size+1:=by rw[hm,hfr,hnz]
     rw[←hnb]at c0
     have c0:wr.cell? ⟨g,n*4,none⟩=some (.string nb):=c0
     rw[←hfr]at c2
     rw[←hm]at HFd2 HI2
     have hmN:m≤N:=by omega
     have hlen2:((l.drop m).take (N-m)).length=N-m:=by rw[List.length_take,List.length_drop];omega
     have hcv:∀W,Bel w W→(convert 48 9 (.slice (some ⟨b,o+m,none⟩) (N-m) (c-m))).run Tryz.prog W=.ok (.string ⟨((l.drop m).take (N-m)).toArray⟩) W:=fun W hW=>by
      obtain⟨b',o',e,hc'⟩:=(HB.out.next hW) (by omega)
      cases e
      have:=conv_bs (bs_sub hc' m (N-m)) (c-m)
      rw[hlen2]at this
      exact this
     have hcv1:=hcv (wr.setCell ⟨g,n*4+3,none⟩ (.int .i64 X)).drew ((HBel.out.setCell hg (.int .i64 X)).drew)
     obtain⟨sb,hsb⟩:∃sb:ByteArray,sb=⟨((l.drop m).take (N-m)).toArray⟩:=⟨_,rfl⟩
     rw[←hsb]at hcv1 HFd2
     have hmc:m<c:=by omega
     have hol3:=hid hol2.symm
     rw[hol2]
     have hgf:∀j,wr.frozen? ⟨g,j,none⟩=false:=fun j=>World.ownsRow.frozenAt HFd.out j
     have hXm:=hid hX1
     have i1:(n:Int)<(n:Int)+1:=by omega
     have i2:(fr:Int)+(nb.size:Int)+1=(m:Int):=by omega
     have i3:(m:Int)≤(N:Int):=by omega
     have i5:IntKind.i64.wrap ((fr:Int)+(nb.size:Int))=(fr:Int)+(nb.size:Int):=IntWalk.i64_in _ (by omega)
     have i6:IntKind.i64.wrap (m:Int)=(m:Int):=IntWalk.i64_in _ (by omega)
     have i7:¬c=m:=by omega
     have i4:(N:Int)≤(c:Int):=by omega
     clear hnz hcv hlen2 hm hfr hnb hsb hi' hI hdr hfd hq hlast hn hme
     go_upto_region 14 with fail
     go_region_law (fail)
     all_goals
      go_wp2_with fail
      go_roundg (l.length-X)
      case measure=>have:=HK.out;have:=hXm.out;omega
      case rel=>exact⟨X,by go_num,by omega,hid ⟨HBe.out _ _,_,S',r',hol3.out▸HFd2.out,HI2.out⟩⟩
    |false=>
     have hq:=of_decide_eq_false HQ.out.symm
     by_cases hC0:0<C
     ·have b1:=hC0
      obtain⟨c',hnm,hc'⟩:=colI_some (l:=(l.drop at_).take (N-at_)) (by rw[←HX.out.1];exact hC0)
      rw[←HX.out.1]at hc'
      subst hc'
      have hc0:0<c':=by omega
      clear b1
      have hI:=HI.out
      have hdr:=hI.drop
      have hn:lineN (l.drop at_)=N-at_:=by have:=HX.out.2.1;omega
      have hne:l.drop at_≠[]:=fun e=>by have:=congrArg List.length e;rw[List.length_drop]at this;simp at this;omega
      have hcl:c'<N-at_:=by
       obtain⟨nm,bd,e1,e2,-⟩:=name_split hnm
       have:=congrArg List.length e1
       rw[List.length_take,List.length_drop]at this
       simp at this;omega
      obtain⟨s,r',hi'⟩:=hI.field (c:=c') (by rw[←hdr];exact hne) (by rw[←hdr,hn];exact hnm)
      rw[←hdr,hn,←HX.out.2.2]at hi'
      obtain⟨m,hm⟩:∃m,m=at_+c':=⟨_,rfl⟩
      have hbd:((l.drop at_).take (N-at_)).drop (c'+1)=(l.drop (m+1)).take (N-(m+1)):=by
       rw[List.drop_take,List.drop_drop,hm]
       congr 1;omega
      have hnmE:(l.drop at_).take c'=(l.drop at_).take (m-at_):=by congr 1;omega
      rw[hbd,hnmE]at hi'
      have HI2:=hid hi'
      have l1:((l.drop at_).take (m-at_)).length=m-at_:=by rw[List.length_take,List.length_drop];omega
      have l2:((l.drop (m+1)).take (N-(m+1))).length=N-(m+1):=by rw[List.length_take,List.length_drop];omega
      have hc:=HC.out
      have hcd:∀i (h:i<l.length),wr.drew.cell? ⟨b,o+i,none⟩=some (.int .u8 (l[i].toNat:Int)):=hc
      have cv1:=conv_bs (bs_sub hcd at_ (m-at_)) (c-at_)
      rw[l1]at cv1
      have cv2:=conv_bs (bs_sub hcd (m+1) (N-(m+1))) (c-(m+1))
      rw[l2]at cv2
      have cv3:=conv_bs (show Bs wr.drew (some ⟨b,o,none⟩) []from fun h=>absurd h (Nat.lt_irrefl 0)) 0
      obtain⟨res,w',hr,ho',hg'⟩:=append_fd wr.drew w.heap.size (.slice xo out.length co) out ⟨(l.drop at_).take (m-at_),(l.drop (m+1)).take (N-(m+1)),at_,X⟩ (HFd.out.drew) (by omega) (by exact HBel.out.size)
      have hbw:Bel w w':=Bel.grown ((HBel.out.drew).alloc _) hg' (HFd.out.drew.alloc _)
      obtain⟨xv,cvv,hres,-,-⟩:=row_shape ho'
      subst hres
      obtain⟨nb,hnb⟩:∃nb:ByteArray,nb=⟨((l.drop at_).take (m-at_)).toArray⟩:=⟨_,rfl⟩
      obtain⟨bb,hbb⟩:∃bb:ByteArray,bb=⟨((l.drop (m+1)).take (N-(m+1))).toArray⟩:=⟨_,rfl⟩
      have HFd2:=hid (show Fds w w' _ _ from ho')
      obtain⟨NN,hNN⟩:∃NN,NN=(out++[(⟨(l.drop at_).take (m-at_),(l.drop (m+1)).take (N-(m+1)),at_,X⟩:Fd)]).length:=⟨_,rfl⟩
      have hr':(Builtin.append_ #[51,51] 51 #[.slice xo out.length co,.slice (some ⟨wr.heap.size,0,none⟩) 1 1]).run Tryz.prog (wr.drew.alloc (.cells #[.string nb,.string bb,.int .i64 at_,.int .i64 X] 55))=.ok (.slice xv NN cvv) w':=by rw[hnb,hbb,hNN];exact hr
      rw[←hNN]at HFd2
      rw[←hnb]at cv1
      rw[←hbb]at cv2
      have HBw:=hid hbw
      have HBB:=hid hbb
      have HNN:=hid hNN
      have i1:(at_:Int)+(c':Int)=(m:Int):=by omega
      have i2:IntKind.i64.wrap (m:Int)=(m:Int):=IntWalk.i64_in _ (by omega)
      have i3:IntKind.i64.wrap ((m:Int)+1)=(m:Int)+1:=IntWalk.i64_in _ (by omega)
      have i4:(at_:Int)≤(m:Int):=by omega
      have i5:(m:Int)≤(c:Int):=by omega
      have i6:(m:Int)+1≤(N:Int):=by omega
      have i7:(N:Int)≤(c:Int):=by omega
      have i8:¬c=at_:=by omega
      have i10:(0:Int)≤(m:Int)+1:=by omega
      have hXm:=hid hX1
      clear hr hnb hbb hNN hbw ho' hg' hc hcd hbd hnmE hi' hdr hI hn hne hnm hcl hq l1 l2 hC0 hm
      by_cases i9:c=m+1
      ·obtain rfl:N=m+1:=by omega
       subst i9
       have hbz:(⟨([]:List UInt8).toArray⟩:ByteArray)=bb:=by rw[HBB.out];simp
       rw[hbz]at cv3
       clear hbz cv2
       have cv4:(convert 48 9 (.slice (some ⟨b,o,none⟩) 0 0)).run Tryz.prog wr.drew=.ok (.string bb) wr.drew:=cv3
       clear cv3 i5 i6 i7 i8
       have i11:(m:Int)≤(m:Int)+1:=by omega
       have i12:¬m+1=at_:=by omega
       go_upto_region 16 with fail
       go_region_law (refine step_append_run rfl (.tmp 85) (.tmp 104) #[51,51] rfl (.slice xo out.length co) (.slice (some ⟨wr.heap.size,0,none⟩) 1 1) (.slice xv NN cvv) w' rfl rfl hr' ?_)
       all_goals
        go_wp2_with fail
        go_roundg (l.length-X)
        case measure=>have:=HK.out;have:=hXm.out;omega
        case rel=>exact⟨X,by go_num,by omega,hid ⟨HBw.out,_,_,r',HFd2.out,HI2.out⟩⟩
      ·clear cv3
       go_upto_region 16 with fail
       go_region_law (refine step_append_run rfl (.tmp 85) (.tmp 104) #[51,51] rfl (.slice xo out.length co) (.slice (some ⟨wr.heap.size,0,none⟩) 1 1) (.slice xv NN cvv) w' rfl rfl hr' ?_)
       all_goals
        go_wp2_with fail
        go_roundg (l.length-X)
        case measure=>have:=HK.out;have:=hXm.out;omega
        case rel=>exact⟨X,by go_num,by omega,hid ⟨HBw.out,_,_,r',HFd2.out,HI2.out⟩⟩
     ·have b1:decide (C>0)=false:=decide_eq_false hC0
      have hI:=HI.out
      have hdr:=hI.drop
      have hne:l.drop at_≠[]:=fun e=>by have:=congrArg List.length e;rw[List.length_drop]at this;simp at this;omega
      have hnm:nameN ((l.drop at_).take (N-at_))=none:=by
       refine colI_not ?_
       rw[←HX.out.1];exact hC0
      have hn:lineN (l.drop at_)=N-at_:=by have:=HX.out.2.1;omega
      have hdec:Dec l S (l.drop at_):=⟨by rw[hdr];exact hI.eq,hI.ok,by rw[hdr];exact hI.ends,.inr ⟨by rw[hn];exact hnm,fun hh=>hq ⟨fun e=>hh.1 (by have:=fds_len S 0;rw[←hI.out,e]at this;exact List.length_eq_zero_iff.mp this.symm),by have:=hh.2.1;omega,by rw[HXX.out];exact hh.2.2⟩⟩⟩
      obtain⟨hF1,hB1⟩:=HG.out S _ hdec
      rw[←hI.out]at hF1
      rw[←hI.at_]at hB1
      have hB2:B=if N=at_ then X else at_:=by
       rw[hB1];unfold stopAt
       rw[if_neg hne,hn,HX.out.2.2]
       by_cases e:N=at_
       ·rw[if_pos e,if_pos (by omega)]
       ·rw[if_neg e,if_neg (by omega)];rfl
      have HB2:=hid hB2
      have HF1:=hid hF1
      have HF3:=hid (show tooI F=tooI out by rw[hF1])
      have hck:=fun(bb:Nat)=>rchecked_run w (.slice xo out.length co) out bb wr (by omega) HFd.out
      clear hF1 hB1 hB2 hdec hnm hn hne hdr hI hq
      by_cases ht:tooI out=0
      ·have HT:=hid (HF3.out.trans ht)
       have HCk:=(show Hid (∀bb:Nat,Calls Tryz.prog 61 #[.slice xo out.length co,.int .i64 bb] wr fun e w'=>e=.returned (.tuple #[.slice xo out.length co,.int .i64 bb,.int .i64 0])∧w'=wr)from hid fun bb=>by
        have:=hck bb
        rw[if_pos ht]at this
        exact this)
       clear hck ht
       by_cases e:N=at_
       ·have b2:((N:Int)==(at_:Int))=true:=by rw[e];exact beq_self_eq_true _
        have HV:=hid (show B=X by rw[HB2.out,if_pos e])
        clear e
        go_wp2_with (go_at_call 61;with_reducible refine(HCk.out _).mono ?_;rintro _ w3 ⟨rfl,hw⟩;have hw:=hw.symm;subst hw)
        go_ret3
        exact⟨.slice xo out.length co,by rw[HR.out,if_pos HT.out,HV.out];rfl,HBel.out,by rw[HF1.out];exact HFd.out⟩
       ·have b2:((N:Int)==(at_:Int))=false:=by rw[beq_eq_false_iff_ne];omega
        have HV:=hid (show B=at_ by rw[HB2.out,if_neg e])
        clear e
        go_wp2_with (go_at_call 61;with_reducible refine(HCk.out _).mono ?_;rintro _ w3 ⟨rfl,hw⟩;have hw:=hw.symm;subst hw)
        go_ret3
        exact⟨.slice xo out.length co,by rw[HR.out,if_pos HT.out,HV.out];rfl,HBel.out,by rw[HF1.out];exact HFd.out⟩
      ·have HT:=hid (show¬tooI F=0 by rw[HF3.out];exact ht)
       obtain⟨T,hT⟩:∃T,T=tooI out:=⟨_,rfl⟩
       have HCk:=(show Hid (∀bb:Nat,Calls Tryz.prog 61 #[.slice xo out.length co,.int .i64 bb] wr fun e w'=>e=.returned (.tuple #[.slice none 0 0,.int .i64 0,.int .i64 T])∧w'=wr)from hid fun bb=>by
        have:=hck bb
        rw[if_neg ht,←hT]at this
        exact this)
       have HTT:=hid (show tooI F=T by rw[HF3.out,hT])
       clear hck ht hT
       by_cases e:N=at_
       ·have b2:((N:Int)==(at_:Int))=true:=by rw[e];exact beq_self_eq_true _
        clear e
        go_wp2_with (go_at_call 61;with_reducible refine(HCk.out _).mono ?_;rintro _ w3 ⟨rfl,hw⟩;have hw:=hw.symm;subst hw)
        go_ret3
        exact⟨.slice xo out.length co,by rw[HR.out,if_neg HT.out,HTT.out];rfl,HBel.out,by rw[HF1.out];exact HFd.out⟩
       ·have b2:((N:Int)==(at_:Int))=false:=by rw[beq_eq_false_iff_ne];omega
        clear e
        go_wp2_with (go_at_call 61;with_reducible refine(HCk.out _).mono ?_;rintro _ w3 ⟨rfl,hw⟩;have hw:=hw.symm;subst hw)
        go_ret3
        exact⟨.slice xo out.length co,by rw[HR.out,if_neg HT.out,HTT.out];rfl,HBel.out,by rw[HF1.out];exact HFd.out⟩
  ·have hI:=HI.out
   have hdr:=hI.drop
   have hr0:r=[]:=by rw[←hdr];exact List.drop_eq_nil_of_le (by omega)
   subst hr0
   have hdec:Dec l S []:=⟨hI.eq,hI.ok,hI.ends,.inl rfl⟩
   obtain⟨hF1,hB1⟩:=HG.out S _ hdec
   rw[←hI.out]at hF1
   rw[←hI.at_]at hB1
   have HV:=hid (show B=at_ from hB1)
   have b0:decide ((at_:Int)<(l.length:Int))=false:=decide_eq_false (by omega)
   have HF1:=hid hF1
   have HF3:=hid (show tooI F=tooI out by rw[hF1])
   have hck:=rchecked_run w (.slice xo out.length co) out at_ wr (by omega) HFd.out
   clear hF1 hB1 hdec hI hdr
   by_cases ht:tooI out=0
   ·have HT:=hid (HF3.out.trans ht)
    rw[if_pos ht]at hck
    have HCk:=hid hck
    clear hck ht
    go_wp2_with (go_at_call 61;with_reducible refine HCk.out.mono ?_;rintro _ w3 ⟨rfl,hw⟩;have hw:=hw.symm;subst hw)
    go_ret3
    exact⟨.slice xo out.length co,by rw[HR.out,if_pos HT.out,HV.out];rfl,HBel.out,by rw[HF1.out];exact HFd.out⟩
   ·have HT:=hid (show¬tooI F=0 by rw[HF3.out];exact ht)
    rw[if_neg ht]at hck
    obtain⟨T,hT⟩:∃T,T=tooI out:=⟨_,rfl⟩
    rw[←hT]at hck
    have HCk:=hid hck
    have HTT:=hid (show tooI F=T by rw[HF3.out,hT])
    clear hck ht hT
    go_wp2_with (go_at_call 61;with_reducible refine HCk.out.mono ?_;rintro _ w3 ⟨rfl,hw⟩;have hw:=hw.symm;subst hw)
    go_ret3
    exact⟨.slice xo out.length co,by rw[HR.out,if_neg HT.out,HTT.out];rfl,HBel.out,by rw[HF1.out];exact HFd.out⟩
end Go.Proofs.YtmlmkmhkmifnkaaGreatDoor.Hs
/-
 DERIVED:THE SHELF's CONTRACTS AT THIS DUMP,IN PLAIN WORDS (tools/lay-plain.mjs out of 'TryzShelf.lean',which tools/lay-shelf.mjs wrote):THE SAME DECLARATIONS UNDER THE SAME NAMES:'import','namespace','open','def','theorem' AND NOTHING ELSE:no command of the shelf's:FOR A HAND-IN. Each laying:the table of numbers ('.._ren') and one theorem,a field a fact of the dump's own or the kernel's comparison;each contract:ONE APPLICATION.
-/
namespace Go.Proofs
open Go.Shelf
def Tryz.lays185_ren:Go.Shelf.Ren:=⟨fun|185=>189|187=>236|115=>237|253=>238|224=>239|254=>240|255=>270|291=>271|n=>n,fun|37=>48|3=>3|4=>4|0=>0|5=>5|46=>242|9=>9|146=>288|51=>283|n=>n,fun|1=>1|n=>n⟩
theorem Tryz.lays185:Go.Proofs.Lays.n185 Tryz.prog Tryz.lays185_ren:={
 mixed:=by kernel_rfl
 f115:=Tryz.func237.trans (congrArg some (by kernel_rfl))
 f185:=Tryz.func189.trans (congrArg some (by kernel_rfl))
 f187:=Tryz.func236.trans (congrArg some (by kernel_rfl))
 f224:=Tryz.func239.trans (congrArg some (by kernel_rfl))
 f253:=Tryz.func238.trans (congrArg some (by kernel_rfl))
 f254:=Tryz.func240.trans (congrArg some (by kernel_rfl))
 f255:=Tryz.func270.trans (congrArg some (by kernel_rfl))
 f291:=Tryz.func271.trans (congrArg some (by kernel_rfl))
 t0:=Tryz.underlying0
 a0:=Tryz.isAgg0
 z0:=Tryz.sizeOf0
 v0:=Tryz.zeroValue0
 t3:=Tryz.underlying3
 a3:=Tryz.isAgg3
 z3:=Tryz.sizeOf3
 v3:=Tryz.zeroValue3
 t4:=Tryz.underlying4
 a4:=Tryz.isAgg4
 z4:=Tryz.sizeOf4
 v4:=Tryz.zeroValue4
 t5:=Tryz.underlying5
 a5:=Tryz.isAgg5
 z5:=Tryz.sizeOf5
 v5:=Tryz.zeroValue5
 t9:=Tryz.underlying9
 a9:=Tryz.isAgg9
 z9:=Tryz.sizeOf9
 v9:=Tryz.zeroValue9
 t37:=Tryz.underlying48
 a37:=Tryz.isAgg48
 z37:=Tryz.sizeOf48
 v37:=Tryz.zeroValue48
 t46:=Tryz.underlying242
 a46:=Tryz.isAgg242
 z46:=Tryz.sizeOf242
 v46:=Tryz.zeroValue242
 t51:=Tryz.underlying283
 a51:=Tryz.isAgg283
 z51:=Tryz.sizeOf283
 v51:=Tryz.zeroValue283
 t146:=Tryz.underlying288
 a146:=Tryz.isAgg288
 z146:=Tryz.sizeOf288
 v146:=Tryz.zeroValue288
 g1:=by kernel_rfl}
open Go.Proofs Go.RowKit Go.Lib in
theorem Tryz.bytes_Index_at(a1 a2:Addr)(n c1 k c2:Nat)(xs ys:List Int)(m:Int)(w:World)(hx:xs.length=n)(hy:ys.length=k)(hr1:∀x∈xs,0≤x∧x<256)(hr2:∀y∈ys,0≤y∧y<256)(hc1:∀i,i<n→w.cell? (a1.add i)=some (.int .u8 (xs.getD i 0)))(hc2:∀i,i<k→w.cell? (a2.add i)=some (.int .u8 (ys.getD i 0)))(hcap:n≤c1)(hs:n<4294967281)(hk:k≤9223372036854775807)(hm:w.cell? ⟨1,0,none⟩=some (.int .i64 m)):
 Calls Tryz.prog 189 #[.slice (some a1) n c1,.slice (some a2) k c2] w fun e w'=>e=.returned (.int .i64 (Lib.index (Lib.bytesOf xs) (Lib.bytesOf ys)))∧∃q,w'=w.drewN q:=Any.bytes_Index_at Tryz.lays185 a1 a2 n c1 k c2 xs ys m w hx hy hr1 hr2 hc1 hc2 hcap hs hk hm
def Tryz.laysSlC13_ren:Go.Shelf.Ren:=⟨fun|13=>118|24=>193|25=>194|12=>189|31=>249|19=>236|20=>237|21=>238|22=>239|23=>240|29=>270|30=>271|n=>n,fun|22=>48|3=>3|4=>4|0=>0|5=>5|9=>9|33=>242|40=>288|39=>283|n=>n,fun|0=>1|n=>n⟩
theorem Tryz.laysSlC13:Go.Proofs.SlLaysC.n13 Tryz.prog Tryz.laysSlC13_ren:={
 mixed:=by kernel_rfl
 f12:=Tryz.func189.trans (congrArg some (by kernel_rfl))
 f13:=Tryz.func118.trans (congrArg some (by kernel_rfl))
 f19:=Tryz.func236.trans (congrArg some (by kernel_rfl))
 f20:=Tryz.func237.trans (congrArg some (by kernel_rfl))
 f21:=Tryz.func238.trans (congrArg some (by kernel_rfl))
 f22:=Tryz.func239.trans (congrArg some (by kernel_rfl))
 f23:=Tryz.func240.trans (congrArg some (by kernel_rfl))
 f25:=Tryz.func194.trans (congrArg some (by kernel_rfl))
 f29:=Tryz.func270.trans (congrArg some (by kernel_rfl))
 f30:=Tryz.func271.trans (congrArg some (by kernel_rfl))
 t0:=Tryz.underlying0
 a0:=Tryz.isAgg0
 z0:=Tryz.sizeOf0
 v0:=Tryz.zeroValue0
 t3:=Tryz.underlying3
 a3:=Tryz.isAgg3
 z3:=Tryz.sizeOf3
 v3:=Tryz.zeroValue3
 t4:=Tryz.underlying4
 a4:=Tryz.isAgg4
 z4:=Tryz.sizeOf4
 v4:=Tryz.zeroValue4
 t5:=Tryz.underlying5
 a5:=Tryz.isAgg5
 z5:=Tryz.sizeOf5
 v5:=Tryz.zeroValue5
 t9:=Tryz.underlying9
 a9:=Tryz.isAgg9
 z9:=Tryz.sizeOf9
 v9:=Tryz.zeroValue9
 t22:=Tryz.underlying48
 a22:=Tryz.isAgg48
 z22:=Tryz.sizeOf48
 v22:=Tryz.zeroValue48
 t33:=Tryz.underlying242
 a33:=Tryz.isAgg242
 z33:=Tryz.sizeOf242
 v33:=Tryz.zeroValue242
 t39:=Tryz.underlying283
 a39:=Tryz.isAgg283
 z39:=Tryz.sizeOf283
 v39:=Tryz.zeroValue283
 t40:=Tryz.underlying288
 a40:=Tryz.isAgg288
 z40:=Tryz.sizeOf288
 v40:=Tryz.zeroValue288
 g0:=by kernel_rfl}
open Go.RowKit Go.Lib in
theorem Tryz.bytes_Count_any(a1 a2:Addr)(n c1 k c2:Nat)(xs ys:List Int)(m:Int)(w:World)(hx:xs.length=n)(hy:ys.length=k)(hr1:∀x∈xs,0≤x∧x<256)(hr2:∀y∈ys,0≤y∧y<256)(hc1:∀i,i<n→w.cell? (a1.add i)=some (.int .u8 (xs.getD i 0)))(hc2:∀i,i<k→w.cell? (a2.add i)=some (.int .u8 (ys.getD i 0)))(hcap:n≤c1)(hs:n<4294967281)(hk:k≤9223372036854775807)(h1:1≤k)(hm:w.cell? ⟨1,0,none⟩=some (.int .i64 m)):
 Calls Tryz.prog 118 #[.slice (some a1) n c1,.slice (some a2) k c2] w fun e w'=>e=.returned (.int .i64 (Lib.count (Lib.bytesOf xs) (Lib.bytesOf ys)))∧∃q,w'=w.drewN q:=Any.bytes_Count_any Tryz.laysSlC13 a1 a2 n c1 k c2 xs ys m w hx hy hr1 hr2 hc1 hc2 hcap hs hk h1 hm
def Tryz.laysSlP7_ren:Go.Shelf.Ren:=⟨fun|7=>116|11=>191|14=>242|15=>118|16=>189|17=>241|19=>193|20=>194|21=>236|22=>237|23=>238|24=>239|25=>240|26=>272|29=>249|30=>270|31=>271|n=>n,fun|22=>48|23=>184|3=>3|4=>4|0=>0|34=>206|21=>21|5=>5|45=>242|9=>9|58=>288|38=>283|28=>279|62=>282|61=>281|n=>n,fun|2=>1|3=>2|4=>3|n=>n⟩
theorem Tryz.laysSlP7:Go.Proofs.SlLaysP.n7 Tryz.prog Tryz.laysSlP7_ren:={
 mixed:=by kernel_rfl
 f7:=Tryz.func116.trans (congrArg some (by kernel_rfl))
 f11:=Tryz.func191.trans (congrArg some (by kernel_rfl))
 f15:=Tryz.func118.trans (congrArg some (by kernel_rfl))
 f16:=Tryz.func189.trans (congrArg some (by kernel_rfl))
 f20:=Tryz.func194.trans (congrArg some (by kernel_rfl))
 f21:=Tryz.func236.trans (congrArg some (by kernel_rfl))
 f22:=Tryz.func237.trans (congrArg some (by kernel_rfl))
 f23:=Tryz.func238.trans (congrArg some (by kernel_rfl))
 f24:=Tryz.func239.trans (congrArg some (by kernel_rfl))
 f25:=Tryz.func240.trans (congrArg some (by kernel_rfl))
 f30:=Tryz.func270.trans (congrArg some (by kernel_rfl))
 f31:=Tryz.func271.trans (congrArg some (by kernel_rfl))
 t0:=Tryz.underlying0
 a0:=Tryz.isAgg0
 z0:=Tryz.sizeOf0
 v0:=Tryz.zeroValue0
 t3:=Tryz.underlying3
 a3:=Tryz.isAgg3
 z3:=Tryz.sizeOf3
 v3:=Tryz.zeroValue3
 t4:=Tryz.underlying4
 a4:=Tryz.isAgg4
 z4:=Tryz.sizeOf4
 v4:=Tryz.zeroValue4
 t5:=Tryz.underlying5
 a5:=Tryz.isAgg5
 z5:=Tryz.sizeOf5
 v5:=Tryz.zeroValue5
 t9:=Tryz.underlying9
 a9:=Tryz.isAgg9
 z9:=Tryz.sizeOf9
 v9:=Tryz.zeroValue9
 t22:=Tryz.underlying48
 a22:=Tryz.isAgg48
 z22:=Tryz.sizeOf48
 v22:=Tryz.zeroValue48
 t23:=Tryz.underlying184
 a23:=Tryz.isAgg184
 z23:=Tryz.sizeOf184
 v23:=Tryz.zeroValue184
 t38:=Tryz.underlying283
 a38:=Tryz.isAgg283
 z38:=Tryz.sizeOf283
 v38:=Tryz.zeroValue283
 t45:=Tryz.underlying242
 a45:=Tryz.isAgg242
 z45:=Tryz.sizeOf242
 v45:=Tryz.zeroValue242
 t58:=Tryz.underlying288
 a58:=Tryz.isAgg288
 z58:=Tryz.sizeOf288
 v58:=Tryz.zeroValue288
 g2:=by kernel_rfl
 i22:=by kernel_rfl}
open Go.RowKit Go.Lib in
theorem Tryz.bytes_Split(a1 a2:Addr)(n c1 k c2:Nat)(xs ys:List Int)(m:Int)(w:World)(hx:xs.length=n)(hy:ys.length=k)(hr1:∀x∈xs,0≤x∧x<256)(hr2:∀y∈ys,0≤y∧y<256)(hc1:∀i,i<n→w.cell? (a1.add i)=some (.int .u8 (xs.getD i 0)))(hc2:∀i,i<k→w.cell? (a2.add i)=some (.int .u8 (ys.getD i 0)))(hcap:n≤c1)(hs:n<4294967281)(hk:k≤9223372036854775807)(hc63:c1≤9223372036854775807)(h1:1≤k)(hm:w.cell? ⟨1,0,none⟩=some (.int .i64 m)):
 Calls Tryz.prog 116 #[.slice (some a1) n c1,.slice (some a2) k c2] w fun e w'=>
  e=.returned (.slice (some ⟨w.heap.size,0,none⟩) (Lib.count (Lib.bytesOf xs) (Lib.bytesOf ys)+1) (Lib.count (Lib.bytesOf xs) (Lib.bytesOf ys)+1))∧∃q,w'=(w.alloc (.cells (Lib.splitV (Lib.bytesOf ys) 0 (Lib.count (Lib.bytesOf xs) (Lib.bytesOf ys)) a1 c1 (Lib.bytesOf xs)).toArray 48)).drewN q:=Any.bytes_Split Tryz.laysSlP7 a1 a2 n c1 k c2 xs ys m w hx hy hr1 hr2 hc1 hc2 hcap hs hk hc63 h1 hm
def Tryz.laysSlT4_ren:Go.Shelf.Ren:=⟨fun|4=>110|5=>189|6=>236|7=>237|8=>238|9=>239|10=>240|11=>270|12=>271|n=>n,fun|22=>48|4=>4|3=>3|0=>0|5=>5|29=>242|9=>9|31=>288|30=>283|n=>n,fun|0=>1|n=>n⟩
theorem Tryz.laysSlT4:Go.Proofs.SlLaysT.n4 Tryz.prog Tryz.laysSlT4_ren:={
 mixed:=by kernel_rfl
 f4:=Tryz.func110.trans (congrArg some (by kernel_rfl))
 f5:=Tryz.func189.trans (congrArg some (by kernel_rfl))
 f6:=Tryz.func236.trans (congrArg some (by kernel_rfl))
 f7:=Tryz.func237.trans (congrArg some (by kernel_rfl))
 f8:=Tryz.func238.trans (congrArg some (by kernel_rfl))
 f9:=Tryz.func239.trans (congrArg some (by kernel_rfl))
 f10:=Tryz.func240.trans (congrArg some (by kernel_rfl))
 f11:=Tryz.func270.trans (congrArg some (by kernel_rfl))
 f12:=Tryz.func271.trans (congrArg some (by kernel_rfl))
 t0:=Tryz.underlying0
 a0:=Tryz.isAgg0
 z0:=Tryz.sizeOf0
 v0:=Tryz.zeroValue0
 t3:=Tryz.underlying3
 a3:=Tryz.isAgg3
 z3:=Tryz.sizeOf3
 v3:=Tryz.zeroValue3
 t4:=Tryz.underlying4
 a4:=Tryz.isAgg4
 z4:=Tryz.sizeOf4
 v4:=Tryz.zeroValue4
 t5:=Tryz.underlying5
 a5:=Tryz.isAgg5
 z5:=Tryz.sizeOf5
 v5:=Tryz.zeroValue5
 t9:=Tryz.underlying9
 a9:=Tryz.isAgg9
 z9:=Tryz.sizeOf9
 v9:=Tryz.zeroValue9
 t22:=Tryz.underlying48
 a22:=Tryz.isAgg48
 z22:=Tryz.sizeOf48
 v22:=Tryz.zeroValue48
 t29:=Tryz.underlying242
 a29:=Tryz.isAgg242
 z29:=Tryz.sizeOf242
 v29:=Tryz.zeroValue242
 t30:=Tryz.underlying283
 a30:=Tryz.isAgg283
 z30:=Tryz.sizeOf283
 v30:=Tryz.zeroValue283
 t31:=Tryz.underlying288
 a31:=Tryz.isAgg288
 z31:=Tryz.sizeOf288
 v31:=Tryz.zeroValue288
 g0:=by kernel_rfl}
theorem Tryz.bytes_Cut_all(p1 p2:Option Addr)(n c1 k c2:Nat)(xs ys:List Int)(m:Int)(w:World)(hx:xs.length=n)(hy:ys.length=k)(hr1:∀x∈xs,0≤x∧x<256)(hr2:∀y∈ys,0≤y∧y<256)(h1:Lib.BytesIn w p1 n xs)(h2:Lib.BytesIn w p2 k ys)(hp1:p1=none→c1=0)(hcap:n≤c1)(hs:n<4294967281)(hk:k≤9223372036854775807)(hm:w.cell? ⟨1,0,none⟩=some (.int .i64 m)):
 Calls Tryz.prog 110 #[.slice p1 n c1,.slice p2 k c2] w fun e w'=>e=.returned (Lib.cutV p1 n c1 k (Lib.index (Lib.bytesOf xs) (Lib.bytesOf ys)))∧∃q,w'=w.drewN q:=Any.bytes_Cut_all Tryz.laysSlT4 p1 p2 n c1 k c2 xs ys m w hx hy hr1 hr2 h1 h2 hp1 hcap hs hk hm
end Go.Proofs
namespace Go.Proofs.YtmlmkmhkmifnkaaGreatDoor.Hs
open Go.RowKit
open Ci (hid Bel Lay)
theorem idx_step(n L:Nat):(if((if n<L then(n:Int)else -1)== -1)=true then(-1:Int)else(if n<L then(n:Int)else -1)+1)=if n+1<L+1 then((n+1:Nat):Int)else -1:=by
 by_cases h:n<L
 ·rw[if_pos h,if_pos (Nat.succ_lt_succ h),if_neg]
  ·rfl
  ·intro e;have:=eq_of_beq e;omega
 ·rw[if_neg h,if_neg (fun e=>h (Nat.lt_of_succ_lt_succ e))];rfl
theorem index_line:∀l:List UInt8,Lib.index l [13,10]=if lineN l<l.length then(lineN l:Int)else -1
 |[]=>rfl
 |c::t=>by
  have h1:Lib.index (c::t) [13,10]=if([13,10]:List UInt8).isPrefixOf (c::t)=true then 0 else if(Lib.index t [13,10]== -1)=true then -1 else Lib.index t [13,10]+1:=rfl
  rw[h1,index_line t,lineN_cons]
  by_cases hc:c=13∧t.head?=some 10
  ·have h2:([13,10]:List UInt8).isPrefixOf (c::t)=true:=by
    cases t with
    |nil=>simp at hc
    |cons d u=>obtain⟨rfl,hd⟩:=hc;simp at hd;subst hd;simp[List.isPrefixOf]
   rw[h2,if_pos rfl,if_pos hc,if_pos (by simp)];rfl
  ·have h2:([13,10]:List UInt8).isPrefixOf (c::t)=false:=by
    cases t with
    |nil=>simp[List.isPrefixOf]
    |cons d u=>
     have:¬(13=c∧10=d):=fun h=>hc ⟨h.1.symm,by rw[h.2];rfl⟩
     simp[List.isPrefixOf]
     exact fun e=>fun f=>this ⟨e,f⟩
   rw[h2,if_neg (by decide),if_neg hc]
   exact idx_step _ _
theorem index_col:∀l:List UInt8,Lib.index l [58]=if colN l<l.length then(colN l:Int)else -1
 |[]=>rfl
 |c::t=>by
  have h1:Lib.index (c::t) [58]=if([58]:List UInt8).isPrefixOf (c::t)then 0 else if(Lib.index t [58]== -1)=true then -1 else Lib.index t [58]+1:=rfl
  rw[h1,index_col t]
  by_cases hc:c=58
  ·subst hc;simp[List.isPrefixOf,colN]
  ·have e:colN (c::t)=colN t+1:=by simp[colN,hc]
   have h2:([58]:List UInt8).isPrefixOf (c::t)=false:=by simp[List.isPrefixOf];exact fun h=>hc h.symm
   rw[e,h2,if_neg (by decide)]
   exact idx_step _ _
theorem bs_in{W:World}{p:Option Addr}{l:List UInt8}(h:Bs W p l):Lib.BytesIn W p l.length (l.map fun x=>(x.toNat:Int)):=fun h0=>by
 obtain⟨b,o,e,hc⟩:=h h0
 exact⟨b,o,e,Bs.nums hc⟩
theorem bytes_nums(l:List UInt8):Lib.bytesOf (l.map fun x=>(x.toNat:Int))=l:=by
 have:=congrArg (fun s:ByteArray=>s.data.toList) (str_nums l)
 exact this
theorem nums_byte(l:List UInt8):∀x∈l.map (fun x=>(x.toNat:Int)),0≤x∧x<256:=fun x hx=>by
 obtain⟨y,_,rfl⟩:=List.mem_map.1 hx
 have:=y.toNat_lt
 omega
theorem cut_bytes_run(p q:Option Addr)(l s:List UInt8)(c d:Nat)(w:World)(hw:Lay w)(h1:Bs w p l)(h2:Bs w q s)(hp:p=none→c=0)(hc:l.length≤c)(hs:l.length<4294967281)(hs2:s.length≤9223372036854775807):
 Calls Tryz.prog 110 #[.slice p l.length c,.slice q s.length d] w fun e w'=>e=.returned (Lib.cutV p l.length c s.length (Lib.index l s))∧Bel w w':=by
 obtain⟨m,hm⟩:=hw.most
 have:=Tryz.bytes_Cut_all p q l.length c s.length d (l.map fun x=>(x.toNat:Int)) (s.map fun x=>(x.toNat:Int)) m w (by simp) (by simp) (nums_byte l) (nums_byte s) (bs_in h1) (bs_in h2) hp hc hs hs2 hm
 rw[bytes_nums,bytes_nums]at this
 refine this.mono ?_
 rintro e w' ⟨rfl,n,rfl⟩
 exact⟨rfl,(Bel.refl w).drewN n⟩
end Go.Proofs.YtmlmkmhkmifnkaaGreatDoor.Hs