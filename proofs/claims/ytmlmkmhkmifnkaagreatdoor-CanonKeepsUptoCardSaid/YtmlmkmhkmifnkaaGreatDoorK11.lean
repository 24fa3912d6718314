import Derived.Test.YtmlmkmhkmifnkaaGreatDoorK10
import Derived.Deep.RegionLaw
set_option maxHeartbeats 16000000
set_option maxRecDepth 1000000
namespace Go.Proofs.YtmlmkmhkmifnkaaGreatDoor.Ma
open Go.RowKit
open Ci (Bel own_bel row_shape addr_add own_base)
theorem sp_size:(Tryz.prog.info? 167).map (·.size)=some 5:=by kernel_rfl
theorem sp_infos:(Tryz.prog.info? 167).map (fun i=>(i.zero,i.size,i.bytes))=some (some (.agg #[.string ⟨#[]⟩,.string ⟨#[]⟩,.int .i64 0,.int .i64 0,.string ⟨#[]⟩]),5,64):=by kernel_rfl
theorem Sf.wtext{X:Cx}{st:St}(hX:X.Ok)(h:Sf X st):(wordT st).length≤65536:=by
 unfold wordT
 split
 ·exact h.text hX 113
 ·exact h.text hX 97
theorem word_le(st:St):(wordS st).l.length≤st.l.length:=by
 unfold wordS wantS takeS
 (repeat' split)<;>simp
theorem ba_size(l:List UInt8):(⟨l.toArray⟩:ByteArray).size=l.length:=List.size_toArray
theorem str_size':(Tryz.prog.info? 9).map (·.size)=some 1:=Ma.str_size
def spI(S:List UInt8)(f:Nat)(name:List UInt8):List Value:=[.string ⟨S.toArray⟩,.string ⟨#[]⟩,.int .i64 f,.int .i64 0,.string ⟨name.toArray⟩]
theorem step_append_run {P:Program} {ops:Array Oper} {o:Oper} {a:Act} {w:World} {K:Act→World→Prop} {Q:Exit→Act→World→Prop} {E:Prop} (hgd:o.guard=none) (s x:Operand) (ts:Array TypeId)
 (ho:o.op=.call {callee:=.builtin .append,args:=#[s,x],argTypes:=ts}) (v u r:Value) (w':World) (hs:a.eval s=v) (hx:a.eval x=u) (hrun:(Builtin.append_ ts o.type #[v,u]).run P w=.ok r w')
 (h:K (a.put o.dst r) w'):if Region.wanted o (yielded ops a.tmps)=true then Oper.wp P o a w K Q else E:=by
 have hw:Region.wanted o (yielded ops a.tmps)=true:=by simp[Region.wanted,hgd]
 rw[if_pos hw]
 unfold Oper.wp
 simp[execOp,ho,resolve,invoke,builtin,hs,hx,hrun,Result.andThen]
 exact h
theorem sp_one(x:Sp):∀u∈spC x,u.oneCell'=true:=by
 intro u hu
 simp only[spC,List.mem_cons,List.mem_nil_iff,or_false]at hu
 rcases hu with rfl|rfl|rfl|rfl|rfl<;>rfl
theorem domLoop_all:∀(n:Nat) (s:List UInt8) (t:Tk) (st:St),(domLoop n s t st).2.2.all=st.all
 |0,_,_,_=>rfl
 |n+1,s,t,st=>by
  rw[domLoop]
  split
  ·rw[domLoop_all n]
   show(takeS 46 st).all=st.all
   exact take_all _ _
  ·rfl
theorem dom_all(st:St):(domQ st).2.2.all=st.all:=by
 unfold domQ
 split
 ·exact take_all _ _
 ·rw[domLoop_all];rfl
theorem word_all(st:St):(wordS st).all=st.all:=by
 unfold wordS
 split
 ·exact take_all _ _
 ·rfl
theorem append_sp(w:World)(base:Nat)(v:Value)(l:List Sp)(x:Sp)(hown:w.ownsRow base 167 5 v l.length (spCs l))(hl:l.length≤65537)(hb:base≤w.heap.size):
 ∃v' w',(Builtin.append_ #[162,162] 162 #[v,.slice (some ⟨w.heap.size,0,none⟩) 1 1]).run Tryz.prog (w.alloc (.cells (spC x).toArray 167))=.ok v' w'∧w'.ownsRow base 167 5 v' (l++[x]).length (spCs (l++[x]))∧(w.alloc (.cells (spC x).toArray 167)).grownBy w' v.ownBlock:=by
 obtain⟨i,hi,j2,j3,j4⟩:=info_parts sp_infos
 obtain⟨v',w',h⟩:=run_append_own (P:=Tryz.prog) (w.alloc (.cells (spC x).toArray 167)) base 162 162 167 i _ 5 64 Tryz.underlying162 hi j2 j3 j4 rfl (by decide) v l.length (spCs l) (hown.alloc _) ⟨w.heap.size,0,none⟩ 1 1 (spC x) rfl
  (fun j u hu=>by
    rw[addr_add,Nat.zero_add]
    have e:=heap_alloc_new w (.cells (spC x).toArray 167)
    simp only[World.cell?,e]
    simpa using hu) (sp_one x) (by unfold maxLen;omega) (by omega) (by rw[World.size_alloc];omega)
 refine⟨v',w',h.1,?_,h.2.2.1⟩
 have e:spCs (l++[x])=spCs l++spC x:=by unfold spCs;rw[List.flatMap_append];simp
 rw[List.length_append,e]
 exact h.2.1
theorem spec_end {X:Cx} {D3:St} {sl:Value} {w wA w':World} {o:Obj} {x:Sp} {xv:Option Addr} {cv NN:Nat} {adA:Option Addr} {cpA:Nat} (hA:Pw X D3 sl w wA)
 (hg:(wA.drew.alloc o).grownBy w' sl.ownBlock) (ho:w'.ownsRow (X.W.heap.size+1) 167 5 (.slice xv NN cv) NN (spCs (D3.all++[x]))) (hN:NN=(D3.all++[x]).length)
 (hw:w'.heap[X.W.heap.size]?=some (.cells #[.string X.body,.slice adA D3.l.length cpA,.bool D3.bad,sl] 164 (0,0)))
 (hl:∃kk,D3.l=X.T.drop kk∧kk≤X.T.length∧D3.l.length≤cpA∧cpA≤maxLen∧(0<D3.l.length→adA=some ⟨X.lb,kk*4,none⟩)):
 Ps X ⟨D3.bad,D3.l,D3.all++[x]⟩ (.slice xv NN cv) (w'.setCell ⟨X.W.heap.size,3,none⟩ (.slice xv NN cv)):=by
 obtain⟨kk,h1,h2,h3,h4,h5⟩:=hl
 have hb1:Bel X.W (wA.drew.alloc o):=(hA.ps.bel.drew).alloc o
 have hown:(wA.drew.alloc o).ownsRow X.W.heap.size 167 5 sl D3.all.length (spCs D3.all):=own_base ((own_bel hA.ps.own (Bel.refl wA).drew).alloc o) (Nat.le_succ _)
 have hb2:Bel X.W w':=Ci.Bel.grown hb1 hg hown
 refine⟨hb2.setCell (Nat.le_refl _) _,⟨kk,cpA,adA,h1,h2,h3,h4,h5,?_⟩,?_⟩
 ·exact Ci.heap_setCells X.W.heap.size 164 [.slice xv NN cv] 3 w' _ hw (by simp)
 ·show World.ownsRow _ _ _ _ _ (D3.all++[x]).length _
  rw[←hN]
  exact own_other ho (Nat.lt_succ_self _) fun k hk=>Ci.heap_setCells_other X.W.heap.size k hk [.slice xv NN cv] 3 w'
theorem spI_set{w7:World}{b fr:Nat}{S u name:List UInt8}{T:TypeId}(h:w7.heap[b]?=some (.cells (spI S fr name).toArray T (0,0))):
 (w7.setCell ⟨b,0,none⟩ (.string (⟨S.toArray⟩++(⟨#[46]⟩++⟨u.toArray⟩)))).heap[b]?=some (.cells (spI (S++([46]++u)) fr name).toArray T (0,0)):=by
 have e:=Ci.heap_setCells b T [.string (⟨S.toArray⟩++(⟨#[46]⟩++⟨u.toArray⟩))] 0 w7 (spI S fr name) h (by simp[spI])
 rw[show(⟨#[46]⟩:ByteArray)=⟨[46].toArray⟩from rfl,str_app,str_app]at e⊢
 exact e
theorem Pw.cell1{X:Cx}{st:St}{sl:Value}{w w0 w1:World}{b o:Nat}{v:Value}(h:Pw X st sl w0 w1)(hw:Bel w w0)(hb:w.heap.size≤b)(hX:X.W.heap.size<b)(hne:∀g,sl.ownBlock=some g→g≠b):Pw X st sl w (w1.setCell ⟨b,o,none⟩ v):=
 h.side hw hb (fun k hk=>Ci.heap_setCells_other b k hk [v] o w1) (Ci.size_setCells b [v] o w1) (fun _ hU hs=>Ci.Bel.setCells hs [v] o w1 hU) hX hne
theorem spec_run(X:Cx)(hX:X.Ok)(st:St)(sl:Value)(w:World)(name:List UInt8)(h:Ps X st sl w)(hs:Sf X st)(hall:st.all.length≤65537):
 Calls Tryz.prog 232 #[.pointer (some ⟨X.W.heap.size,0,none⟩),.string ⟨name.toArray⟩] w fun e w'=>e=.returned (.tuple #[])∧∃sl',Ps X (specQ name st) sl' w':=by
 have HWD:=(show Hid (∀st',Sf X st'→∀W,Ps X st' sl W→Calls Tryz.prog 266 #[.pointer (some ⟨X.W.heap.size,0,none⟩)] W fun e w'=>e=.returned (.string ⟨(wordT st').toArray⟩)∧Pw X (wordS st') sl W w')from fun st' hs' W hW=>word_run X hX st' sl W hW hs')
 have HK:=(show Hid (∀st',Sf X st'→∀W,Ps X st' sl W→Calls Tryz.prog 174 #[.pointer (some ⟨X.W.heap.size,0,none⟩),.int .u8 46] W fun e w'=>e=.returned (.bool (isQ 46 st'))∧Pw X (takeS 46 st') sl W w')from fun st' hs' W hW=>took_run X hX st' sl W 46 hW hs'.pos)
 have HH:=hid h
 have HPB:=hid h.pb
 have HOL:=hid h.own_lt
 have HXX:=hid hX
 have HSF:=hid hs
 have hp:=hs.pos
 obtain⟨q,cp,ad,hl,hq1,hcp1,hcp2,had,hpb⟩:=h.at_
 obtain rfl:=had hp
 have hr:=h.tok hX hl 0 hp
 have t2:w.cell? ⟨X.lb,q*4+2,none⟩=some (.int .i64 (hd st).from_):=by rw[hd_eq hp];have:=hr 2 _ rfl;simpa using this
 have p1:=(Ps.c1 hpb).2.1
 have hlt:decide (0<st.l.length)=true:=decide_eq_true hp
 have H1:=(show Hid (∀W,Ps X st sl W→Calls Tryz.prog 266 #[.pointer (some ⟨X.W.heap.size,0,none⟩)] W fun e w'=>e=.returned (.string ⟨(wordT st).toArray⟩)∧Pw X (wordS st) sl W w')from HWD.out st hs)
 clear h hX hs hr hpb hl had
 go_enter Tryz.func232,Tryz.ntmps232
 go_wp2_with (first|(go_at_call 266;refine(H1.out _ (HH.out.next ((Bel.refl w).alloc _))).mono ?_;rintro e w1 ⟨rfl,hp1⟩;have hx1:=hp1.ex.heap (heap_alloc_new w _) (by have:=HPB.out;omega);have hsz:=hp1.ex.le;rw[World.size_alloc]at hsz)|(refine wpList_store_one rfl 9 (.tmp 16) (.tmp 15) rfl w.heap.size 0 (.string ⟨(wordT st).toArray⟩) rfl rfl rfl str_size' [_,_,_,_,_] _ hx1 (by simp) ?_;intro w2 hx2 ho2 hb2 he2;have hs2:w2.heap.size=w1.heap.size:=he2▸size_set1 _ _ _ _;clear he2))
 have HP2:=hid (hp1.side ((Bel.refl w).alloc _) (Nat.le_refl _) ho2 hs2 hb2 HPB.out (fun g hg=>by have:=HOL.out g hg;omega))
 have HX2:=hid (show w2.heap[w.heap.size]?=some (.cells (spI (wordT st) (hd st).from_ name).toArray 167 (0,0))from hx2)
 have HD:=hid (show locQ st=locLoop st.l.length (wordT st) (wordS st)from rfl)
 have HS1:=hid (HSF.out.word HXX.out)
 have HLE:=hid (word_le st)
 have HL6:=HSF.out.le HXX.out
 have HU6:=HSF.out.wtext HXX.out
 obtain⟨fr,hfr⟩:∃fr,fr=(hd st).from_:=⟨_,rfl⟩
 rw[←hfr]at HX2
 clear hp1 hx1 hx2 ho2 hb2 t2 p1 H1 hp
 dsimp only[Act.put]
 go_loopg [17] (st.l.length+1) (fun gg _ wr=>∃(n:Nat) (S:List UInt8) (st':St),n+1=gg∧n≤st.l.length∧S.length+n*65537≤st.l.length*65537+65536∧Hid (locLoop n S st'=locQ st∧Pw X st' sl w wr∧wr.heap[w.heap.size]?=some (.cells (spI S fr name).toArray 167 (0,0))∧Sf X st'∧st'.l.length≤n))
 case atStart=>exact⟨st.l.length,wordT st,wordS st,rfl,Nat.le_refl _,by omega,hid ⟨HD.out.symm,HP2.out,HX2.out,HS1.out,HLE.out⟩⟩
 case round=>
  clear HP2 HX2 HS1 HLE HU6
  obtain⟨n,S,st',hgn,hnL,hSL,H⟩:=hrel
  obtain⟨hloop,hpw,hblk,hsf,hle⟩:=H.out
  have HK':=(show Hid (∀W,Ps X st' sl W→Calls Tryz.prog 174 #[.pointer (some ⟨X.W.heap.size,0,none⟩),.int .u8 46] W fun e w'=>e=.returned (.bool (isQ 46 st'))∧Pw X (takeS 46 st') sl W w')from HK.out st' hsf)
  by_cases hq:isQ 46 st'=true
  ·rw[hq]at HK'
   have HPW:=hid hpw
   have HBK:=hid hblk
   have hsf2:=hsf.take HXX.out (k:=46) (by decide)
   have H2:=(show Hid (∀W,Ps X (takeS 46 st') sl W→Calls Tryz.prog 266 #[.pointer (some ⟨X.W.heap.size,0,none⟩)] W fun e w'=>e=.returned (.string ⟨(wordT (takeS 46 st')).toArray⟩)∧Pw X (wordS (takeS 46 st')) sl W w')from HWD.out _ hsf2)
   go_wp2_with (first|(go_at_call 174;refine(HK'.out _ HPW.out.ps).mono ?_;rintro e w6 ⟨rfl,hp6⟩;have hk6:=hp6.ex.heap HBK.out (by have:=HPB.out;omega)))
   have ht6:=hsf2.wtext HXX.out
   have hz1:=ba_size S
   have hz2:=ba_size (wordT (takeS 46 st'))
   have c6:w6.cell? ⟨w.heap.size,0,none⟩=some (.string ⟨S.toArray⟩):=by simp[World.cell?,hk6,spI]
   have HR2:=hid (show locLoop (n-1) (S++([46]++wordT (takeS 46 st'))) (wordS (takeS 46 st'))=locQ st∧Sf X (wordS (takeS 46 st'))∧(wordS (takeS 46 st')).l.length≤n-1 from by
    have hpn:=hsf.pos
    obtain⟨n,rfl⟩:∃m,n=m+1:=⟨n-1,by omega⟩
    refine⟨by rw[←hloop,locLoop,if_pos hq];rfl,hsf2.word HXX.out,?_⟩
    have e1:(takeS 46 st').l.length≤n:=by unfold takeS;rw[if_pos hq];simp;omega
    have e2:=word_le (takeS 46 st')
    omega)
   have hn1:1≤n:=by have:=hsf.pos;omega
   clear HWD HK H hloop hpw hblk
   go_region_with (first|(go_at_call 266;(refine(H2.out w6.drew (hp6.of_bel (Bel.refl w6).drew).ps).mono ?_);(rintro e w7 ⟨rfl,hp7⟩);(have hk7:=hp7.ex.heap ((Bel.refl w6).drew.heap hk6) (by have:=HPB.out;omega));(have c7:w7.cell? ⟨w.heap.size,0,none⟩=some (.string ⟨S.toArray⟩):=by simp[World.cell?,hk7,spI]);(have f7:w7.frozen? ⟨w.heap.size,0,none⟩=false:=by simp[World.frozen?,hk7])))
   all_goals
    as_aux_lemma=>
    have hc8:=spI_set (u:=wordT (takeS 46 st')) hk7
    have hp8:=(((HPW.out.trans hp6).of_bel (Bel.refl w6).drew).trans hp7).cell1 (b:=w.heap.size) (o:=0) (v:=.string (⟨S.toArray⟩++(⟨#[46]⟩++⟨(wordT (takeS 46 st')).toArray⟩))) (Bel.refl w) (Nat.le_refl _) HPB.out (fun g hg=>by have:=HOL.out g hg;omega)
    go_wp2_with fail
    go_roundg (gk-1)
    case measure=>omega
    case rel=>exact⟨n-1,S++([46]++wordT (takeS 46 st')),wordS (takeS 46 st'),by omega,by omega,by simp only[List.length_append,List.length_singleton];omega,hid ⟨HR2.out.1,hp8,hc8,HR2.out.2.1,HR2.out.2.2⟩⟩
  ·have HR:=hid (show locQ st=(S,st')∧takeS 46 st'=st' from by
    refine⟨?_,by unfold takeS;rw[if_neg hq]⟩
    rw[←hloop]
    cases n with
    |zero=>rfl
    |succ n=>rw[locLoop,if_neg hq])
   have hq':=good_of hq
   rw[hq',HR.out.2]at HK'
   have HPW:=hid hpw
   have HBK:=hid hblk
   have hs3:=hsf.want HXX.out (k:=64) (by decide)
   have HW:=(show Hid (∀W,Ps X st' sl W→Calls Tryz.prog 175 #[.pointer (some ⟨X.W.heap.size,0,none⟩),.int .u8 64] W fun e w'=>e=.returned (tkV (takeT 64 st'))∧Pw X (wantS 64 st') sl W w')from fun W hW=>want_run X HXX.out st' sl W 64 hW hsf.pos)
   have HD:=(show Hid (∀W,Ps X (wantS 64 st') sl W→Calls Tryz.prog 233 #[.pointer (some ⟨X.W.heap.size,0,none⟩)] W fun e w'=>e=.returned (.tuple #[.string ⟨(domQ (wantS 64 st')).1.toArray⟩,.int .i64 ((domQ (wantS 64 st')).2.1.til:Nat)])∧Pw X (domQ (wantS 64 st')).2.2 sl W w')from fun W hW=>domain_run X HXX.out _ sl W hW hs3)
   have HSQ:=hid (show specQ name st=⟨(domQ (wantS 64 st')).2.2.bad,(domQ (wantS 64 st')).2.2.l,(domQ (wantS 64 st')).2.2.all++[⟨S,(domQ (wantS 64 st')).1,fr,(domQ (wantS 64 st')).2.1.til,name⟩]⟩ by unfold specQ;dsimp only;rw[HR.out.1,hfr])
   have HAL:=hid (show(domQ (wantS 64 st')).2.2.all.length≤65537 by rw[dom_all,show(wantS 64 st').all=st'.all from rfl,show st'.all=st.all by have:=locLoop_all st.l.length (wordT st) (wordS st);have e2:(wordS st).all=st.all:=word_all st;rw[←e2,←this];exact(congrArg (fun x:List UInt8×St=>x.2.all) HR.out.1).symm];exact hall)
   clear hq hq' hloop hpw hblk hsf hs3 hle H HWD HK
   generalize domQ (wantS 64 st')=D at HD HAL HSQ
   obtain⟨D1,D2,D3⟩:=D
   dsimp only at HD HAL HSQ
   generalize wantS 64 st'=st5 at HW HD
   generalize takeT 64 st'=t5 at HW
   go_wp2_with (first|(go_at_call 174;refine(HK'.out _ HPW.out.ps).mono ?_;rintro e w6 ⟨rfl,hp6⟩)|(go_at_call 175;refine(HW.out _ hp6.ps).mono ?_;rintro e w7 ⟨rfl,hp7⟩)|(go_at_call 233;refine(HD.out _ hp7.ps).mono ?_;rintro e w8 ⟨rfl,hp8⟩;have hk8:=((hp6.trans hp7).trans hp8).ex.heap HBK.out (by have:=HPB.out;omega))|(refine wpList_store_one rfl 9 (.tmp 33) (.tmp 31) rfl w.heap.size 1 (.string ⟨D1.toArray⟩) rfl rfl rfl str_size' (spI S fr name) _ hk8 (by simp[spI]) ?_;intro w9 hk9 ho9 hb9 he9;have hs9:w9.heap.size=w8.heap.size:=he9▸size_set1 _ _ _ _;clear he9)|(refine wpList_store_one rfl 3 (.tmp 34) (.tmp 32) rfl w.heap.size 3 (.int .i64 (D2.til:Nat)) rfl rfl rfl int_size [.string ⟨S.toArray⟩,.string ⟨D1.toArray⟩,.int .i64 fr,.int .i64 0,.string ⟨name.toArray⟩] _ hk9 (by simp) ?_;intro wA hkA hoA hbA heA;have hsA:wA.heap.size=w9.heap.size:=heA▸size_set1 _ _ _ _;clear heA))
   try dsimp only[Act.put]
   have hp9:=(((HPW.out.trans hp6).trans hp7).trans hp8).side (Bel.refl w) (Nat.le_refl _) ho9 hs9 hb9 HPB.out (fun g hg=>by have:=HOL.out g hg;omega)
   have hpA:=hp9.side (Bel.refl w) (Nat.le_refl _) hoA hsA hbA HPB.out (fun g hg=>by have:=HOL.out g hg;omega)
   have hxA:wA.heap[w.heap.size]?=some (.cells (spC ⟨S,D1,fr,D2.til,name⟩).toArray 167 (0,0)):=hkA
   obtain⟨kk,cpA,adA,hl1,hl2,hl3,hl4,hl5,hqA⟩:=hpA.ps.at_
   have p3:=(Ps.c1 hqA).2.2.2
   have x0:wA.cell? ⟨w.heap.size,0,none⟩=some (.string ⟨S.toArray⟩):=by simp[World.cell?,hxA,spC]
   have x1:wA.cell? ⟨w.heap.size,1,none⟩=some (.string ⟨D1.toArray⟩):=by simp[World.cell?,hxA,spC]
   have x2:wA.cell? ⟨w.heap.size,2,none⟩=some (.int .i64 fr):=by simp[World.cell?,hxA,spC]
   have x3:wA.cell? ⟨w.heap.size,3,none⟩=some (.int .i64 D2.til):=by simp[World.cell?,hxA,spC]
   have x4:wA.cell? ⟨w.heap.size,4,none⟩=some (.string ⟨name.toArray⟩):=by simp[World.cell?,hxA,spC]
   have HA:=hid hpA
   have HQ:=hid hqA
   have HLS:=hid (And.intro hl1 (And.intro hl2 (And.intro hl3 (And.intro hl4 hl5))))
   have hAp:=HA.out.ps.pb
   have hAo:wA.drew.ownsRow (X.W.heap.size+1) 167 5 sl D3.all.length (spCs D3.all):=own_bel HA.out.ps.own (Bel.refl wA).drew
   obtain⟨v',w',hr,ho',hg'⟩:=append_sp wA.drew (X.W.heap.size+1) sl D3.all ⟨S,D1,fr,D2.til,name⟩ hAo HAL.out (by show _≤wA.heap.size;omega)
   obtain⟨xv,cv,rfl,-,-⟩:=row_shape ho'
   have hr':(Builtin.append_ #[162,162] 162 #[sl,.slice (some ⟨wA.heap.size,0,none⟩) 1 1]).run Tryz.prog (wA.drew.alloc (.cells #[.string ⟨S.toArray⟩,.string ⟨D1.toArray⟩,.int .i64 fr,.int .i64 D2.til,.string ⟨name.toArray⟩] 167))=.ok (.slice xv (D3.all++[(⟨S,D1,fr,D2.til,name⟩:Sp)]).length cv) w':=hr
   have hbw:Bel wA (wA.drew.alloc (.cells #[.string ⟨S.toArray⟩,.string ⟨D1.toArray⟩,.int .i64 fr,.int .i64 D2.til,.string ⟨name.toArray⟩] 167)):=(Bel.refl wA).drew.alloc _
   have p3':(wA.drew.alloc (.cells #[.string ⟨S.toArray⟩,.string ⟨D1.toArray⟩,.int .i64 fr,.int .i64 D2.til,.string ⟨name.toArray⟩] 167)).cell? ⟨X.W.heap.size,3,none⟩=some sl:=(Ps.c1 (hbw.heap HQ.out)).2.2.2
   have hne:∀g,sl.ownBlock=some g→g≠X.W.heap.size:=fun g hg=>by
    rcases hAo.2 with⟨e0,-⟩|⟨g',cap,cur,e0,hgg,-⟩
    ·rw[e0]at hg;cases hg
    ·rw[e0]at hg
     have e1:g'=g:=Option.some.inj hg
     omega
   have hw':w'.heap[X.W.heap.size]?=some (.cells #[.string X.body,.slice adA D3.l.length cpA,.bool D3.bad,sl] 164 (0,0)):=(hg'.block X.W.heap.size (by rw[World.size_alloc];show _<wA.heap.size+1;omega) (fun e=>hne _ e.symm rfl)).trans (hbw.heap HQ.out)
   have c3:w'.cell? ⟨X.W.heap.size,3,none⟩=some sl:=(Ps.c1 hw').2.2.2
   have f3:w'.frozen? ⟨X.W.heap.size,3,none⟩=false:=by simp[World.frozen?,hw']
   have HG:=hid (And.intro hg' (And.intro ho' hw'))
   clear hs9 hsA hfr hp9 hpA hxA hqA hl1 hl2 hl3 hl4 hl5 hk8 hk9 hkA ho9 hoA hb9 hbA hp6 hp7 hp8 hr ho' hg' hw' hAo
   obtain⟨NN,hNN⟩:∃NN,NN=(D3.all++[(⟨S,D1,fr,D2.til,name⟩:Sp)]).length:=⟨_,rfl⟩
   rw[←hNN]at hr' HG
   have HNN:=hid hNN
   clear hNN
   go_region_law (refine step_append_run rfl (.tmp 39) (.tmp 41) #[162,162] rfl sl (.slice (some ⟨wA.heap.size,0,none⟩) 1 1) (.slice xv NN cv) w' rfl rfl hr' ?_)
   all_goals
    show bodyPost Tryz.prog Tryz.f232 _ Exit.normal _ _
    refine bodyPost_end (results_none rfl _ _ _) rfl ?_
    refine⟨rfl,.slice xv NN cv,?_⟩
    rw[HSQ.out]
    have ho:=HG.out.2.1
    exact spec_end HA.out HG.out.1 ho HNN.out HG.out.2.2 ⟨kk,HLS.out⟩
end Go.Proofs.YtmlmkmhkmifnkaaGreatDoor.Ma
namespace Go.Proofs.YtmlmkmhkmifnkaaGreatDoor.Ma
open Go.RowKit
open Ci (Bel own_bel row_shape addr_add own_base)
structure PhS (l:List Tk) (k e:Nat):Prop where
 hn:phN 0 l=k+phN k (l.drop k)
 he:phE 0 0 l=phE k e (l.drop k)
 hj:(k=0∧e=0)∨∃j,∃h:j<l.length,e=l[j].til
theorem PhS.word{l:List Tk}{k e:Nat}(h:PhS l k e)(hk:k<l.length)(hw:wrd l[k].kind=true):PhS l (k+1) l[k].til:=by
 have hd:l.drop k=l[k]::l.drop (k+1):=List.drop_eq_getElem_cons hk
 have c:(wrd l[k].kind||(l[k].kind==46&&k !=0))=true:=by rw[hw];rfl
 refine⟨?_,?_,.inr ⟨k,hk,rfl⟩⟩
 ·rw[h.hn,hd,phN,if_pos c];omega
 ·rw[h.he,hd,phE,if_pos c,if_pos hw]
theorem PhS.dot{l:List Tk}{k e:Nat}(h:PhS l k e)(hk:k<l.length)(hw:wrd l[k].kind=false)(hd:l[k].kind=46)(h0:k≠0):PhS l (k+1) e:=by
 have hd':l.drop k=l[k]::l.drop (k+1):=List.drop_eq_getElem_cons hk
 have c:(wrd l[k].kind||(l[k].kind==46&&k !=0))=true:=by rw[hw,hd];simp[h0]
 refine⟨?_,?_,?_⟩
 ·rw[h.hn,hd',phN,if_pos c];omega
 ·rw[h.he,hd',phE,if_pos c,if_neg (by rw[hw];simp)]
 ·rcases h.hj with⟨e1,-⟩|e1
  ·exact absurd e1 h0
  ·exact .inr e1
theorem PhS.stop{l:List Tk}{k e:Nat}(h:PhS l k e)(hk:k<l.length)(c:(wrd l[k].kind||(l[k].kind==46&&k !=0))=false):phN 0 l=k∧phE 0 0 l=e:=by
 have hd':l.drop k=l[k]::l.drop (k+1):=List.drop_eq_getElem_cons hk
 refine⟨?_,?_⟩
 ·rw[h.hn,hd',phN,if_neg (by rw[c];simp)];omega
 ·rw[h.he,hd',phE,if_neg (by rw[c];simp)]
theorem PhS.end_{l:List Tk}{k e:Nat}(h:PhS l k e)(hk:l.length≤k):phN 0 l=k∧phE 0 0 l=e:=by
 refine⟨?_,?_⟩
 ·rw[h.hn,List.drop_eq_nil_of_le hk];rfl
 ·rw[h.he,List.drop_eq_nil_of_le hk];rfl
theorem take_extract(s:ByteArray)(a b:Nat):(⟨((s.data.toList.take b).drop a).toArray⟩:ByteArray)=s.extract a b:=by
 refine Ci.ext_bytes ?_
 rw[Lib.extract_data,List.drop_take]
theorem tok_c0{w:World}{b:Nat}{t:Tk}{T:TypeId}(h:w.heap[b]?=some (.cells (tkC t).toArray T (0,0))):w.cell? ⟨b,0,none⟩=some (.int .u8 t.kind.toNat):=by simp[World.cell?,h,tkC]
theorem tok_c3{w:World}{b:Nat}{t:Tk}{T:TypeId}(h:w.heap[b]?=some (.cells (tkC t).toArray T (0,0))):w.cell? ⟨b,3,none⟩=some (.int .i64 t.til):=by simp[World.cell?,h,tkC]
def Cx.Pos(X:Cx):Prop:=∀(i j:Nat) (hi:i<X.T.length) (hj:j<X.T.length),X.T[j].til≤X.body.size∧(i≤j→X.T[i].from_≤X.T[j].til)
theorem phrase_run(X:Cx)(hX:X.Ok)(hP:X.Pos)(st:St)(sl:Value)(w:World)(h:Ps X st sl w)(hs:Sf X st):
 Calls Tryz.prog 176 #[.pointer (some ⟨X.W.heap.size,0,none⟩)] w fun e w'=>e=.returned (.tuple #[.int .i64 (phraseN st:Nat),.string ⟨(phraseT X.body.data.toList st).toArray⟩])∧Bel w w':=by
 have hp:=hs.pos
 obtain⟨q,cp,ad,hl,hq1,hcp1,hcp2,had,hpb⟩:=h.at_
 obtain rfl:=had hp
 have HH:=hid h
 have HPB:=hid hpb
 have HTK:=(show Hid (∀W,Bel w W→∀i (hi:i<st.l.length),W.rangeAt X.lb ((q+i)*4) (tkC st.l[i]))from fun W hW i hi=>(h.next hW).tok hX hl i hi)
 have HPS:=hid (show∀j (hj:j<st.l.length),(hd st).from_≤st.l[j].til∧st.l[j].til≤X.body.size from fun j hj=>by
  rw[hd_eq hp]
  have hj':q+j<X.T.length:=by rw[hl,List.length_drop]at hj;omega
  have h0':q+0<X.T.length:=by omega
  have e1:st.l[j]=X.T[q+j]:=by simp[hl]
  have e2:st.l[0]=X.T[q+0]:=by simp[hl]
  rw[e1,e2]
  exact⟨(hP (q+0) (q+j) h0' hj').2 (by omega),(hP (q+0) (q+j) h0' hj').1⟩)
 have HT2:=hid (show w.cell? ⟨X.lb,q*4+2,none⟩=some (.int .i64 (hd st).from_) by have:=HTK.out w (Bel.refl w) 0 hp 2 _ rfl;rw[hd_eq hp];simpa using this)
 have HLE:=hid (hs.le hX)
 have HX0:=hid (show X.lb<w.heap.size from Nat.lt_of_lt_of_le hX.lt h.bel.size)
 have p1:=(Ps.c1 hpb).2.1
 have hlt0:decide (0<st.l.length)=true:=decide_eq_true hp
 have H0:=hid (show PhS st.l 0 0 from⟨by rw[List.drop_zero,Nat.zero_add],by rw[List.drop_zero],.inl ⟨rfl,rfl⟩⟩)
 have HPN:=hid (show phraseN st=if st.bad then 0 else phN 0 st.l from rfl)
 have HPT:=hid (show phraseT X.body.data.toList st=if phraseN st=0 then[]else(X.body.data.toList.take (phE 0 0 st.l)).drop (hd st).from_ from rfl)
 clear h hX hP hs hl had hpb
 go_enter Tryz.func176,Tryz.ntmps176
 go_wp2_with fail
 go_loopg [4,5,14] (st.l.length) (fun gg v4 v5 v14 wr=>∃(k e:Nat),v4=.int .i64 k∧v5=.int .i64 e∧v14=.int .i64 k∧k+gg=st.l.length∧Hid (Bel w wr∧PhS st.l k e∧(st.bad=true→k=0)))
 case atStart=>exact⟨0,0,rfl,rfl,rfl,by omega,hid ⟨Bel.refl w,H0.out,fun _=>rfl⟩⟩
 case round=>
  clear H0
  obtain⟨k,e,rfl,rfl,rfl,hgk,H⟩:=hrel
  have hle6:st.l.length≤65537:=HLE.out
  by_cases hlt:k<st.l.length
  ·have b0:decide ((k:Int)<(st.l.length:Int))=true:=decide_eq_true (by omega)
   have hr:=HTK.out wr H.out.1 k hlt
   have hk65:k≤65537:=by omega
   rw[Nat.add_mul]at hr
   obtain⟨t,ht⟩:∃t,t=st.l[k]'hlt:=⟨_,rfl⟩
   rw[←ht]at hr
   rcases hb:st.bad with _|_
   ·have HBW:=hid H.out.1
    have HP2:=(show Hid (∀W,Bel w W→W.cell? ⟨X.W.heap.size,2,none⟩=some (.bool false))from fun W hW=>hb▸(Ps.c1 (hW.heap HPB.out)).2.2.1)
    by_cases h1:t.kind=97
    ·skip
     have b1:((t.kind.toNat:Int)==97)=true:=byte_eq (n:=97) (by decide) h1
     have HN:=hid (show PhS st.l (k+1) t.til by have:=H.out.2.1.word hlt (by rw[←ht];simp[wrd,h1]);(try rw[←ht]at this);exact this)
     have HB:=hid hb
     clear H
     have HHLT:=hid hlt
     have HGK:=hid hgk
     clear ht hcp1 hcp2 hq1 hgk hle6
     go_wp2_with (first|(with_reducible refine wpList_load_mid (by with_unfolding_all rfl) 218 (.tmp 17) (by with_unfolding_all rfl) X.lb (q*4+k*4) (by with_unfolding_all rfl) (tkC t) _ hr Tryz.underlying218 (by with_unfolding_all rfl) (by with_unfolding_all exact tok_size) ?_)|(with_reducible refine wpList_store_blk (by with_unfolding_all rfl) 218 (.tmp 7) (.tmp 18) (by with_unfolding_all rfl) wr.heap.size (tkC t) (by with_unfolding_all rfl) (by with_unfolding_all rfl) (by with_unfolding_all exact tok_size) (tk_one _) (tkC z) _ (by with_unfolding_all exact heap_alloc_new wr _) (by with_unfolding_all rfl) ?_;intro w3 hc3 ho3 hs3 hb3;have hbb3:=hb3 wr ((Bel.refl wr).alloc _) (Nat.le_refl _);have c0:=tok_c0 hc3;have c3:=tok_c3 hc3;have p2:=HP2.out w3 (HBW.out.trans hbb3);have HB3:=hid hbb3;clear hr ho3 hs3 hb3 hc3 b0 hbb3 hlt)|(with_reducible refine wpList_load_one (by with_unfolding_all rfl) 3 (.tmp 47) (by with_unfolding_all rfl) ⟨wr.heap.size,3,none⟩ (by with_unfolding_all rfl) _ _ c3 Tryz.underlying3 (by with_unfolding_all rfl) ?_))
     go_roundg (gk-1)
     case measure=>have:=HGK.out;have:=HHLT.out;omega
     case rel=>exact⟨k+1,t.til,by go_num,by go_num,by go_num,by have:=HGK.out;have:=HHLT.out;omega,hid ⟨HBW.out.trans HB3.out,HN.out,fun hh=>absurd (hh.symm.trans HB.out) (by simp)⟩⟩
    ·skip
     by_cases h2:t.kind=113
     ·skip
      have b1:((t.kind.toNat:Int)==97)=false:=byte_ne (n:=97) (by decide) h1
      have b2:((t.kind.toNat:Int)==113)=true:=byte_eq (n:=113) (by decide) h2
      have HN:=hid (show PhS st.l (k+1) t.til by have:=H.out.2.1.word hlt (by rw[←ht];simp[wrd,h2]);(try rw[←ht]at this);exact this)
      have HB:=hid hb
      clear H
      have HHLT:=hid hlt
      have HGK:=hid hgk
      clear ht hcp1 hcp2 hq1 hgk hle6
      go_wp2_with (first|(with_reducible refine wpList_load_mid (by with_unfolding_all rfl) 218 (.tmp 17) (by with_unfolding_all rfl) X.lb (q*4+k*4) (by with_unfolding_all rfl) (tkC t) _ hr Tryz.underlying218 (by with_unfolding_all rfl) (by with_unfolding_all exact tok_size) ?_)|(with_reducible refine wpList_store_blk (by with_unfolding_all rfl) 218 (.tmp 7) (.tmp 18) (by with_unfolding_all rfl) wr.heap.size (tkC t) (by with_unfolding_all rfl) (by with_unfolding_all rfl) (by with_unfolding_all exact tok_size) (tk_one _) (tkC z) _ (by with_unfolding_all exact heap_alloc_new wr _) (by with_unfolding_all rfl) ?_;intro w3 hc3 ho3 hs3 hb3;have hbb3:=hb3 wr ((Bel.refl wr).alloc _) (Nat.le_refl _);have c0:=tok_c0 hc3;have c3:=tok_c3 hc3;have p2:=HP2.out w3 (HBW.out.trans hbb3);have HB3:=hid hbb3;clear hr ho3 hs3 hb3 hc3 b0 hbb3 hlt)|(with_reducible refine wpList_load_one (by with_unfolding_all rfl) 3 (.tmp 47) (by with_unfolding_all rfl) ⟨wr.heap.size,3,none⟩ (by with_unfolding_all rfl) _ _ c3 Tryz.underlying3 (by with_unfolding_all rfl) ?_))
      go_roundg (gk-1)
      case measure=>have:=HGK.out;have:=HHLT.out;omega
      case rel=>exact⟨k+1,t.til,by go_num,by go_num,by go_num,by have:=HGK.out;have:=HHLT.out;omega,hid ⟨HBW.out.trans HB3.out,HN.out,fun hh=>absurd (hh.symm.trans HB.out) (by simp)⟩⟩
     ·skip
      by_cases h3:t.kind=46
      ·skip
       by_cases h4:k≠0
       ·skip
        have b1:((t.kind.toNat:Int)==97)=false:=byte_ne (n:=97) (by decide) h1
        have b2:((t.kind.toNat:Int)==113)=false:=byte_ne (n:=113) (by decide) h2
        have b3:((t.kind.toNat:Int)==46)=true:=byte_eq (n:=46) (by decide) h3
        have bz:((k:Int)==0)=false:=by rw[beq_eq_false_iff_ne];omega
        have HN:=hid (show PhS st.l (k+1) e by have:=H.out.2.1.dot hlt (by rw[←ht];simp[wrd,h1,h2]) (by rw[←ht];exact h3) h4;(try rw[←ht]at this);exact this)
        have HB:=hid hb
        clear H
        have HHLT:=hid hlt
        have HGK:=hid hgk
        clear ht hcp1 hcp2 hq1 hgk hle6
        go_wp2_with (first|(with_reducible refine wpList_load_mid (by with_unfolding_all rfl) 218 (.tmp 17) (by with_unfolding_all rfl) X.lb (q*4+k*4) (by with_unfolding_all rfl) (tkC t) _ hr Tryz.underlying218 (by with_unfolding_all rfl) (by with_unfolding_all exact tok_size) ?_)|(with_reducible refine wpList_store_blk (by with_unfolding_all rfl) 218 (.tmp 7) (.tmp 18) (by with_unfolding_all rfl) wr.heap.size (tkC t) (by with_unfolding_all rfl) (by with_unfolding_all rfl) (by with_unfolding_all exact tok_size) (tk_one _) (tkC z) _ (by with_unfolding_all exact heap_alloc_new wr _) (by with_unfolding_all rfl) ?_;intro w3 hc3 ho3 hs3 hb3;have hbb3:=hb3 wr ((Bel.refl wr).alloc _) (Nat.le_refl _);have c0:=tok_c0 hc3;have c3:=tok_c3 hc3;have p2:=HP2.out w3 (HBW.out.trans hbb3);have HB3:=hid hbb3;clear hr ho3 hs3 hb3 hc3 b0 hbb3 hlt)|(with_reducible refine wpList_load_one (by with_unfolding_all rfl) 3 (.tmp 47) (by with_unfolding_all rfl) ⟨wr.heap.size,3,none⟩ (by with_unfolding_all rfl) _ _ c3 Tryz.underlying3 (by with_unfolding_all rfl) ?_))
        go_roundg (gk-1)
        case measure=>have:=HGK.out;have:=HHLT.out;omega
        case rel=>exact⟨k+1,e,by go_num,by go_num,by go_num,by have:=HGK.out;have:=HHLT.out;omega,hid ⟨HBW.out.trans HB3.out,HN.out,fun hh=>absurd (hh.symm.trans HB.out) (by simp)⟩⟩
       ·skip
        have h4:k=0:=by omega
        subst h4
        have b1:((t.kind.toNat:Int)==97)=false:=byte_ne (n:=97) (by decide) h1
        have b2:((t.kind.toNat:Int)==113)=false:=byte_ne (n:=113) (by decide) h2
        have b3:((t.kind.toNat:Int)==46)=true:=byte_eq (n:=46) (by decide) h3
        have hr0:wr.rangeAt X.lb (q*4) (tkC t):=by simpa using hr
        clear hr
        have hE:=H.out.2.1.stop hlt (by rw[←ht];simp[wrd,h1,h2])
        have HR:=hid (show phraseN st=0∧phraseT X.body.data.toList st=[]from by
         have e1:phraseN st=0:=by rw[HPN.out,hE.1];split<;>rfl
         exact⟨e1,by rw[HPT.out,if_pos e1]⟩)
        clear H hE
        (try (clear ht))
        (try (clear hcp1 hcp2 hq1 hgk hle6))
        go_wp2_with (first|(with_reducible refine wpList_load_mid (by with_unfolding_all rfl) 218 (.tmp 17) (by with_unfolding_all rfl) X.lb (q*4) (by with_unfolding_all rfl) (tkC t) _ hr0 Tryz.underlying218 (by with_unfolding_all rfl) (by with_unfolding_all exact tok_size) ?_)|(with_reducible refine wpList_store_blk (by with_unfolding_all rfl) 218 (.tmp 7) (.tmp 18) (by with_unfolding_all rfl) wr.heap.size (tkC t) (by with_unfolding_all rfl) (by with_unfolding_all rfl) (by with_unfolding_all exact tok_size) (tk_one _) (tkC z) _ (by with_unfolding_all exact heap_alloc_new wr _) (by with_unfolding_all rfl) ?_;intro w3 hc3 ho3 hs3 hb3;have hbb3:=hb3 wr ((Bel.refl wr).alloc _) (Nat.le_refl _);have c0:=tok_c0 hc3;have c3:=tok_c3 hc3;have p2:=HP2.out w3 (HBW.out.trans hbb3);have HB3:=hid hbb3;clear hr0 ho3 hs3 hb3 hc3 b0 hbb3 hlt)|(with_reducible refine wpList_load_one (by with_unfolding_all rfl) 3 (.tmp 47) (by with_unfolding_all rfl) ⟨wr.heap.size,3,none⟩ (by with_unfolding_all rfl) _ _ c3 Tryz.underlying3 (by with_unfolding_all rfl) ?_))
        go_ret2
        rw[HR.out.1,HR.out.2]
        exact⟨rfl,HBW.out.trans HB3.out⟩
      ·skip
       have b1:((t.kind.toNat:Int)==97)=false:=byte_ne (n:=97) (by decide) h1
       have b2:((t.kind.toNat:Int)==113)=false:=byte_ne (n:=113) (by decide) h2
       have b3:((t.kind.toNat:Int)==46)=false:=byte_ne (n:=46) (by decide) h3
       have b3n:¬((t.kind.toNat:Int)=46):=by simpa using b3
       have hE:=H.out.2.1.stop hlt (by rw[←ht];simp[wrd,h1,h2,h3])
       obtain⟨hE1,hE2⟩:=hE
       by_cases hk0:k=0
       ·subst hk0
        have HR:=hid (show phraseN st=0∧phraseT X.body.data.toList st=[]from by
         have e1:phraseN st=0:=by rw[HPN.out,hE1];split<;>rfl
         exact⟨e1,by rw[HPT.out,if_pos e1]⟩)
        have HBW:=hid H.out.1
        clear H
        (try (clear ht))
        (try (clear hcp1 hcp2 hq1 hgk hle6))
        have hr0:wr.rangeAt X.lb (q*4) (tkC t):=by simpa using hr
        clear hr
        go_wp2_with (first|(with_reducible refine wpList_load_mid (by with_unfolding_all rfl) 218 (.tmp 17) (by with_unfolding_all rfl) X.lb (q*4) (by with_unfolding_all rfl) (tkC t) _ hr0 Tryz.underlying218 (by with_unfolding_all rfl) (by with_unfolding_all exact tok_size) ?_)|(with_reducible refine wpList_store_blk (by with_unfolding_all rfl) 218 (.tmp 7) (.tmp 18) (by with_unfolding_all rfl) wr.heap.size (tkC t) (by with_unfolding_all rfl) (by with_unfolding_all rfl) (by with_unfolding_all exact tok_size) (tk_one _) (tkC z) _ (by with_unfolding_all exact heap_alloc_new wr _) (by with_unfolding_all rfl) ?_;intro w3 hc3 ho3 hs3 hb3;have hbb3:=hb3 wr ((Bel.refl wr).alloc _) (Nat.le_refl _);have c0:=tok_c0 hc3;have c3:=tok_c3 hc3;have p2:=HP2.out w3 (HBW.out.trans hbb3);have HB3:=hid hbb3;clear hr0 ho3 hs3 hb3 hc3 b0 hbb3 hlt)|(with_reducible refine wpList_load_one (by with_unfolding_all rfl) 3 (.tmp 47) (by with_unfolding_all rfl) ⟨wr.heap.size,3,none⟩ (by with_unfolding_all rfl) _ _ c3 Tryz.underlying3 (by with_unfolding_all rfl) ?_))
        go_ret2
        rw[HR.out.1,HR.out.2]
        exact⟨rfl,HBW.out.trans HB3.out⟩
       ·have hz:((k:Int)==0)=false:=by rw[beq_eq_false_iff_ne];omega
        have hbf:st.bad=false:=by
         rcases hbb:st.bad with _|_
         ·rfl
         ·exact absurd (H.out.2.2 hbb) hk0
        have HR:=hid (show phraseN st=k∧phraseT X.body.data.toList st=(X.body.data.toList.take e).drop (hd st).from_ from by
         have e1:phraseN st=k:=by rw[HPN.out,hbf];exact hE1
         exact⟨e1,by rw[HPT.out,e1,if_neg hk0,hE2]⟩)
        obtain⟨j,hj,hej⟩:∃j,∃h:j<st.l.length,e=st.l[j].til:=by
         rcases H.out.2.1.hj with⟨e1,-⟩|e1
         ·exact absurd e1 hk0
         ·exact e1
        have hps:=HPS.out j hj
        rw[←hej]at hps
        obtain⟨hps1,hps2⟩:=hps
        have HBW:=hid H.out.1
        clear H hej
        (try (clear ht))
        (try (clear hcp1 hcp2 hq1 hgk hle6))
        go_wp2_with (first|(with_reducible refine wpList_load_mid (by with_unfolding_all rfl) 218 (.tmp 17) (by with_unfolding_all rfl) X.lb (q*4+k*4) (by with_unfolding_all rfl) (tkC t) _ hr Tryz.underlying218 (by with_unfolding_all rfl) (by with_unfolding_all exact tok_size) ?_)|(with_reducible refine wpList_store_blk (by with_unfolding_all rfl) 218 (.tmp 7) (.tmp 18) (by with_unfolding_all rfl) wr.heap.size (tkC t) (by with_unfolding_all rfl) (by with_unfolding_all rfl) (by with_unfolding_all exact tok_size) (tk_one _) (tkC z) _ (by with_unfolding_all exact heap_alloc_new wr _) (by with_unfolding_all rfl) ?_;intro w3 hc3 ho3 hs3 hb3;have hbb3:=hb3 wr ((Bel.refl wr).alloc _) (Nat.le_refl _);have c0:=tok_c0 hc3;have c3:=tok_c3 hc3;have p2:=HP2.out w3 (HBW.out.trans hbb3);have HB3:=hid hbb3;clear hr ho3 hs3 hb3 hc3 b0 hbb3 hlt)|(with_reducible refine wpList_load_one (by with_unfolding_all rfl) 3 (.tmp 47) (by with_unfolding_all rfl) ⟨wr.heap.size,3,none⟩ (by with_unfolding_all rfl) _ _ c3 Tryz.underlying3 (by with_unfolding_all rfl) ?_))
        have HW2:=hid (show Bel w w3 from HBW.out.trans HB3.out)
        have q0:=(Ps.c1 (HW2.out.heap HPB.out)).1
        have q1:=(Ps.c1 (HW2.out.heap HPB.out)).2.1
        have q2:=(HW2.out.block X.lb (HX0.out))
        have t2:World.cell? w3 ⟨X.lb,q*4+2,none⟩=some (.int .i64 (hd st).from_):=by
         have:=HT2.out
         unfold World.cell? at this⊢
         simp only at this⊢
         rw[q2];exact this
        clear q2
        go_quiet (fail)
        go_wp2_with fail
        go_ret2
        rw[HR.out.1,HR.out.2,take_extract]
        exact⟨rfl,HW2.out.drewN _⟩
   ·have HBW:=hid H.out.1
    have HP2:=(show Hid (∀W,Bel w W→W.cell? ⟨X.W.heap.size,2,none⟩=some (.bool true))from fun W hW=>hb▸(Ps.c1 (hW.heap HPB.out)).2.2.1)
    have h4:k=0:=H.out.2.2 hb
    subst h4
    have hr0:wr.rangeAt X.lb (q*4) (tkC t):=by simpa using hr
    clear hr
    have HR:=hid (show phraseN st=0∧phraseT X.body.data.toList st=[]from by
     have e1:phraseN st=0:=by rw[HPN.out,hb];rfl
     exact⟨e1,by rw[HPT.out,if_pos e1]⟩)
    clear H
    have HHLT:=hid hlt
    have HGK:=hid hgk
    clear ht hcp1 hcp2 hq1 hgk hle6
    go_wp2_with (first|(with_reducible refine wpList_load_mid (by with_unfolding_all rfl) 218 (.tmp 17) (by with_unfolding_all rfl) X.lb (q*4) (by with_unfolding_all rfl) (tkC t) _ hr0 Tryz.underlying218 (by with_unfolding_all rfl) (by with_unfolding_all exact tok_size) ?_)|(with_reducible refine wpList_store_blk (by with_unfolding_all rfl) 218 (.tmp 7) (.tmp 18) (by with_unfolding_all rfl) wr.heap.size (tkC t) (by with_unfolding_all rfl) (by with_unfolding_all rfl) (by with_unfolding_all exact tok_size) (tk_one _) (tkC z) _ (by with_unfolding_all exact heap_alloc_new wr _) (by with_unfolding_all rfl) ?_;intro w3 hc3 ho3 hs3 hb3;have hbb3:=hb3 wr ((Bel.refl wr).alloc _) (Nat.le_refl _);have c0:=tok_c0 hc3;have c3:=tok_c3 hc3;have p2:=HP2.out w3 (HBW.out.trans hbb3);have HB3:=hid hbb3;clear hr0 ho3 hs3 hb3 hc3 b0 hbb3 hlt)|(with_reducible refine wpList_load_one (by with_unfolding_all rfl) 3 (.tmp 47) (by with_unfolding_all rfl) ⟨wr.heap.size,3,none⟩ (by with_unfolding_all rfl) _ _ c3 Tryz.underlying3 (by with_unfolding_all rfl) ?_))
    all_goals
     go_ret2
     rw[HR.out.1,HR.out.2]
     exact⟨rfl,HBW.out.trans HB3.out⟩
  ·have b0:decide ((k:Int)<(st.l.length:Int))=false:=decide_eq_false (by omega)
   have hk2:k=st.l.length:=by omega
   have hE:=H.out.2.1.end_ (by omega)
   obtain⟨hE1,hE2⟩:=hE
   by_cases hk0:k=0
   ·exact absurd hp (by omega)
   ·have hz:((k:Int)==0)=false:=by rw[beq_eq_false_iff_ne];omega
    have hbf:st.bad=false:=by
     rcases hbb:st.bad with _|_
     ·rfl
     ·exact absurd (H.out.2.2 hbb) hk0
    have HR:=hid (show phraseN st=k∧phraseT X.body.data.toList st=(X.body.data.toList.take e).drop (hd st).from_ from by
     have e1:phraseN st=k:=by rw[HPN.out,hbf];exact hE1
     exact⟨e1,by rw[HPT.out,e1,if_neg hk0,hE2]⟩)
    obtain⟨j,hj,hej⟩:∃j,∃h:j<st.l.length,e=st.l[j].til:=by
     rcases H.out.2.1.hj with⟨e1,-⟩|e1
     ·exact absurd e1 hk0
     ·exact e1
    have hps:=HPS.out j hj
    rw[←hej]at hps
    obtain⟨hps1,hps2⟩:=hps
    have HBW:=hid H.out.1
    clear H hej
    (try (clear ht))
    (try (clear hcp1 hcp2 hq1 hgk hle6))
    go_wp2_with (first|(with_reducible refine wpList_load_mid (by with_unfolding_all rfl) 218 (.tmp 17) (by with_unfolding_all rfl) X.lb (q*4+k*4) (by with_unfolding_all rfl) (tkC t) _ hr Tryz.underlying218 (by with_unfolding_all rfl) (by with_unfolding_all exact tok_size) ?_)|(with_reducible refine wpList_store_blk (by with_unfolding_all rfl) 218 (.tmp 7) (.tmp 18) (by with_unfolding_all rfl) wr.heap.size (tkC t) (by with_unfolding_all rfl) (by with_unfolding_all rfl) (by with_unfolding_all exact tok_size) (tk_one _) (tkC z) _ (by with_unfolding_all exact heap_alloc_new wr _) (by with_unfolding_all rfl) ?_;intro w3 hc3 ho3 hs3 hb3;have hbb3:=hb3 wr ((Bel.refl wr).alloc _) (Nat.le_refl _);have c0:=tok_c0 hc3;have c3:=tok_c3 hc3;have p2:=HP2.out w3 (HBW.out.trans hbb3);have HB3:=hid hbb3;clear hr ho3 hs3 hb3 hc3 b0 hbb3 hlt)|(with_reducible refine wpList_load_one (by with_unfolding_all rfl) 3 (.tmp 47) (by with_unfolding_all rfl) ⟨wr.heap.size,3,none⟩ (by with_unfolding_all rfl) _ _ c3 Tryz.underlying3 (by with_unfolding_all rfl) ?_))
    have HW2:=hid (show Bel w wr from HBW.out)
    have q0:=(Ps.c1 (HW2.out.heap HPB.out)).1
    have q1:=(Ps.c1 (HW2.out.heap HPB.out)).2.1
    have q2:=(HW2.out.block X.lb (HX0.out))
    have t2:World.cell? wr ⟨X.lb,q*4+2,none⟩=some (.int .i64 (hd st).from_):=by
     have:=HT2.out
     unfold World.cell? at this⊢
     simp only at this⊢
     rw[q2];exact this
    clear q2
    go_quiet (fail)
    go_wp2_with fail
    go_ret2
    rw[HR.out.1,HR.out.2,take_extract]
    exact⟨rfl,HW2.out.drewN _⟩
end Go.Proofs.YtmlmkmhkmifnkaaGreatDoor.Ma
namespace Go.Proofs.YtmlmkmhkmifnkaaGreatDoor.Ma
open Go.RowKit
theorem phN_lt:∀(l:List Tk) (k:Nat),(∃t∈l,t.kind=101)→phN k l<l.length
 |[],_,h=>by obtain⟨t,h,_⟩:=h;simp at h
 |t::l,k,h=>by
  rw[phN,List.length_cons]
  by_cases c:(wrd t.kind||(t.kind==46&&k !=0))=true
  ·rw[if_pos c]
   have hl:∃u∈l,u.kind=101:=by
    obtain⟨u,hu,hk⟩:=h
    rcases List.mem_cons.1 hu with rfl|hu
    ·rw[hk]at c;simp[wrd]at c
    ·exact⟨u,hu,hk⟩
   have:=phN_lt l (k+1) hl
   omega
  ·rw[if_neg c];omega
theorem Sf.end_{X:Cx}{st:St}(hX:X.Ok)(h:Sf X st):∃t∈st.l,t.kind=101:=by
 obtain⟨q,e,hq⟩:=h
 obtain⟨T',en,eT,h1,_⟩:=hX.en
 refine⟨en,?_,h1⟩
 have hl:q≤T'.length:=by rw[eT,List.length_append,List.length_singleton]at hq;omega
 rw[e,eT,List.drop_append_of_le_length hl]
 simp
theorem Sf.ph{X:Cx}{st:St}(hX:X.Ok)(h:Sf X st):phraseN st<st.l.length:=by
 unfold phraseN
 split
 ·exact h.pos
 ·exact phN_lt _ _ (h.end_ hX)
theorem Sf.domLoop{X:Cx}(hX:X.Ok):∀(n:Nat) (s:List UInt8) (t:Tk) (st:St),Sf X st→Sf X (domLoop n s t st).2.2
 |0,_,_,_,h=>h
 |n+1,s,t,st,h=>by
  rw[Ma.domLoop]
  split
  ·exact Sf.domLoop hX n _ _ _ ((h.take hX (by decide)).want hX (by decide))
  ·exact h
theorem Sf.dom{X:Cx}{st:St}(hX:X.Ok)(h:Sf X st):Sf X (domQ st).2.2:=by
 unfold domQ
 split
 ·exact h.take hX (by decide)
 ·exact Sf.domLoop hX _ _ _ _ (h.want hX (by decide))
theorem Sf.locLoop{X:Cx}(hX:X.Ok):∀(n:Nat) (s:List UInt8) (st:St),Sf X st→Sf X (locLoop n s st).2
 |0,_,_,h=>h
 |n+1,s,st,h=>by
  rw[Ma.locLoop]
  split
  ·exact Sf.locLoop hX n _ _ ((h.take hX (by decide)).word hX)
  ·exact h
theorem Sf.spec{X:Cx}{st:St}(hX:X.Ok)(h:Sf X st)(name:List UInt8):Sf X (specQ name st):=by
 have h1:Sf X (locQ st).2:=Sf.locLoop hX _ _ _ (h.word hX)
 exact((h1.want hX (k:=64) (by decide)).dom hX).same rfl
theorem Sf.route{X:Cx}(hX:X.Ok):∀(n:Nat) (st:St),Sf X st→Sf X (routeQ n st)
 |0,_,h=>h
 |n+1,st,h=>by
  have h1:Sf X (domQ (wantS 64 st)).2.2:=(h.want hX (by decide)).dom hX
  show Sf X (if isQ 44 (domQ (wantS 64 st)).2.2=true then routeQ n (takeS 44 (domQ (wantS 64 st)).2.2)else(domQ (wantS 64 st)).2.2)
  split
  ·exact Sf.route hX n _ (h1.take hX (by decide))
  ·exact h1
theorem Sf.behind{X:Cx}{st:St}(hX:X.Ok)(h:Sf X st)(hk:(st.l.getD (phraseN st) z).kind≠101):Sf X ⟨st.bad,st.l.drop (phraseN st+1),st.all⟩:=by
 refine h.drop hX (phraseN st) (h.ph hX) ?_ st.bad st.all
 rw[List.getD_eq_getElem?_getD,List.getElem?_eq_getElem (h.ph hX)]at hk
 exact hk
theorem Sf.mailbox{X:Cx}{st:St}(hX:X.Ok)(h:Sf X st)(body:List UInt8):Sf X (mailboxQ body st):=by
 unfold mailboxQ
 by_cases hq:(st.l.getD (phraseN st) z).kind≠60
 ·rw[if_pos hq]
  exact h.spec hX []
 ·rw[if_neg hq]
  have hk:(st.l.getD (phraseN st) z).kind=60:=Classical.not_not.1 hq
  have h1:=h.behind hX (by rw[hk];decide)
  refine Sf.want hX (Sf.spec hX ?_ _) (by decide)
  split
  ·exact(Sf.route hX _ _ h1).want hX (by decide)
  ·exact h1
end Go.Proofs.YtmlmkmhkmifnkaaGreatDoor.Ma