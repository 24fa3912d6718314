import Derived.Test.YtmlmkmhkmifnkaaGreatDoorK09
import Derived.Laws.ResultCell
set_option maxHeartbeats 16000000
set_option maxRecDepth 1000000
namespace Go.Proofs.YtmlmkmhkmifnkaaGreatDoor.Ma
open Go.RowKit
open Ci (Bel own_bel row_shape addr_add own_base)
theorem run_loadVar_one{P:Program}(w:World)(ad:Addr)(ty:TypeId)(v:Value)(d:TypeDesc)(hc:w.cell? ad=some v)(hu:P.underlying ty=some d)(hd:d.isRow=false):
 (loadVar ty ad).run P w=.ok v w:=by
 have hagg:(isAgg ty).run P w=.ok false w:=by
  unfold isAgg
  rw[Sem.run_bind,run_underlying hu w]
  cases d<;>simp_all
 simp[loadVar,Sem.run_bind,hagg,hc]
theorem wpList_load_one {P:Program} {ops:Array Oper} {rest:List Oper} {op:Oper} {a:Act} {w:World} {Q:Exit→Act→World→Prop} (hgd:op.guard=none) (ty:TypeId) (x:Operand) (ho:op.op=.load ty x)
 (ad:Addr) (hx:a.eval x=.pointer (some ad)) (v:Value) (d:TypeDesc) (hc:w.cell? ad=some v) (hu:P.underlying ty=some d) (hd:d.isRow=false)
 (h:wpList P ops Q rest (a.put op.dst v) w):wpList P ops Q (op::rest) a w:=by
 refine wpList_plain hgd fun _ hK=> ?_
 unfold Oper.wp execOp
 simp only[ho,hx,Instr.loadAt,Instr.sureAddr,Sem.run_bind,Sem.run_pure,Result.andThen_ok,run_loadVar_one w ad ty v d hc hu hd]
 exact hK _ _ h
structure Cx where
 W:World
 lb:Nat
 body:ByteArray
 T:List Tk
def spC(x:Sp):List Value:=[.string ⟨x.loc.toArray⟩,.string ⟨x.dom.toArray⟩,.int .i64 x.from_,.int .i64 x.til,.string ⟨x.name.toArray⟩]
def spCs(l:List Sp):List Value:=l.flatMap spC
structure Cx.Ok (X:Cx):Prop where
 tk:∀j v,(tkCs X.T)[j]?=some v→X.W.cell? ⟨X.lb,j,none⟩=some v
 lt:X.lb<X.W.heap.size
 num:X.T.length≤65537
 en:∃T' e,X.T=T'++[e]∧e.kind=101∧∀t∈T',t.kind≠101
 nn:∀t∈X.T,t.kind≠0
 tx:∀t∈X.T,t.text.length≤65536
structure Ps (X:Cx) (st:St) (sl:Value) (w:World):Prop where
 bel:Bel X.W w
 at_:∃(k cp:Nat) (ad:Option Addr),st.l=X.T.drop k∧k≤X.T.length∧st.l.length≤cp∧cp≤maxLen∧(0<st.l.length→ad=some ⟨X.lb,k*4,none⟩)∧
  w.heap[X.W.heap.size]?=some (.cells #[.string X.body,.slice ad st.l.length cp,.bool st.bad,sl] 164 (0,0))
 own:w.ownsRow (X.W.heap.size+1) 167 5 sl st.all.length (spCs st.all)
structure Exc (b:Nat) (w w':World):Prop where
 le:w.heap.size≤w'.heap.size
 eq:∀j,j<w.heap.size→j≠b→w'.heap[j]?=w.heap[j]?
theorem Exc.trans{b:Nat}{w w1 w2:World}(h:Exc b w w1)(k:Exc b w1 w2):Exc b w w2:=
 ⟨Nat.le_trans h.le k.le,fun j hj hn=>(k.eq j (Nat.lt_of_lt_of_le hj h.le) hn).trans (h.eq j hj hn)⟩
theorem Exc.bel{b:Nat}{w w':World}(h:Bel w w'):Exc b w w':=⟨h.size,fun j hj _=>h.block j hj⟩
theorem Exc.heap{b:Nat}{w w':World}(h:Exc b w w'){j:Nat}{o:Obj}(hj:w.heap[j]?=some o)(hn:j≠b):w'.heap[j]?=some o:=
 (h.eq j (Array.getElem?_eq_some_iff.1 hj).1 hn).trans hj
theorem own_other{w w':World}{base b e size n:Nat}{v:Value}{xs:List Value}(h:w.ownsRow base e size v n xs)(hb:b<base)(he:∀k,k≠b→w'.heap[k]?=w.heap[k]?):w'.ownsRow base e size v n xs:=by
 refine⟨h.1,?_⟩
 rcases h.2 with f|⟨g,cap,cur,rfl,hg,hh,rest⟩
 ·exact .inl f
 ·exact .inr ⟨g,cap,cur,rfl,hg,by rw[he g (by omega)];exact hh,rest⟩
theorem Ps.next{X:Cx}{st:St}{sl:Value}{w w':World}(h:Ps X st sl w)(hb:Bel w w'):Ps X st sl w':=by
 obtain⟨k,cp,ad,h1,h2,h3,h4,h5,h6⟩:=h.at_
 exact⟨h.bel.trans hb,⟨k,cp,ad,h1,h2,h3,h4,h5,hb.heap h6⟩,own_bel h.own hb⟩
theorem Ps.upd {X:Cx} {st st':St} {sl:Value} {w w':World} (h:Ps X st sl w) (he:∀k,k≠X.W.heap.size→w'.heap[k]?=w.heap[k]?) (hb:∀U:World,Bel U w→U.heap.size≤X.W.heap.size→Bel U w') (ha:st'.all=st.all)
 (hat:∃(k cp:Nat) (ad:Option Addr),st'.l=X.T.drop k∧k≤X.T.length∧st'.l.length≤cp∧cp≤maxLen∧(0<st'.l.length→ad=some ⟨X.lb,k*4,none⟩)∧
 w'.heap[X.W.heap.size]?=some (.cells #[.string X.body,.slice ad st'.l.length cp,.bool st'.bad,sl] 164 (0,0))):Ps X st' sl w':=
 ⟨hb _ h.bel (Nat.le_refl _),hat,by rw[ha];exact own_other h.own (Nat.lt_succ_self _) he⟩
theorem Exc.upd{b:Nat}{w w':World}(hs:w.heap.size≤w'.heap.size)(he:∀k,k≠b→w'.heap[k]?=w.heap[k]?):Exc b w w':=⟨hs,fun j _ hn=>he j hn⟩
theorem size_set1(w:World)(b o:Nat)(v:Value):(w.setCells b o [v]).heap.size=w.heap.size:=Ci.size_setCells b [v] o w
theorem tkCs_at(T:List Tk)(k:Nat)(hk:k<T.length)(j:Nat)(v:Value)(hv:(tkC T[k])[j]?=some v):(tkCs T)[k*4+j]?=some v:=by
 induction T generalizing k with
 |nil=>simp at hk
 |cons t T ih=>
  show(tkC t++tkCs T)[k*4+j]?=some v
  have hl:(tkC t).length=4:=rfl
  cases k with
  |zero=>
   have hj:j<4:=by
    have:=(List.getElem?_eq_some_iff.1 hv).1
    exact this
   rw[List.getElem?_append_left (by omega),Nat.zero_mul,Nat.zero_add]
   exact hv
  |succ k=>
   rw[List.getElem?_append_right (by omega),hl,show(k+1)*4+j-4=k*4+j by omega]
   exact ih k (by simp at hk;omega) hv
theorem Ps.tok{X:Cx}{st:St}{sl:Value}{w:World}(hX:X.Ok)(h:Ps X st sl w){k:Nat}(hl:st.l=X.T.drop k)(i:Nat)(hi:i<st.l.length):w.rangeAt X.lb ((k+i)*4) (tkC st.l[i]):=by
 have hk:k+i<X.T.length:=by rw[hl,List.length_drop]at hi;omega
 have e:st.l[i]=X.T[k+i]:=by simp[hl]
 intro j v hv
 rw[e]at hv
 have hc:=hX.tk _ v (tkCs_at X.T (k+i) hk j v hv)
 unfold World.cell? at hc⊢
 simp only at hc⊢
 rw[h.bel.block X.lb hX.lt]
 exact hc
theorem hd_eq{st:St}(h:0<st.l.length):hd st=st.l[0]:=by
 unfold hd
 cases st with
 |mk bad l all=>cases l with
  |nil=>simp at h
  |cons t l=>rfl
theorem is_run(X:Cx)(hX:X.Ok)(st:St)(sl:Value)(w:World)(k:UInt8)(h:Ps X st sl w)(hne:0<st.l.length):
 Calls Tryz.prog 173 #[.pointer (some ⟨X.W.heap.size,0,none⟩),.int .u8 k.toNat] w fun e w'=>e=.returned (.bool (isQ k st))∧w'=w:=by
 obtain⟨q,cp,ad,hl,hq,hc1,hc2,had,hp⟩:=h.at_
 obtain rfl:=had hne
 have ht:=h.tok hX hl 0 hne
 have t0:w.cell? ⟨X.lb,q*4,none⟩=some (.int .u8 (hd st).kind.toNat):=by rw[hd_eq hne];have:=ht 0 _ rfl;simpa using this
 have p1:w.cell? ⟨X.W.heap.size,1,none⟩=some (.slice (some ⟨X.lb,q*4,none⟩) st.l.length cp):=by simp[World.cell?,hp]
 have p2:w.cell? ⟨X.W.heap.size,2,none⟩=some (.bool st.bad):=by simp[World.cell?,hp]
 have HQ:=hid (show isQ k st=(!st.bad&&(hd st).kind==k)from rfl)
 generalize hd st=y at t0 HQ
 have hn:=hid hne
 have hlt:decide (0<st.l.length)=true:=decide_eq_true hne
 have hu:(((y.kind).toNat:Int)==(k.toNat:Int))=(y.kind==k):=by
  by_cases e:y.kind=k
  ·rw[e];simp
  ·have h1:(y.kind==k)=false:=by simpa using e
   rw[h1,beq_eq_false_iff_ne]
   intro f
   exact e (UInt8.toNat_inj.1 (by omega))
 rcases hb:st.bad with _|_
 ·rw[hb]at p2 HQ
  clear hp ht hc2 hl hb
  go_enter Tryz.func173,Tryz.ntmps173
  go_wp2_with fail
  go_ret
  exact⟨by rw[HQ.out];rfl,rfl⟩
 ·rw[hb]at p2 HQ
  clear hp ht hc2 hl hb
  go_enter Tryz.func173,Tryz.ntmps173
  go_wp2_with fail
  go_ret
  exact⟨by rw[HQ.out];rfl,rfl⟩
def tkV(t:Tk):Value:=.agg (tkC t).toArray
theorem tok_size:(Tryz.prog.info? 218).map (·.size)=some 4:=by kernel_rfl
theorem slice_size:(Tryz.prog.info? 158).map (·.size)=some 1:=by kernel_rfl
theorem bool_size:(Tryz.prog.info? 4).map (·.size)=some 1:=by kernel_rfl
theorem str_size:(Tryz.prog.info? 9).map (·.size)=some 1:=by kernel_rfl
theorem int_size:(Tryz.prog.info? 3).map (·.size)=some 1:=by kernel_rfl
structure Pw (X:Cx) (st:St) (sl:Value) (w w':World):Prop where
 ps:Ps X st sl w'
 ex:Exc X.W.heap.size w w'
theorem Pw.trans{X:Cx}{st st':St}{sl sl':Value}{w w1 w2:World}(h:Pw X st sl w w1)(k:Pw X st' sl' w1 w2):Pw X st' sl' w w2:=⟨k.ps,h.ex.trans k.ex⟩
theorem Ps.c1{X:Cx}{st:St}{sl:Value}{w:World}{ad:Option Addr}{cp:Nat}(hp:w.heap[X.W.heap.size]?=some (.cells #[.string X.body,.slice ad st.l.length cp,.bool st.bad,sl] 164 (0,0))):
 w.cell? ⟨X.W.heap.size,0,none⟩=some (.string X.body)∧w.cell? ⟨X.W.heap.size,1,none⟩=some (.slice ad st.l.length cp)∧w.cell? ⟨X.W.heap.size,2,none⟩=some (.bool st.bad)∧w.cell? ⟨X.W.heap.size,3,none⟩=some sl:=by
 simp[World.cell?,hp]
theorem range_bel{w w1:World}{b o:Nat}{cs:List Value}(h:w.rangeAt b o cs)(hb:Bel w w1)(hl:b<w.heap.size):w1.rangeAt b o cs:=fun j v hv=>by
 have e:=h j v hv
 unfold World.cell? at e⊢
 simp only at e⊢
 rw[hb.block b hl]
 exact e
theorem wpList_store_blk {P:Program} {ops:Array Oper} {rest:List Oper} {op:Oper} {a:Act} {w:World} {Q:Exit→Act→World→Prop} (hgd:op.guard=none) (ty:TypeId) (x y:Operand) (ho:op.op=.store ty x y)
 (b:Nat) (vs:List Value) (hx:a.eval x=.pointer (some ⟨b,0,none⟩)) (hy:a.eval y=.agg vs.toArray) (hi:(P.info? ty).map (·.size)=some vs.length) (h1:vs.toArray.all (·.oneCell')=true)
 (cs:List Value) (T:TypeId) (hb:w.heap[b]?=some (.cells cs.toArray T (0,0))) (hl:vs.length=cs.length)
 (h:∀w',w'.heap[b]?=some (.cells vs.toArray T (0,0))→(∀k,k≠b→w'.heap[k]?=w.heap[k]?)→w'.heap.size=w.heap.size→(∀U:World,Bel U w→U.heap.size≤b→Bel U w')→wpList P ops Q rest (a.put op.dst undef) w'):
 wpList P ops Q (op::rest) a w:=by
 refine wpList_store_mid hgd ty x y ho b 0 vs.toArray hx hy (Ci.there_of hb (by rw[List.size_toArray];omega)) (by rw[List.size_toArray];exact hi) h1 ?_
 rw[List.toList_toArray]
 exact h _ (Ci.heap_setCells_whole hb hl) (fun k hk=>Ci.heap_setCells_other b k hk vs 0 w) (Ci.size_setCells b vs 0 w) fun U hU hs=>Ci.Bel.setCells hs vs 0 w hU
theorem tk_one(t:Tk):((tkC t).toArray.all (·.oneCell'))=true:=by simp[tkC,Value.oneCell']
theorem load_tok{w:World}{b:Nat}{t:Tk}{T:TypeId}(hc:w.heap[b]?=some (.cells (tkC t).toArray T (0,0))):(loadVar 218 ⟨b,0,none⟩).run Tryz.prog w=.ok (tkV t) w:=
 run_loadVar_mid w b 0 218 (tkC t) _ (Ci.range_of hc fun j v hv=>by rw[Nat.zero_add];exact hv) Tryz.underlying218 rfl tok_size
theorem results_tok2 {fn:Func} {p u:Tmp} (h:fn.results=#[.cell p 218,.tmp u]) (tmps:Array Value) (w:World) (b:Nat) (t:Tk) (T:TypeId) (v:Value)
 (hp:tmps.getD p undef=.pointer (some ⟨b,0,none⟩)) (hv:tmps.getD u undef=v) (hc:w.heap[b]?=some (.cells (tkC t).toArray T (0,0))):(results fn tmps).run Tryz.prog w=.ok (.tuple #[tkV t,v]) w:=by
 rw[results_cell_tmp h,hp,hv]
 have e:(asAddr (.pointer (some ⟨b,0,none⟩))).run Tryz.prog w=.ok ⟨b,0,none⟩ w:=by simp[asAddr]
 rw[e]
 simp only[Result.andThen_ok,load_tok hc]
theorem results_tok1 {fn:Func} {p:Tmp} (h:fn.results=#[.cell p 218]) (tmps:Array Value) (w:World) (b:Nat) (t:Tk) (T:TypeId)
 (hp:tmps.getD p undef=.pointer (some ⟨b,0,none⟩)) (hc:w.heap[b]?=some (.cells (tkC t).toArray T (0,0))):(results fn tmps).run Tryz.prog w=.ok (tkV t) w:=by
 have e:(asAddr (.pointer (some ⟨b,0,none⟩))).run Tryz.prog w=.ok ⟨b,0,none⟩ w:=by simp[asAddr]
 have hp':tmps[p]?.getD undef=.pointer (some ⟨b,0,none⟩):=by simpa using hp
 simp only[results,h]
 simp[Sem.run_bind,hp',e,load_tok hc,Result.andThen]
theorem take_end {X:Cx} {st:St} {sl:Value} {w w3 w4 w5:World} {q cp n m:Nat} {ad:Option Addr} {e:Ending} (hne:0<st.l.length) (hpw:X.W.heap.size<w.heap.size) (h:Ps X st sl w) (hl:st.l=X.T.drop q) (hbb3:Bel w w3)
 (hp4:w4.heap[X.W.heap.size]?=some (.cells #[.string X.body,.slice ad n m,.bool st.bad,sl] 164 (0,0))) (hn:n=st.l.length-1) (hm:m=cp-1) (ho4:∀k,k≠X.W.heap.size→w4.heap[k]?=w3.heap[k]?) (hb4:∀U:World,Bel U w3→U.heap.size≤X.W.heap.size→Bel U w4) (hs4:w4.heap.size=w3.heap.size)
 (ho5:∀k,k≠w.heap.size→w5.heap[k]?=w4.heap[k]?) (hb5:∀U:World,Bel U w4→U.heap.size≤w.heap.size→Bel U w5) (hs5:w5.heap.size=w4.heap.size) (hcp1:st.l.length≤cp) (hcp2:cp≤maxLen)
 (had:0<st.l.tail.length→ad=some ⟨X.lb,(q+1)*4,none⟩):e=e∧Pw X ⟨st.bad,st.l.tail,st.all⟩ sl w w5:=by
 have hk:q<X.T.length:=by have:=hl;rw[this,List.length_drop]at hne;omega
 have hu:=(h.next hbb3).upd (st':=⟨st.bad,st.l.tail,st.all⟩) ho4 hb4 rfl ⟨q+1,cp-1,ad,by rw[hl,List.tail_drop],by omega,by rw[List.length_tail];omega,by omega,had,by
  rw[List.length_tail,←hn,←hm]
  exact hp4⟩
 refine⟨rfl,⟨?_,?_⟩⟩
 ·obtain⟨k,cp',ad',h1,h2,h3,h4,h5,h6⟩:=hu.at_
  refine⟨hb5 _ hu.bel (by omega),⟨k,cp',ad',h1,h2,h3,h4,h5,by rw[ho5 _ (by omega)];exact h6⟩,?_⟩
  refine⟨hu.own.1,?_⟩
  rcases h.own.2 with f|⟨g,cap,cur,hv,hg,hh,rest⟩
  ·exact .inl f
  ·have hgw:=(Array.getElem?_eq_some_iff.1 hh).1
   exact .inr ⟨g,cap,cur,hv,hg,by rw[ho5 g (by omega),ho4 g (by omega)];exact hbb3.heap hh,rest⟩
 ·exact⟨by have:=hbb3.size;omega,fun j hj hn=>((ho5 j (by omega)).trans (ho4 j hn)).trans (hbb3.block j hj)⟩
theorem take_run(X:Cx)(hX:X.Ok)(st:St)(sl:Value)(w:World)(k:UInt8)(h:Ps X st sl w)(hne:0<st.l.length):
 Calls Tryz.prog 231 #[.pointer (some ⟨X.W.heap.size,0,none⟩),.int .u8 k.toNat] w fun e w'=>e=.returned (.tuple #[tkV (takeT k st),.bool (isQ k st)])∧Pw X (takeS k st) sl w w':=by
 have hpw:X.W.heap.size<w.heap.size:=by
  obtain⟨q,cp,ad,-,-,-,-,-,hp⟩:=h.at_
  exact(Array.getElem?_eq_some_iff.1 hp).1
 have HI:=(show Hid (∀W,W=w.alloc (.cells #[.int .u8 0,.string ⟨#[]⟩,.int .i64 0,.int .i64 0] 218)→Calls Tryz.prog 173 #[.pointer (some ⟨X.W.heap.size,0,none⟩),.int .u8 k.toNat] W fun e w'=>e=.returned (.bool (isQ k st))∧Bel w w'∧w'.heap.size=w.heap.size+1∧w'.heap[w.heap.size]?=some (.cells #[.int .u8 0,.string ⟨#[]⟩,.int .i64 0,.int .i64 0] 218 (0,0)))from fun W hW=>by
  subst hW
  refine(is_run X hX st sl _ k (h.next ((Bel.refl w).alloc _)) hne).mono ?_
  rintro e w' ⟨rfl,rfl⟩
  exact⟨rfl,(Bel.refl w).alloc _,World.size_alloc _ _,heap_alloc_new w _⟩)
 have HH:=hid h
 have HP:=hid hpw
 clear h hpw
 rcases hq:isQ k st with _|_
 ·rw[hq]at HI
  have HT:=hid (show takeT k st=z∧takeS k st=st by unfold takeT takeS;rw[hq];exact⟨rfl,rfl⟩)
  clear hq
  go_enter Tryz.func231,Tryz.ntmps231
  go_wp2_with (first|(go_at_call 173;refine(HI.out _ rfl).mono ?_;rintro e w1 ⟨rfl,hb1,hs1,hc1⟩)|(refine wpList_store_blk rfl 218 (.tmp 4) (.tmp 11) rfl w.heap.size (tkC z) rfl rfl tok_size (tk_one z) (tkC z) _ hc1 rfl ?_;intro w2 hc2 ho2 hs2 hb2))
  refine bodyPost_ret (results_tok2 rfl _ _ w.heap.size z 218 (.bool false) rfl rfl hc2) rfl ?_
  have hb:=hb2 w hb1 (Nat.le_refl _)
  rw[HT.out.1,HT.out.2]
  exact⟨rfl,HH.out.next hb,Exc.bel hb⟩
 ·rw[hq]at HI
  obtain⟨q,cp,ad,hl,hq1,hcp1,hcp2,had,hp⟩:=HH.out.at_
  obtain rfl:=had hne
  clear had
  have HT:=hid (show takeT k st=hd st∧takeS k st=⟨st.bad,st.l.tail,st.all⟩ by unfold takeT takeS;rw[hq];exact⟨rfl,rfl⟩)
  have HRG:=hid (show w.rangeAt X.lb (q*4) (tkC (hd st)) by rw[hd_eq hne];exact HH.out.tok hX hl 0 hne)
  have HL:=hid hl
  have HPB:=hid hp
  have HXL:=hid hX.lt
  have hlt:decide (0<st.l.length)=true:=decide_eq_true hne
  clear hq hl hp hX
  by_cases hcp:cp=1
  ·have hl1:st.l.length=1:=by omega
   have hi:(if cp=1 then(some ⟨X.lb,q*4,none⟩:Option Addr)else some ⟨X.lb,q*4+4,none⟩)=some ⟨X.lb,q*4,none⟩:=if_pos hcp
   go_enter Tryz.func231,Tryz.ntmps231
   go_wp2_with (first|(go_at_call 173;refine(HI.out _ rfl).mono ?_;rintro e w1 ⟨rfl,hb1,hs1,hc1⟩;have hp1:=hb1.heap HPB.out;have hr1:=range_bel HRG.out hb1 (Nat.lt_trans HXL.out HP.out))|(refine wpList_load_one rfl 158 (.tmp 14) rfl ⟨X.W.heap.size,1,none⟩ rfl _ _ (Ps.c1 hp1).2.1 Tryz.underlying158 rfl ?_)|(refine wpList_load_mid rfl 218 (.tmp 16) rfl X.lb (q*4) rfl (tkC (hd st)) _ hr1 Tryz.underlying218 rfl tok_size ?_)|(refine wpList_store_blk rfl 218 (.tmp 6) (.tmp 17) rfl (w.heap.size+1) (tkC (hd st)) rfl rfl tok_size (tk_one _) (tkC z) _ (by rw[←hs1];exact heap_alloc_new w1 _) rfl ?_;intro w3 hc3 ho3 hs3 hb3;have hp3:=(ho3 X.W.heap.size (by have:=HP.out;omega)).trans (((Bel.refl w1).alloc _).heap hp1);have ht3:=(ho3 w.heap.size (by omega)).trans (((Bel.refl w1).alloc _).heap hc1);have hbb3:=hb3 w (hb1.trans ((Bel.refl w1).alloc _)) (by omega))|(refine wpList_load_one rfl 158 (.tmp 21) rfl ⟨X.W.heap.size,1,none⟩ rfl _ _ (Ps.c1 hp3).2.1 Tryz.underlying158 rfl ?_)|(refine wpList_store_one rfl 158 (.tmp 25) (.tmp 23) rfl X.W.heap.size 1 _ rfl rfl rfl slice_size [_,_,_,_] _ hp3 (by simp) ?_;intro w4 hp4 ho4 hb4 he4;have hs4:w4.heap.size=w3.heap.size:=he4▸size_set1 _ _ _ _;clear he4)|(refine wpList_load_mid rfl 218 (.tmp 6) rfl (w.heap.size+1) 0 rfl (tkC (hd st)) _ (Ci.range_of ((ho4 (w.heap.size+1) (by have:=HP.out;omega)).trans hc3) (fun j v hv=>by rw[Nat.zero_add];exact hv)) Tryz.underlying218 rfl tok_size ?_)|(refine wpList_store_blk rfl 218 (.tmp 4) (.tmp 26) rfl w.heap.size (tkC (hd st)) rfl rfl tok_size (tk_one _) (tkC z) _ ((ho4 w.heap.size (by have:=HP.out;omega)).trans ht3) rfl ?_;intro w5 hc5 ho5 hs5 hb5))
   refine bodyPost_ret (results_tok2 rfl _ _ w.heap.size (hd st) 218 (.bool true) rfl rfl hc5) rfl ?_
   rw[HT.out.1,HT.out.2]
   exact take_end hne HP.out HH.out HL.out hbb3 hp4 (n:=0) (m:=0) (by omega) (by omega) ho4 hb4 hs4 ho5 hb5 hs5 hcp1 hcp2 (fun h=>absurd h (by rw[List.length_tail];omega))
  ·skip
   go_enter Tryz.func231,Tryz.ntmps231
   go_wp2_with (first|(go_at_call 173;refine(HI.out _ rfl).mono ?_;rintro e w1 ⟨rfl,hb1,hs1,hc1⟩;have hp1:=hb1.heap HPB.out;have hr1:=range_bel HRG.out hb1 (Nat.lt_trans HXL.out HP.out))|(refine wpList_load_one rfl 158 (.tmp 14) rfl ⟨X.W.heap.size,1,none⟩ rfl _ _ (Ps.c1 hp1).2.1 Tryz.underlying158 rfl ?_)|(refine wpList_load_mid rfl 218 (.tmp 16) rfl X.lb (q*4) rfl (tkC (hd st)) _ hr1 Tryz.underlying218 rfl tok_size ?_)|(refine wpList_store_blk rfl 218 (.tmp 6) (.tmp 17) rfl (w.heap.size+1) (tkC (hd st)) rfl rfl tok_size (tk_one _) (tkC z) _ (by rw[←hs1];exact heap_alloc_new w1 _) rfl ?_;intro w3 hc3 ho3 hs3 hb3;have hp3:=(ho3 X.W.heap.size (by have:=HP.out;omega)).trans (((Bel.refl w1).alloc _).heap hp1);have ht3:=(ho3 w.heap.size (by omega)).trans (((Bel.refl w1).alloc _).heap hc1);have hbb3:=hb3 w (hb1.trans ((Bel.refl w1).alloc _)) (by omega))|(refine wpList_load_one rfl 158 (.tmp 21) rfl ⟨X.W.heap.size,1,none⟩ rfl _ _ (Ps.c1 hp3).2.1 Tryz.underlying158 rfl ?_)|(refine wpList_store_one rfl 158 (.tmp 25) (.tmp 23) rfl X.W.heap.size 1 _ rfl rfl rfl slice_size [_,_,_,_] _ hp3 (by simp) ?_;intro w4 hp4 ho4 hb4 he4;have hs4:w4.heap.size=w3.heap.size:=he4▸size_set1 _ _ _ _;clear he4)|(refine wpList_load_mid rfl 218 (.tmp 6) rfl (w.heap.size+1) 0 rfl (tkC (hd st)) _ (Ci.range_of ((ho4 (w.heap.size+1) (by have:=HP.out;omega)).trans hc3) (fun j v hv=>by rw[Nat.zero_add];exact hv)) Tryz.underlying218 rfl tok_size ?_)|(refine wpList_store_blk rfl 218 (.tmp 4) (.tmp 26) rfl w.heap.size (tkC (hd st)) rfl rfl tok_size (tk_one _) (tkC z) _ ((ho4 w.heap.size (by have:=HP.out;omega)).trans ht3) rfl ?_;intro w5 hc5 ho5 hs5 hb5))
   refine bodyPost_ret (results_tok2 rfl _ _ w.heap.size (hd st) 218 (.bool true) rfl rfl hc5) rfl ?_
   rw[HT.out.1,HT.out.2]
   exact take_end hne HP.out HH.out HL.out hbb3 hp4 rfl rfl ho4 hb4 hs4 ho5 hb5 hs5 hcp1 hcp2 (fun _=>by rw[Nat.add_mul])
end Go.Proofs.YtmlmkmhkmifnkaaGreatDoor.Ma
namespace Go.Proofs.YtmlmkmhkmifnkaaGreatDoor.Ma
open Go.RowKit
open Ci (Bel own_bel row_shape addr_add own_base)
theorem Pw.of_bel{X:Cx}{st:St}{sl:Value}{w w1 w2:World}(h:Pw X st sl w w1)(hb:Bel w1 w2):Pw X st sl w w2:=⟨h.ps.next hb,h.ex.trans (Exc.bel hb)⟩
theorem Ps.pb{X:Cx}{st:St}{sl:Value}{w:World}(h:Ps X st sl w):X.W.heap.size<w.heap.size:=by
 obtain⟨q,cp,ad,-,-,-,-,-,hp⟩:=h.at_
 exact(Array.getElem?_eq_some_iff.1 hp).1
theorem Pw.side {X:Cx} {st:St} {sl:Value} {w w0 w1 w2:World} {b:Nat} (h:Pw X st sl w0 w1) (hw:Bel w w0) (hb:w.heap.size≤b) (ho:∀k,k≠b→w2.heap[k]?=w1.heap[k]?) (hs:w2.heap.size=w1.heap.size) (hbel:∀U:World,Bel U w1→U.heap.size≤b→Bel U w2) (hX:X.W.heap.size<b)
 (hne:∀g,sl.ownBlock=some g→g≠b):Pw X st sl w w2:=by
 obtain⟨k,cp,ad,h1,h2,h3,h4,h5,h6⟩:=h.ps.at_
 refine⟨⟨hbel _ h.ps.bel (by omega),⟨k,cp,ad,h1,h2,h3,h4,h5,by rw[ho _ (by omega)];exact h6⟩,?_⟩,⟨by have:=h.ex.le;have:=hw.size;omega,fun j hj hn=> ?_⟩⟩
 ·refine⟨h.ps.own.1,?_⟩
  rcases h.ps.own.2 with f|⟨g,cap,cur,rfl,hg,hh,rest⟩
  ·exact .inl f
  ·exact .inr ⟨g,cap,cur,rfl,hg,by rw[ho g (hne g rfl)];exact hh,rest⟩
 ·rw[ho j (by omega),h.ex.eq j (by have:=hw.size;omega) hn,hw.block j hj]
theorem took_run(X:Cx)(hX:X.Ok)(st:St)(sl:Value)(w:World)(k:UInt8)(h:Ps X st sl w)(hne:0<st.l.length):
 Calls Tryz.prog 174 #[.pointer (some ⟨X.W.heap.size,0,none⟩),.int .u8 k.toNat] w fun e w'=>e=.returned (.bool (isQ k st))∧Pw X (takeS k st) sl w w':=by
 have HT:=(show Hid (∀W,Ps X st sl W→Calls Tryz.prog 231 #[.pointer (some ⟨X.W.heap.size,0,none⟩),.int .u8 k.toNat] W fun e w'=>e=.returned (.tuple #[tkV (takeT k st),.bool (isQ k st)])∧Pw X (takeS k st) sl W w')from fun W hW=>take_run X hX st sl W k hW hne)
 have HH:=hid h
 clear h hX
 generalize takeT k st=t at HT
 generalize takeS k st=st' at HT⊢
 generalize isQ k st=b at HT⊢
 unfold tkV at HT
 go_enter Tryz.func174,Tryz.ntmps174
 go_wp2_with (first|(go_at_call 231;refine(HT.out _ HH.out).mono ?_;rintro e w1 ⟨rfl,hp1⟩)|(refine wpList_store_blk rfl 218 (.tmp 5) (.tmp 11) rfl w1.heap.size (tkC t) rfl rfl tok_size (tk_one _) (tkC z) _ (heap_alloc_new w1 _) rfl ?_;intro w3 hc3 ho3 hs3 hb3;have hbb3:=hb3 w1 ((Bel.refl w1).alloc _) (Nat.le_refl _)))
 go_ret
 exact⟨rfl,hp1.of_bel hbb3⟩
theorem Ps.own_lt{X:Cx}{st:St}{sl:Value}{w:World}(h:Ps X st sl w):∀g,sl.ownBlock=some g→g<w.heap.size:=by
 intro g hg
 rcases h.own.2 with⟨rfl,-⟩|⟨g',cap,cur,rfl,-,hh,-⟩
 ·cases hg
 ·cases hg
  exact(Array.getElem?_eq_some_iff.1 hh).1
theorem Pw.bad {X:Cx} {st:St} {sl:Value} {w w1 w2:World} {ad:Option Addr} {n cp:Nat} {b:Bool} (h:Pw X st sl w w1)
 (hp:w1.heap[X.W.heap.size]?=some (.cells #[.string X.body,.slice ad n cp,.bool st.bad,sl] 164 (0,0)))
 (hp2:w2.heap[X.W.heap.size]?=some (.cells #[.string X.body,.slice ad n cp,.bool b,sl] 164 (0,0)))
 (ho:∀k,k≠X.W.heap.size→w2.heap[k]?=w1.heap[k]?) (hb:∀U:World,Bel U w1→U.heap.size≤X.W.heap.size→Bel U w2) (hs:w2.heap.size=w1.heap.size):Pw X ⟨b,st.l,st.all⟩ sl w w2:=by
 obtain⟨k,cp',ad',h1,h2,h3,h4,h5,h6⟩:=h.ps.at_
 have e:=h6.symm.trans hp
 simp only[Option.some.injEq,Obj.cells.injEq,and_true]at e
 have e1:ad'=ad∧st.l.length=n∧cp'=cp:=by
  have:=congrArg (fun a:Array Value=>a.toList) e
  simpa using this
 obtain⟨rfl,e2,e3⟩:=e1
 subst e2 e3
 exact⟨h.ps.upd (st':=⟨b,st.l,st.all⟩) ho hb rfl ⟨k,cp',ad',h1,h2,h3,h4,h5,hp2⟩,h.ex.trans (Exc.upd (by omega) ho)⟩
theorem want_run(X:Cx)(hX:X.Ok)(st:St)(sl:Value)(w:World)(k:UInt8)(h:Ps X st sl w)(hne:0<st.l.length):
 Calls Tryz.prog 175 #[.pointer (some ⟨X.W.heap.size,0,none⟩),.int .u8 k.toNat] w fun e w'=>e=.returned (tkV (takeT k st))∧Pw X (wantS k st) sl w w':=by
 have HT:=(show Hid (∀W,Ps X st sl W→Calls Tryz.prog 231 #[.pointer (some ⟨X.W.heap.size,0,none⟩),.int .u8 k.toNat] W fun e w'=>e=.returned (.tuple #[tkV (takeT k st),.bool (isQ k st)])∧Pw X (takeS k st) sl W w'∧∃ad n cp,w'.heap[X.W.heap.size]?=some (.cells #[.string X.body,.slice ad n cp,.bool st.bad,sl] 164 (0,0)))from fun W hW=>by
  refine(take_run X hX st sl W k hW hne).mono ?_
  rintro e w' ⟨rfl,hp⟩
  obtain⟨k',cp',ad',h1,h2,h3,h4,h5,h6⟩:=hp.ps.at_
  rw[take_bad]at h6
  exact⟨rfl,hp,ad',_,cp',h6⟩)
 have HH:=hid (h.next ((Bel.refl w).alloc (.cells #[.int .u8 0,.string ⟨#[]⟩,.int .i64 0,.int .i64 0] 218)))
 have HPB:=hid h.pb
 have HOL:=hid h.own_lt
 have HW:=hid (show wantS k st=⟨st.bad|| !isQ k st,(takeS k st).l,(takeS k st).all⟩ by unfold wantS;rw[take_all])
 have HB:=hid (take_bad k st)
 clear h hX
 generalize takeT k st=t at HT⊢
 generalize takeS k st=st' at HT HW HB
 generalize isQ k st=b at HT HW
 generalize st.bad=bd at HT HW HB
 unfold tkV at HT
 rcases bd with _|_<;>rcases b with _|_
 all_goals
  as_aux_lemma=>
  go_enter Tryz.func175,Tryz.ntmps175
  go_wp2_with (first|(go_at_call 231;refine(HT.out _ HH.out).mono ?_;rintro e w1 ⟨rfl,hp1,ad,n,cp,hq1⟩;have hz1:=hp1.ex.heap (heap_alloc_new w _) (by have:=HPB.out;omega);have hsz:=hp1.ex.le;rw[World.size_alloc]at hsz)|(refine wpList_store_blk rfl 218 (.tmp 5) (.tmp 11) rfl w1.heap.size (tkC t) rfl rfl tok_size (tk_one _) (tkC z) _ (heap_alloc_new w1 _) rfl ?_;intro w3 hc3 ho3 hs3 hb3;have hbb3:=hb3 w1 ((Bel.refl w1).alloc _) (Nat.le_refl _);have hq3:=hbb3.heap hq1;have hz3:=hbb3.heap hz1)|(refine wpList_load_one rfl 4 (.tmp 16) rfl ⟨X.W.heap.size,2,none⟩ rfl _ _ (by simp[World.cell?,hq3];rfl) Tryz.underlying4 rfl ?_)|(refine wpList_store_one rfl 4 (.tmp 23) (.tmp 21) rfl X.W.heap.size 2 _ rfl rfl rfl bool_size [_,_,_,_] _ hq3 (by simp) ?_;intro w4 hq4 ho4 hb4 he4;have hs4:w4.heap.size=w3.heap.size:=he4▸size_set1 _ _ _ _;clear he4)|(refine wpList_load_mid rfl 218 (.tmp 5) rfl w1.heap.size 0 rfl (tkC t) _ (Ci.range_of ((ho4 w1.heap.size (by have:=HPB.out;omega)).trans hc3) (fun j v hv=>by rw[Nat.zero_add];exact hv)) Tryz.underlying218 rfl tok_size ?_)|(refine wpList_store_blk rfl 218 (.tmp 4) (.tmp 24) rfl w.heap.size (tkC t) rfl rfl tok_size (tk_one _) (tkC z) _ ((ho4 w.heap.size (by have:=HPB.out;omega)).trans hz3) rfl ?_;intro w5 hc5 ho5 hs5 hb5))
  refine bodyPost_ret (results_tok1 rfl _ _ w.heap.size t 218 rfl hc5) rfl ?_
  refine⟨rfl,?_⟩
  rw[HW.out]
  have hq3':=hq3
  rw[←HB.out]at hq3'
  exact((hp1.of_bel hbb3).bad hq3' hq4 ho4 hb4 hs4).side ((Bel.refl w).alloc _) (Nat.le_refl _) ho5 hs5 hb5 HPB.out (fun g hg=>by have:=HOL.out g hg;omega)
end Go.Proofs.YtmlmkmhkmifnkaaGreatDoor.Ma
namespace Go.Proofs.YtmlmkmhkmifnkaaGreatDoor.Ma
open Go.RowKit
open Ci (Bel own_bel row_shape addr_add own_base)
def Sf(X:Cx)(st:St):Prop:=∃q,st.l=X.T.drop q∧q<X.T.length
theorem Sf.pos{X:Cx}{st:St}(h:Sf X st):0<st.l.length:=by
 obtain⟨q,e,h⟩:=h
 rw[e,List.length_drop];omega
theorem Sf.drop{X:Cx}{st:St}(hX:X.Ok)(h:Sf X st)(n:Nat)(hn:n<st.l.length)(hk:st.l[n].kind≠101)(bad:Bool)(all:List Sp):Sf X ⟨bad,st.l.drop (n+1),all⟩:=by
 obtain⟨q,e,h⟩:=h
 refine⟨q+(n+1),by rw[e,List.drop_drop],?_⟩
 rw[e,List.length_drop]at hn
 refine Classical.byContradiction fun hh=>hk ?_
 have hq:q+n=X.T.length-1:=by omega
 have e2:st.l[n]=X.T[q+n]'(by omega):=by simp[e]
 obtain⟨T',en,eT,h1,h2⟩:=hX.en
 have hl:X.T.length=T'.length+1:=by rw[eT];simp
 have e3:X.T[q+n]'(by omega)=en:=by
  have:q+n=T'.length:=by omega
  simp[eT,this]
 rw[e2,e3,h1]
theorem Sf.take{X:Cx}{st:St}(hX:X.Ok)(h:Sf X st){k:UInt8}(hk:k≠101):Sf X (takeS k st):=by
 unfold takeS
 by_cases hq:isQ k st=true
 ·rw[if_pos hq]
  have hp:=h.pos
  have:=h.drop hX 0 hp (by
   have e:(hd st).kind=k:=by
    unfold isQ at hq
    simp at hq
    exact hq.2
   rw[hd_eq hp]at e
   rw[e];exact hk) st.bad st.all
  simpa using this
 ·rw[if_neg hq];exact h
theorem Sf.same{X:Cx}{st st':St}(h:Sf X st)(e:st'.l=st.l):Sf X st':=by
 obtain⟨q,e1,h1⟩:=h
 exact⟨q,e.trans e1,h1⟩
theorem Sf.want{X:Cx}{st:St}(hX:X.Ok)(h:Sf X st){k:UInt8}(hk:k≠101):Sf X (wantS k st):=(h.take hX hk).same rfl
theorem Sf.word{X:Cx}{st:St}(hX:X.Ok)(h:Sf X st):Sf X (wordS st):=by
 unfold wordS
 split
 ·exact h.take hX (by decide)
 ·exact h.want hX (by decide)
theorem field_tok:∀(a:Int) (b:ByteArray) (c d:Int) (W:World),(Instr.field 218 (.agg #[.int .u8 a,.string b,.int .i64 c,.int .i64 d]) 1).run Tryz.prog W=.ok (.string b) W:=fun _ _ _ _ _=>by kernel_rfl
theorem word_run(X:Cx)(hX:X.Ok)(st:St)(sl:Value)(w:World)(h:Ps X st sl w)(hs:Sf X st):
 Calls Tryz.prog 266 #[.pointer (some ⟨X.W.heap.size,0,none⟩)] w fun e w'=>e=.returned (.string ⟨(wordT st).toArray⟩)∧Pw X (wordS st) sl w w':=by
 have HT:=(show Hid (∀W,Ps X st sl W→Calls Tryz.prog 231 #[.pointer (some ⟨X.W.heap.size,0,none⟩),.int .u8 113] W fun e w'=>e=.returned (.tuple #[tkV (takeT 113 st),.bool (isQ 113 st)])∧Pw X (takeS 113 st) sl W w')from fun W hW=>take_run X hX st sl W 113 hW hs.pos)
 have HH:=hid h
 have HPB:=hid h.pb
 by_cases hq:isQ 113 st=true
 ·have HW:=hid (show wordT st=(takeT 113 st).text∧wordS st=takeS 113 st by unfold wordT wordS;rw[if_pos hq,if_pos hq];exact⟨rfl,rfl⟩)
  rw[hq]at HT
  clear h hX hs hq
  generalize takeT 113 st=t at HT HW
  generalize takeS 113 st=st' at HT HW
  unfold tkV at HT
  go_enter Tryz.func266,Tryz.ntmps266
  go_wp2_with (first|(go_at_call 231;refine(HT.out _ HH.out).mono ?_;rintro e w1 ⟨rfl,hp1⟩)|(refine wpList_store_blk rfl 218 (.tmp 3) (.tmp 8) rfl w1.heap.size (tkC t) rfl rfl tok_size (tk_one _) (tkC z) _ (heap_alloc_new w1 _) rfl ?_;intro w3 hc3 ho3 hs3 hb3;have hbb3:=hb3 w1 ((Bel.refl w1).alloc _) (Nat.le_refl _))|(refine wpList_load_one rfl 9 (.tmp 11) rfl ⟨w1.heap.size,1,none⟩ rfl (.string ⟨t.text.toArray⟩) _ (by simp[World.cell?,hc3,tkC]) Tryz.underlying9 rfl ?_))
  go_ret
  rw[HW.out.1,HW.out.2]
  exact⟨rfl,hp1.of_bel hbb3⟩
 ·have HW:=hid (show wordT st=(takeT 97 st).text∧wordS st=wantS 97 st by unfold wordT wordS;rw[if_neg hq,if_neg hq];exact⟨rfl,rfl⟩)
  have hq':=good_of hq
  have HN:=(show Hid (∀W,Ps X st sl W→Calls Tryz.prog 175 #[.pointer (some ⟨X.W.heap.size,0,none⟩),.int .u8 97] W fun e w'=>e=.returned (.agg #[.int .u8 (takeT 97 st).kind.toNat,.string ⟨(takeT 97 st).text.toArray⟩,.int .i64 (takeT 97 st).from_,.int .i64 (takeT 97 st).til])∧Pw X (wantS 97 st) sl W w')from fun W hW=>want_run X hX st sl W 97 hW hs.pos)
  have HS:=hid (show takeS 113 st=st by unfold takeS;rw[if_neg hq])
  rw[hq',HS.out]at HT
  clear h hX hs hq hq'
  generalize takeT 97 st=u at HN HW
  have hfd:=field_tok
  generalize takeT 113 st=t at HT
  unfold tkV at HT
  go_enter Tryz.func266,Tryz.ntmps266
  go_wp2_with (first|(go_at_call 231;refine(HT.out _ HH.out).mono ?_;rintro e w1 ⟨rfl,hp1⟩)|(refine wpList_store_blk rfl 218 (.tmp 3) (.tmp 8) rfl w1.heap.size (tkC t) rfl rfl tok_size (tk_one _) (tkC z) _ (heap_alloc_new w1 _) rfl ?_;intro w3 hc3 ho3 hs3 hb3;have hbb3:=hb3 w1 ((Bel.refl w1).alloc _) (Nat.le_refl _))|(go_at_call 175;refine(HN.out _ (hp1.of_bel hbb3).ps).mono ?_;rintro e w4 ⟨rfl,hp4⟩))
  go_ret
  rw[HW.out.1,HW.out.2]
  exact⟨rfl,(hp1.of_bel hbb3).trans hp4⟩
end Go.Proofs.YtmlmkmhkmifnkaaGreatDoor.Ma
namespace Go.Proofs.YtmlmkmhkmifnkaaGreatDoor.Ma
open Go.RowKit
open Ci (Bel own_bel row_shape addr_add own_base)
theorem str_app(a b:List UInt8):(⟨a.toArray⟩:ByteArray)++⟨b.toArray⟩=⟨(a++b).toArray⟩:=by
 refine Ci.ext_bytes ?_
 rw[Ci.app_data]
theorem Sf.text{X:Cx}{st:St}(hX:X.Ok)(h:Sf X st)(k:UInt8):(takeT k st).text.length≤65536:=by
 unfold takeT
 split
 ·have hp:=h.pos
  rw[hd_eq hp]
  obtain⟨q,e,hq⟩:=h
  refine hX.tx _ ?_
  have h1:∀t∈st.l,t∈X.T:=fun t ht=>List.mem_of_mem_drop (e▸ht)
  exact h1 _ (List.getElem_mem hp)
 ·exact Nat.zero_le _
theorem Sf.le{X:Cx}{st:St}(hX:X.Ok)(h:Sf X st):st.l.length≤65537:=by
 obtain⟨q,e,hq⟩:=h
 have:=hX.num
 rw[e,List.length_drop];omega
theorem domain_run(X:Cx)(hX:X.Ok)(st:St)(sl:Value)(w:World)(h:Ps X st sl w)(hs:Sf X st):
 Calls Tryz.prog 233 #[.pointer (some ⟨X.W.heap.size,0,none⟩)] w fun e w'=>e=.returned (.tuple #[.string ⟨(domQ st).1.toArray⟩,.int .i64 ((domQ st).2.1.til:Nat)])∧Pw X (domQ st).2.2 sl w w':=by
 have HT:=(show Hid (∀W,Ps X st sl W→Calls Tryz.prog 231 #[.pointer (some ⟨X.W.heap.size,0,none⟩),.int .u8 108] W fun e w'=>e=.returned (.tuple #[tkV (takeT 108 st),.bool (isQ 108 st)])∧Pw X (takeS 108 st) sl W w')from fun W hW=>take_run X hX st sl W 108 hW hs.pos)
 have HH:=hid h
 have HPB:=hid h.pb
 by_cases hq:isQ 108 st=true
 ·have HW:=hid (show domQ st=((takeT 108 st).text,takeT 108 st,takeS 108 st) by unfold domQ;rw[if_pos hq])
  rw[hq]at HT
  rw[HW.out]
  clear h hX hs hq HW
  generalize takeT 108 st=t at HT⊢
  generalize takeS 108 st=st' at HT⊢
  unfold tkV at HT
  go_enter Tryz.func233,Tryz.ntmps233
  go_wp2_with (first|(go_at_call 231;refine(HT.out _ HH.out).mono ?_;rintro e w1 ⟨rfl,hp1⟩)|(refine wpList_store_blk rfl 218 (.tmp 4) (.tmp 11) rfl w1.heap.size (tkC t) rfl rfl tok_size (tk_one _) (tkC z) _ (heap_alloc_new w1 _) rfl ?_;intro w3 hc3 ho3 hs3 hb3;have hbb3:=hb3 w1 ((Bel.refl w1).alloc _) (Nat.le_refl _)))
  have c1:w3.cell? ⟨w1.heap.size,1,none⟩=some (.string ⟨t.text.toArray⟩):=by simp[World.cell?,hc3,tkC]
  have c3:w3.cell? ⟨w1.heap.size,3,none⟩=some (.int .i64 t.til):=by simp[World.cell?,hc3,tkC]
  go_quiet (fail)
  go_wp2_with fail
  go_ret2
  exact⟨rfl,(hp1.of_bel hbb3).of_bel ((Bel.refl w3).drewN _)⟩
 ·have HS:=hid (show takeS 108 st=st by unfold takeS;rw[if_neg hq])
  have hq':=good_of hq
  rw[hq',HS.out]at HT
  have HD:=hid (show domQ st=domLoop st.l.length (takeT 97 st).text (takeT 97 st) (wantS 97 st) by unfold domQ;rw[if_neg hq])
  have HN:=(show Hid (∀W,Ps X st sl W→Calls Tryz.prog 175 #[.pointer (some ⟨X.W.heap.size,0,none⟩),.int .u8 97] W fun e w'=>e=.returned (.agg (tkC (takeT 97 st)).toArray)∧Pw X (wantS 97 st) sl W w')from fun W hW=>want_run X hX st sl W 97 hW hs.pos)
  have HK:=(show Hid (∀st',Sf X st'→∀W,Ps X st' sl W→Calls Tryz.prog 174 #[.pointer (some ⟨X.W.heap.size,0,none⟩),.int .u8 46] W fun e w'=>e=.returned (.bool (isQ 46 st'))∧Pw X (takeS 46 st') sl W w')from fun st' hs' W hW=>took_run X hX st' sl W 46 hW hs'.pos)
  have HN2:=(show Hid (∀st',Sf X st'→∀W,Ps X st' sl W→Calls Tryz.prog 175 #[.pointer (some ⟨X.W.heap.size,0,none⟩),.int .u8 97] W fun e w'=>e=.returned (.agg (tkC (takeT 97 st')).toArray)∧Pw X (wantS 97 st') sl W w')from fun st' hs' W hW=>want_run X hX st' sl W 97 hW hs'.pos)
  have HSF:=hid (hs.want hX (k:=97) (by decide))
  have HLE:=hid (show(wantS 97 st).l.length≤st.l.length by unfold wantS takeS;dsimp only;split<;>simp)
  have HXX:=hid hX
  have HU6:=hid (hs.text hX 97)
  have HL6:=hid (hs.le hX)
  have HOL:=hid h.own_lt
  clear h hX hs hq hq'
  generalize takeT 108 st=t8 at HT
  unfold tkV at HT
  generalize hu:takeT 97 st=u at HN HD HU6
  generalize hst1:wantS 97 st=st1 at HN HD HSF HLE
  clear hu hst1
  generalize hL:st.l.length=L at HD HLE HL6
  clear hL
  have hL6:=HL6.out
  have hu6:=HU6.out
  go_enter Tryz.func233,Tryz.ntmps233
  go_wp2_with (first|(go_at_call 231;refine(HT.out _ HH.out).mono ?_;rintro e w1 ⟨rfl,hp1⟩)|(refine wpList_store_blk rfl 218 (.tmp 4) (.tmp 11) rfl w1.heap.size (tkC t8) rfl rfl tok_size (tk_one _) (tkC z) _ (heap_alloc_new w1 _) rfl ?_;intro w3 hc3 ho3 hs3 hb3;have hbb3:=hb3 w1 ((Bel.refl w1).alloc _) (Nat.le_refl _))|(go_at_call 175;refine(HN.out _ (hp1.of_bel hbb3).ps).mono ?_;rintro e w4 ⟨rfl,hp4⟩)|(refine wpList_store_blk rfl 218 (.tmp 6) (.tmp 19) rfl w4.heap.size (tkC u) rfl rfl tok_size (tk_one _) (tkC z) _ (heap_alloc_new w4 _) rfl ?_;intro w5 hc5 ho5 hs5 hb5;have hbb5:=hb5 w4 ((Bel.refl w4).alloc _) (Nat.le_refl _))|(refine wpList_load_one rfl 9 (.tmp 20) rfl ⟨w4.heap.size,1,none⟩ rfl (.string ⟨u.text.toArray⟩) _ (by simp[World.cell?,hc5,tkC]) Tryz.underlying9 rfl ?_))
  have HP5:=hid ((hp1.of_bel hbb3).trans (hp4.of_bel hbb5))
  have HC5:=hid hc5
  have hlb:w.heap.size≤w4.heap.size:=by have:=((hp1.of_bel hbb3).trans hp4).ex.le;exact this
  obtain⟨B,hB⟩:∃B,B=w4.heap.size:=⟨_,rfl⟩
  rw[←hB]at HC5 hlb⊢
  clear hp1 hc3 ho3 hs3 hb3 hbb3 hp4 hc5 ho5 hs5 hb5 hbb5 hB
  go_loopg [7] (L+1) (fun gg v7 wr=>∃(n:Nat) (S:List UInt8) (t:Tk) (st':St),v7=.string ⟨S.toArray⟩∧n+1=gg∧n≤L∧S.length+n*65537≤L*65537+65536∧Hid (domLoop n S t st'=domQ st∧Pw X st' sl w wr∧wr.heap[B]?=some (.cells (tkC t).toArray 218 (0,0))∧Sf X st'∧st'.l.length≤n))
  case atStart=>exact⟨L,u.text,u,st1,rfl,rfl,Nat.le_refl _,by omega,hid ⟨HD.out.symm,HP5.out,HC5.out,HSF.out,HLE.out⟩⟩
  case round=>
   clear HD HP5 HC5 HSF HLE HN HT
   obtain⟨n,S,t,st',rfl,hgn,hnL,hSL,H⟩:=hrel
   obtain⟨hloop,hpw,hblk,hsf,hle⟩:=H.out
   have HK':=(show Hid (∀W,Ps X st' sl W→Calls Tryz.prog 174 #[.pointer (some ⟨X.W.heap.size,0,none⟩),.int .u8 46] W fun e w'=>e=.returned (.bool (isQ 46 st'))∧Pw X (takeS 46 st') sl W w')from HK.out st' hsf)
   by_cases hq:isQ 46 st'=true
   ·obtain⟨n,rfl⟩:∃m,n=m+1:=⟨n-1,by have:=hsf.pos;omega⟩
    have hsf2:=hsf.take HXX.out (k:=46) (by decide)
    have ht6:=hsf2.text HXX.out 97
    have z1:S.toArray.size=S.length:=List.size_toArray
    have z2:(takeT 97 (takeS 46 st')).text.toArray.size=(takeT 97 (takeS 46 st')).text.length:=List.size_toArray
    have HN':=(show Hid (∀W,Ps X (takeS 46 st') sl W→Calls Tryz.prog 175 #[.pointer (some ⟨X.W.heap.size,0,none⟩),.int .u8 97] W fun e w'=>e=.returned (.agg (tkC (takeT 97 (takeS 46 st'))).toArray)∧Pw X (wantS 97 (takeS 46 st')) sl W w')from HN2.out _ hsf2)
    have HN3:=hid (show domLoop n (S++[46]++(takeT 97 (takeS 46 st')).text) (takeT 97 (takeS 46 st')) (wantS 97 (takeS 46 st'))=domQ st∧Sf X (wantS 97 (takeS 46 st'))∧(wantS 97 (takeS 46 st')).l.length≤n from by
     refine⟨by rw[←hloop,domLoop,if_pos hq],hsf2.want HXX.out (by decide),?_⟩
     have e1:(takeS 46 st').l.length≤n:=by unfold takeS;rw[if_pos hq];simp;omega
     have e2:(wantS 97 (takeS 46 st')).l.length≤(takeS 46 st').l.length:=by unfold wantS;dsimp only;generalize takeS 46 st'=s2;unfold takeS;split<;>simp
     omega)
    rw[hq]at HK'
    have HPW:=hid hpw
    have HBK:=hid hblk
    clear hq hloop hpw hblk hsf hsf2 hle H
    generalize takeT 97 (takeS 46 st')=t2 at HN' HN3 ht6 z2
    have hz1:(⟨S.toArray⟩:ByteArray).size=S.length:=z1
    have hz2:(⟨t2.text.toArray⟩:ByteArray).size=t2.text.length:=z2
    generalize wantS 97 (takeS 46 st')=st3 at HN' HN3
    generalize takeS 46 st'=st2 at HK' HN'
    go_wp2_with (first|(go_at_call 174;refine(HK'.out _ HPW.out.ps).mono ?_;rintro e w6 ⟨rfl,hp6⟩)|(go_at_call 175;refine(HN'.out _ hp6.ps).mono ?_;rintro e w7 ⟨rfl,hp7⟩;have hk7:=(hp6.trans hp7).ex.heap HBK.out (by have:=HPB.out;omega))|(refine wpList_store_blk rfl 218 (.tmp 6) (.tmp 25) rfl B (tkC t2) rfl rfl tok_size (tk_one _) (tkC t) _ hk7 rfl ?_;intro w8 hc8 ho8 hs8 hb8)|(refine wpList_load_one rfl 9 (.tmp 27) rfl ⟨B,1,none⟩ rfl (.string ⟨t2.text.toArray⟩) _ (by simp[World.cell?,hc8,tkC]) Tryz.underlying9 rfl ?_))
    have hp8:=(HPW.out.trans (hp6.trans hp7)).side (Bel.refl w) hlb ho8 hs8 hb8 (by have:=HPB.out;omega) (fun g hg=>by have:=HOL.out g hg;omega)
    go_roundg (gk-1)
    case measure=>omega
    case rel=>exact⟨n,S++[46]++t2.text,t2,st3,by rw[List.append_assoc,←str_app,←str_app],by omega,by omega,by simp only[List.length_append,List.length_singleton];omega,hid ⟨HN3.out.1,hp8,hc8,HN3.out.2.1,HN3.out.2.2⟩⟩
   ·have HR:=hid (show domQ st=(S,t,st')∧takeS 46 st'=st' from by
     refine⟨?_,by unfold takeS;rw[if_neg hq]⟩
     rw[←hloop]
     cases n with
     |zero=>rfl
     |succ n=>rw[domLoop,if_neg hq])
    have hq':=good_of hq
    rw[hq',HR.out.2]at HK'
    have HPW:=hid hpw
    have HBK:=hid hblk
    clear hq hq' hloop hpw hblk hsf hle H
    go_wp2_with (first|(go_at_call 174;refine(HK'.out _ HPW.out.ps).mono ?_;rintro e w6 ⟨rfl,hp6⟩;have hk6:=hp6.ex.heap HBK.out (by have:=HPB.out;omega)))
    have c3:w6.cell? ⟨B,3,none⟩=some (.int .i64 t.til):=by simp[World.cell?,hk6,tkC]
    go_quiet (fail)
    go_wp2_with fail
    go_ret2
    rw[HR.out.1]
    exact⟨rfl,(HPW.out.trans hp6).of_bel ((Bel.refl w6).drewN _)⟩
end Go.Proofs.YtmlmkmhkmifnkaaGreatDoor.Ma