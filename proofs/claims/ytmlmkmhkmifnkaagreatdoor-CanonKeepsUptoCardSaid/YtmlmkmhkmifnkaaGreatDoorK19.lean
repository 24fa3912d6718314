import Derived.Test.YtmlmkmhkmifnkaaGreatDoorK18
import Derived.Laws.Runes
import Derived.Shelf.Strings.FieldsFuncGrows
set_option maxHeartbeats 16000000
set_option maxRecDepth 1000000
namespace Go.Proofs.YtmlmkmhkmifnkaaGreatDoor.Tb
open Go.RowKit
open Ci (Bel hid own_bel row_shape own_base addr_add splitL splitL_app splitL_none)
def line1(l:List UInt8):List UInt8:=(Lib.cut l [10]).1
theorem split_cut(l:List UInt8):(10∈l∧(line1 l).length<l.length∧splitL 10 l=line1 l::splitL 10 (l.drop ((line1 l).length+1)))∨(line1 l=l∧splitL 10 l=[l]):=by
 by_cases h:(10:UInt8)∈l
 ·obtain⟨p,t,rfl,hp⟩:=List.eq_append_cons_of_mem h
  have hc:line1 (p++10::t)=p:=by
   unfold line1 Lib.cut
   rw[Ci.index_one_some 10 _ _ hp,if_pos (by omega)]
   simp
  refine .inl ⟨h,by rw[hc];simp,?_⟩
  rw[hc,splitL_app 10 p t hp]
  congr 2
  rw[show p++(10:UInt8)::t=(p++[10])++t by simp,List.drop_left' (by simp)]
 ·refine .inr ⟨?_,splitL_none 10 l h⟩
  unfold line1 Lib.cut
  rw[Ci.index_one_none 10 l h,if_neg (by decide)]
def restL(s:List UInt8)(k:Nat):List (List UInt8):=if k≤s.length then splitL 10 (s.drop k)else[]
structure CutI (s:List UInt8) (c:Cs):Prop where
 eq:cutT s=(restL s c.at_).foldl lnStep c
 le:c.at_≤s.length+1
 num:c.out.length≤c.at_
 few:∀l∈c.out,l.pcs.length≤c.at_
theorem CutI.start(s:List UInt8):CutI s ⟨0,[],badAt s⟩:=⟨by unfold restL;rw[if_pos (Nat.zero_le _),List.drop_zero];rfl,Nat.zero_le _,Nat.le_refl _,fun l hl=>by cases hl⟩
theorem out_le(at_:Nat)(out:List Ln)(s:List UInt8):(lnOut at_ out s).length≤out.length+1:=by
 unfold lnOut
 split
 ·omega
 ·split
  ·simp
  ·split
   ·omega
   ·rename_i l hl
    have:out≠[]:=by rintro rfl;cases hl
    have:=List.length_pos_iff.2 this
    simp only[List.length_append,List.length_dropLast,List.length_cons,List.length_nil];omega
theorem addPc_le(p:List (List UInt8))(s:List UInt8):(addPc p s).length≤p.length+1:=by
 unfold addPc
 split
 ·omega
 ·simp
theorem out_few{m at_:Nat}{out:List Ln}(h:∀l∈out,l.pcs.length≤m)(s:List UInt8):∀l∈lnOut at_ out s,l.pcs.length≤m+1:=by
 intro l hl
 unfold lnOut at hl
 split at hl
 ·have:=h l hl;omega
 ·split at hl
  ·rcases List.mem_append.1 hl with hl|hl
   ·have:=h l hl;omega
   ·rw[List.mem_singleton.1 hl]
    have:=addPc_le [] (s.drop (keyN s))
    simp at this⊢;omega
  ·split at hl
   ·have:=h l hl;omega
   ·rename_i x hx
    rcases List.mem_append.1 hl with hl|hl
    ·have:=h l (List.dropLast_subset _ hl);omega
    ·rw[List.mem_singleton.1 hl]
     have:=h x (List.mem_of_getLast? hx)
     have:=addPc_le x.pcs s
     show(addPc x.pcs s).length≤_
     omega
theorem CutI.step{s:List UInt8}{c:Cs}(h:CutI s c)(hlt:c.at_<s.length):CutI s (lnStep c (line1 (s.drop c.at_))):=by
 have hr:restL s c.at_=line1 (s.drop c.at_)::restL s (c.at_+(line1 (s.drop c.at_)).length+1)∧c.at_+(line1 (s.drop c.at_)).length+1≤s.length+1:=by
  unfold restL
  rw[if_pos (by omega)]
  rcases split_cut (s.drop c.at_)with⟨-,h1,h2⟩|⟨h1,h2⟩
  ·rw[List.length_drop]at h1
   rw[if_pos (by omega),h2,List.drop_drop]
   exact⟨by rw[Nat.add_assoc],by omega⟩
  ·rw[h2,h1,List.length_drop,if_neg (by omega)]
   exact⟨rfl,by omega⟩
 refine⟨?_,hr.2,?_,?_⟩
 ·rw[h.eq,hr.1,List.foldl_cons];rfl
 ·have:=out_le c.at_ c.out (line1 (s.drop c.at_))
  have:=h.num
  show(lnOut _ _ _).length≤c.at_+_+1
  omega
 ·intro l hl
  have:=out_few h.few (line1 (s.drop c.at_)) l hl
  show _≤c.at_+_+1
  omega
theorem CutI.done{s:List UInt8}{c:Cs}(h:CutI s c)(hge:s.length≤c.at_):(cutT s).out=c.out∧(cutT s).bad=c.bad:=by
 rw[h.eq]
 unfold restL
 by_cases he:c.at_≤s.length
 ·rw[if_pos he,List.drop_eq_nil_of_le hge]
  exact⟨rfl,rfl⟩
 ·rw[if_neg he]
  exact⟨rfl,rfl⟩
def lnC(x:Ln×Value):List Value:=[.int .i64 x.1.at_,.string ⟨x.1.key.toArray⟩,x.2]
def lnCs(M:List (Ln×Value)):List Value:=M.flatMap lnC
theorem lnCs_len:∀M:List (Ln×Value),(lnCs M).length=M.length*3
 |[]=>rfl
 |x::M=>by
  show(lnC x++lnCs M).length=_
  rw[List.length_append,lnCs_len M,List.length_cons]
  show 3+_=_
  omega
theorem lnCs_snoc(M:List (Ln×Value))(x:Ln×Value):lnCs (M++[x])=lnCs M++lnC x:=by unfold lnCs;rw[List.flatMap_append];simp
structure LnM (w0 W:World) (v:Value) (M:List (Ln×Value)):Prop where
 row:W.ownsRow w0.heap.size 116 3 v M.length (lnCs M)
 pcs:∀x∈M,W.ownsRow w0.heap.size 9 1 x.2 x.1.pcs.length (strs x.1.pcs)
 apart:M.Pairwise fun x y=>x.2.ownBlock=none∨x.2.ownBlock≠y.2.ownBlock
theorem LnM.next{w0 W W':World}{v:Value}{M:List (Ln×Value)}(h:LnM w0 W v M)(hb:Bel W W'):LnM w0 W' v M:=⟨own_bel h.row hb,fun x hx=>own_bel (h.pcs x hx) hb,h.apart⟩
theorem lnM_nil(w0 W:World):LnM w0 W (.slice none 0 0) []:=⟨World.ownsRow_nil _ _ _ _,fun x hx=>(by cases hx),.nil⟩
theorem own_keep{W W':World}{base e size n:Nat}{v:Value}{xs:List Value}(h:W.ownsRow base e size v n xs)(hk:∀g,v.ownBlock=some g→W'.heap[g]?=W.heap[g]?):W'.ownsRow base e size v n xs:=by
 refine⟨h.1,?_⟩
 rcases h.2 with f|⟨g,cap,cur,rfl,hg,hh,rest⟩
 ·exact .inl f
 ·exact .inr ⟨g,cap,cur,rfl,hg,(hk g rfl).trans hh,rest⟩
theorem own_lt{W:World}{base e size n:Nat}{v:Value}{xs:List Value}(h:W.ownsRow base e size v n xs){g:Nat}(hg:v.ownBlock=some g):base≤g∧g<W.heap.size:=h.lt g hg
theorem AddP.bel{w0 w w':World}{b o:Nat}{pv pv':Value}{cur:Array Value}{L L0:List (List UInt8)}(h:AddP w0.heap.size b o pv cur L w w' pv')(hB:Bel w0 w)(hb:w0.heap.size≤b)(hown:w.ownsRow w0.heap.size 9 1 pv L0.length (strs L0)):Bel w0 w':=
 ⟨h.os.trans hB.os,h.tape.trans hB.tape,h.output.trans hB.output,Nat.le_trans hB.size h.size,fun k hk=>(h.keep k (Nat.lt_of_lt_of_le hk hB.size) (by omega) (fun e=>by have:=own_lt hown e.symm;omega)).trans (hB.block k hk)⟩
theorem LnM.row_add{w0 W W1 W2:World}{v:Value}{M:List (Ln×Value)}{pv':Value}{L:List (List UInt8)}{cur:Array Value}{o:Obj}(h:LnM w0 W v M)(hb:Bel W W1)(hA:AddP w0.heap.size W1.heap.size 0 (.slice none 0 0) cur L (W1.alloc o) W2 pv'):
 W2.ownsRow w0.heap.size 116 3 v M.length (lnCs M):=
 own_keep h.row fun g hg=>by
  have hlt:=(own_lt h.row hg).2
  have:=hb.size
  rw[hA.keep g (by rw[World.size_alloc];omega) (by omega) (by simp[Value.ownBlock]),heap_alloc_old W1 _ (by omega)]
  exact hb.block g hlt
theorem LnM.push {w0 W W1 W2:World} {v v':Value} {M:List (Ln×Value)} {at_:Nat} {key:List UInt8} {lb:Nat} {pv':Value} {L:List (List UInt8)} {cur:Array Value} {o:Obj} {v0:Value} (h:LnM w0 W v M)
 (hb:Bel W W1) (hlb:W.heap.size≤lb) (hA:AddP w0.heap.size lb 0 v0 cur L W1 W2 pv') (hv0:v0.ownBlock=none) {W3:World} (hg:(W2.alloc o).grownBy W3 v.ownBlock)
 (hrow:W3.ownsRow w0.heap.size 116 3 v' (M.length+1) (lnCs M++lnC (⟨at_,key,L⟩,pv'))):LnM w0 W3 v' (M++[(⟨at_,key,L⟩,pv')]):=by
 have hkeep:∀k,k<W.heap.size→W2.heap[k]?=W.heap[k]?:=fun k hk=>(hA.keep k (Nat.lt_of_lt_of_le hk hb.size) (by omega) (by rw[hv0];simp)).trans (hb.block k hk)
 have hsz:W.heap.size≤W2.heap.size:=Nat.le_trans hb.size hA.size
 have hk3:∀k,k<W2.heap.size→some k≠v.ownBlock→W3.heap[k]?=W2.heap[k]?:=fun k hk hne=>(hg.block k (by rw[World.size_alloc];omega) hne).trans (heap_alloc_old W2 _ hk)
 have hvT:∀(y:Value) (n:Nat) (xs:List Value),W2.ownsRow w0.heap.size 9 1 y n xs→∀g,y.ownBlock=some g→some g≠v.ownBlock:=fun y n xs hy g hgy e=>by
  rcases h.row.2 with⟨rfl,-⟩|⟨g2,cap,cu,rfl,-,hh,-⟩
  ·cases e
  ·cases e
   have hg2:=(Array.getElem?_eq_some_iff.1 hh).1
   exact own_ne hy ((hkeep g2 hg2).trans hh) (by decide) hgy
 refine⟨?_,?_,?_⟩
 ·rw[List.length_append,lnCs_snoc];exact hrow
 ·intro x hx
  rcases List.mem_append.1 hx with hx|hx
  ·have h2:=own_keep (h.pcs x hx) fun g hg'=>hkeep g (own_lt (h.pcs x hx) hg').2
   exact own_keep h2 fun g hg'=>hk3 g (own_lt h2 hg').2 (hvT _ _ _ h2 g hg')
  ·rw[List.mem_singleton.1 hx]
   exact own_keep hA.row fun g hg'=>hk3 g (own_lt hA.row hg').2 (hvT _ _ _ hA.row g hg')
 ·rw[List.pairwise_append]
  refine⟨h.apart,List.pairwise_singleton ..,fun x hx y hy=> ?_⟩
  rw[List.mem_singleton.1 hy]
  cases hxb:x.2.ownBlock with
  |none=>exact .inl rfl
  |some g=>
   refine .inr fun e=> ?_
   have hlt:=(own_lt (h.pcs x hx) hxb).2
   rcases hA.fresh with f|⟨g2,f,hg2⟩
   ·have e2:some g=pv'.ownBlock:=e
    rw[f,hv0]at e2
    cases e2
   ·have e2:some g=pv'.ownBlock:=e
    rw[f]at e2
    cases e2
    have:=hb.size
    omega
theorem LnM.more {w0 W W2:World} {g cap:Nat} {cur:Array Value} {M:List (Ln×Value)} {l:Ln} {pv pv':Value} {L:List (List UInt8)} (h:LnM w0 W (.slice (some ⟨g,0,none⟩) (M.length+1) cap) (M++[(l,pv)]))
 (hg:W.heap[g]?=some (.cells cur 116 (0,0))) (hA:AddP w0.heap.size g (M.length*3) pv cur L W W2 pv'):LnM w0 W2 (.slice (some ⟨g,0,none⟩) (M.length+1) cap) (M++[(⟨l.at_,l.key,L⟩,pv')]):=by
 have hpv:=h.pcs (l,pv) (by simp)
 have hap:∀x∈M,x.2.ownBlock=none∨x.2.ownBlock≠pv.ownBlock:=fun x hx=>(List.pairwise_append.1 h.apart).2.2 x hx _ (List.mem_singleton.2 rfl)
 have hlen:(M++[(l,pv)]).length=M.length+1:=by simp
 have hrow:=h.row
 rw[hlen]at hrow
 rcases hrow.2 with⟨e,-⟩|⟨g2,cap2,cu,e,hbg,hh,hnc,hcm,hcs,htk⟩
 ·cases e
 cases e
 rw[hg]at hh
 cases hh
 have hne:∀(y:Value) (n:Nat) (xs:List Value),W.ownsRow w0.heap.size 9 1 y n xs→∀k,y.ownBlock=some k→k≠g:=fun y n xs hy k hk e=>own_ne hy hg (by decide) (by rw[hk,e])
 refine⟨?_,?_,?_⟩
 ·rw[show(M++[((⟨l.at_,l.key,L⟩:Ln),pv')]).length=M.length+1 by simp]
  refine⟨by rw[lnCs_len];simp,.inr ⟨g,cap,_,rfl,hbg,hA.blk,hnc,hcm,by rw[Array.size_setIfInBounds];exact hcs,?_⟩⟩
  rw[Array.toList_setIfInBounds,List.take_set,htk,lnCs_snoc,lnCs_snoc,List.set_append_right _ _ (by rw[lnCs_len];omega),lnCs_len]
  rw[show M.length*3+2-M.length*3=2 by omega]
  rfl
 ·intro x hx
  rcases List.mem_append.1 hx with hx|hx
  ·have hx0:=h.pcs x (List.mem_append_left _ hx)
   refine own_keep hx0 fun k hk=>hA.keep k (own_lt hx0 hk).2 (hne _ _ _ hx0 k hk) fun e=> ?_
   rcases hap x hx with f|f
   ·rw[f]at hk;cases hk
   ·exact f (by rw[hk,e])
  ·rw[List.mem_singleton.1 hx];exact hA.row
 ·rw[List.pairwise_append]
  refine⟨(List.pairwise_append.1 h.apart).1,List.pairwise_singleton ..,fun x hx y hy=> ?_⟩
  rw[List.mem_singleton.1 hy]
  show x.2.ownBlock=none∨x.2.ownBlock≠pv'.ownBlock
  rcases hA.fresh with f|⟨g3,f,hg3⟩
  ·rw[f];exact hap x hx
  ·cases hxb:x.2.ownBlock with
   |none=>exact .inl rfl
   |some k=>
    refine .inr fun e=> ?_
    rw[f]at e
    cases e
    have:=(own_lt (h.pcs x (List.mem_append_left _ hx)) hxb).2
    omega
end Go.Proofs.YtmlmkmhkmifnkaaGreatDoor.Tb
namespace Go.Proofs.YtmlmkmhkmifnkaaGreatDoor.Ci
open Go.RowKit
theorem indexByte_no(c:UInt8):∀l:List UInt8,c∉l→Lib.indexByte l c= -1
 |[],_=>rfl
 |b::l,h=>by
  have hb:(b==c)=false:=by rw[beq_eq_false_iff_ne];intro e;exact h (by simp[e])
  have ih:=indexByte_no c l (fun e=>h (List.mem_cons_of_mem _ e))
  unfold Lib.indexByte
  rw[hb,ih]
  rfl
theorem decode_asc(s:ByteArray)(ha:∀b∈s.data.toList,b.toNat<128)(pos:Nat)(h:pos<s.size):∃b,b<128∧Utf8.decode s pos=(b,1):=by
 have hb:(s.get! pos).toNat<128:=by
  rw[get_at]
  unfold List.getD
  rw[at_get s pos h]
  exact ha _ (List.mem_of_getElem? (at_get s pos h))
 refine⟨_,hb,?_⟩
 rw[Lib.decode_at]
 unfold Lib.decodeN
 rw[if_pos hb]
theorem idxrune_two(s:ByteArray)(ha:∀b∈s.data.toList,b.toNat<128)(h5:2≤s.size)(hs:s.size≤2)(r:Nat)(h1:128≤r)(h2:r≤1114111)(w:World):
 Calls Tryz.prog 211 #[.string s,.int .i32 (r:Int)] w fun e w'=>e=.returned (.int .i64 (-1))∧Bel w w':=by
 have d0:decide ((r:Int)<128)=false:=decide_eq_false (by omega)
 by_cases hr:r=65533
 ·have dr:((r:Int)==65533)=true:=by rw[hr];rfl
  have HA:=hid ha
  clear hr ha
  go_enter Tryz.func211,Tryz.ntmps211
  go_wp2_with fail
  go_loopg [] s.size (fun gf wx=>∃pos:Nat,wx.heap[w.heap.size]?=some (.stringIter s pos)∧Below w.heap.size w wx∧s.size≤pos+gf)
  case atStart=>exact⟨0,World.iter_heap w s 0,(Below.refl _ w).alloc (Nat.le_refl _) _,by omega⟩
  case round=>
   obtain⟨pos,hit,hbw,hfu⟩:=hrel
   by_cases hps:pos<s.size
   ·have hnx:∀ty,(Instr.next (.pointer (some ⟨w.heap.size,0,none⟩)) true ty).run Tryz.prog wr=_:=fun ty=>Lib.run_next_any_at wr w.heap.size s pos ty hit hps
    obtain⟨b,hb,hd⟩:=decode_asc s HA.out pos hps
    rw[hd]at hnx
    have hit2:=Lib.iterAt_heap wr w.heap.size s pos (pos+1) hit
    have hbw2:=Lib.below_iterAt hbw (k:=w.heap.size) (Nat.le_refl _) s (pos+1)
    obtain⟨W,hWd⟩:∃W,wr.iterAt w.heap.size s (pos+1)=W:=⟨_,rfl⟩
    rw[hWd]at hnx hit2 hbw2
    have db:((b:Int)==65533)=false:=by rw[beq_eq_false_iff_ne];omega
    clear hd hWd
    go_wp2_with fail
    go_roundg (gk-1)
    case measure=>omega
    case rel=>exact⟨pos+1,hit2,hbw2,by omega⟩
   ·have hnx:∀ty,(Instr.next (.pointer (some ⟨w.heap.size,0,none⟩)) true ty).run Tryz.prog wr=_:=fun ty=>Lib.run_next_end_at wr w.heap.size s pos ty hit hps
    go_wp2_with fail
    go_ret
    first
     |exact⟨rfl,hbw⟩
     |exact⟨rfl,Lib.below_iterAt hbw (k:=w.heap.size) (Nat.le_refl _) s _⟩
 ·have dr:((r:Int)==65533)=false:=by rw[beq_eq_false_iff_ne];omega
  have HV:=(show Hid (∀W,Calls Tryz.prog 260 #[.int .i32 (r:Int)] W fun e w'=>e=.returned (.bool (Lib.validRune r))∧w'=W)from fun W=>Tryz.utf8_ValidRune r W)
  cases hv:Lib.validRune (r:Int)with
  |false=>
   rw[hv]at HV
   clear ha hv hr
   go_enter Tryz.func211,Tryz.ntmps211
   go_wp2_with fail
   refine(HV.out _).mono ?_
   rintro e w' ⟨rfl,rfl⟩
   go_wp2_with fail
   go_ret
   exact⟨rfl,Bel.refl _⟩
  |true=>
   rw[hv]at HV
   have hvv:Utf8.valid (r:Int)=true:=by
    unfold Lib.validRune at hv
    have:=of_decide_eq_true hv
    unfold Utf8.valid
    simp
    omega
   obtain⟨f2,f4,fb⟩:=encode_facts (r:Int) hvv (by omega)
   have hcv:=fun W=>run_convert_int_string (P:=Tryz.prog) W 21 9 .i32 (r:Int) (by kernel_rfl) Tryz.underlying9
   generalize Utf8.encode (r:Int)=T at f2 f4 fb hcv
   obtain⟨k,hk⟩:∃k,T.size=k+1:=⟨T.size-1,by omega⟩
   have hkT:k<T.size:=by omega
   by_cases hk2:k<2
   ·have hks:k<s.size:=by omega
    have hk1:k+1≤s.size:=by omega
    have hb:128≤(T[k]'hkT).toNat:=by
     have:=fb (by omega)
     have e:∀j (hj:j<T.size),j=k→128≤(T[j]'hj).toNat→128≤(T[k]'hkT).toNat:=fun j hj ej h=>by subst ej;exact h
     exact e _ _ (by omega) this
    have hsb:(s[k]'hks).toNat<128:=ha _ (List.mem_of_getElem? (at_get s k hks))
    have dn:(((s[k]'hks).toNat:Int) !=((T[k]'hkT).toNat:Int))=true:=by rw[bne_iff_ne];omega
    have HI:=(show Hid (∀W,Calls Tryz.prog 168 #[.string (s.extract (k+1) s.size),.int .u8 ((T[k]'hkT).toNat:Int)] W fun e w'=>e=.returned (.int .i64 (-1))∧Bel W w')from fun W=>(Tryz.strings_IndexByte _ _ W).mono fun e w' ⟨he,hw⟩=>by
     refine⟨?_,by rw[hw];exact Bel.refl W⟩
     rw[he,Lib.extract_to_end,indexByte_no]
     intro hm
     have:=ha _ (List.mem_of_mem_drop hm)
     have e2:(((T[k]'hkT).toNat:Int).toNat).toUInt8=T[k]'hkT:=by simp
     rw[e2]at this
     omega)
    clear ha hv hr fb hvv hsb hb
    go_enter Tryz.func211,Tryz.ntmps211
    go_wp2_with fail
    refine(HV.out _).mono ?_
    rintro e w' ⟨rfl,rfl⟩
    go_wp2_with fail
    go_step3
    go_wp2_with fail
    go_loop [9] (fun v9=>v9=.int .i64 (k:Int)) (fun _=>0)
    case atStart=>rfl
    case round=>
     subst hrel
     clear hk f2 f4
     go_wp2_with fail
     go_step3
     go_wp2_with fail
     go_quiet (fail)
     go_wp2_with fail
     refine wp_region_aft (by kernel_rfl) (by kernel_rfl) ?_
     repeat (first
      |go_big_quiet_skip
      |go_big_quiet_step (first|(go_at_call 168;(with_reducible refine Calls.aft (HI.out _))))
      |quiet_step (first|(go_at_call 168;(with_reducible refine Calls.aft (HI.out _)))))
     refine wpQuiet_nil ?_
     rintro _ ⟨p,rfl⟩
     go_wp2_with fail
     simp+zetaDelta only[Exit.inBlock,Exit.then,Exit.noGoto_ret]
     go_ret
     exact⟨rfl,((Bel.refl _).drewN _).trans p.bel⟩
   ·have hno:¬k<s.size:=by omega
    clear ha hv hr fb hvv
    go_enter Tryz.func211,Tryz.ntmps211
    go_wp2_with fail
    refine(HV.out _).mono ?_
    rintro e w' ⟨rfl,rfl⟩
    go_wp2_with fail
    go_step3
    go_wp2_with fail
    go_loop [9] (fun v9=>v9=.int .i64 (k:Int)) (fun _=>0)
    case atStart=>rfl
    case round=>
     subst hrel
     clear hk f2 f4
     go_wp2_with fail
     first|go_ret|(trace_state;sorry)
     exact⟨rfl,Bel.refl _⟩
def blk(b:UInt8):Bool:=b==32||b==9
def blI(l:List UInt8):Int:=match l.findIdx? blk with
 |some k=>k
 |none=> -1
theorem indexAny_blI:∀l:List UInt8,Lib.indexAny l [32,9]=blI l
 |[]=>rfl
 |b::l=>by
  have ih:=indexAny_blI l
  unfold Lib.indexAny
  rw[ih]
  unfold blI
  rw[List.findIdx?_cons]
  have e:([32,9]:List UInt8).contains b=blk b:=by
   unfold blk
   rw[List.contains_cons,List.contains_cons,List.contains_nil,Bool.or_false]
  rw[e]
  cases hb:blk b with
  |true=>rfl
  |false=>
   cases hl:l.findIdx? blk with
   |none=>rfl
   |some k=>
    show(if(k:Int)== -1 then(-1:Int)else(k:Int)+1)=((k+1:Nat):Int)
    have:((k:Int)== -1)=false:=by rw[beq_eq_false_iff_ne];omega
    rw[this];rfl
def bls:ByteArray:=⟨#[32,9]⟩
theorem bls_index(r:Nat)(h:r<128):decide (0≤Lib.indexByte bls.data.toList ((r:Int).toNat).toUInt8)=blk r.toUInt8:=by
 have key:∀n:Fin 128,decide (0≤Lib.indexByte bls.data.toList ((n.val:Int).toNat).toUInt8)=blk n.val.toUInt8:=by decide+kernel
 exact key ⟨r,h⟩
theorem blk_big{b:UInt8}(h:128≤b.toNat):blk b=false:=by
 unfold blk
 rw[Bool.or_eq_false_iff,beq_eq_false_iff_ne,beq_eq_false_iff_ne]
 constructor<;>(rintro rfl;revert h;decide)
theorem blI_none{l:List UInt8}(h:∀j,j<l.length→blk (l.getD j 0)=false):blI l= -1:=by
 unfold blI
 rw[List.findIdx?_eq_none_iff.2 fun x hx=> ?_]
 obtain⟨j,hj,rfl⟩:=List.getElem_of_mem hx
 have:=h j hj
 rw[List.getD_eq_getElem?_getD,List.getElem?_eq_getElem hj]at this
 simpa using this
theorem blI_at{l:List UInt8}{k:Nat}(hk:k<l.length)(h:∀j,j<k→blk (l.getD j 0)=false)(hb:blk (l.getD k 0)=true):blI l=k:=by
 unfold blI
 have:l.findIdx? blk=some k:=by
  rw[List.findIdx?_eq_some_iff_getElem]
  refine⟨hk,?_,fun j hj=> ?_⟩
  ·rw[List.getD_eq_getElem?_getD,List.getElem?_eq_getElem hk]at hb
   exact hb
  ·have:=h j hj
   rw[List.getD_eq_getElem?_getD,List.getElem?_eq_getElem (by omega)]at this
   simpa using this
 rw[this]
theorem blk_round(s:ByteArray)(pos:Nat)(hp:pos<s.size):1≤(Utf8.decode s pos).2∧pos+(Utf8.decode s pos).2≤s.size∧
 ((Utf8.decode s pos).1<128∧(Utf8.decode s pos).2=1∧blk (s.data.toList.getD pos 0)=blk ((Utf8.decode s pos).1).toUInt8∨
  128≤(Utf8.decode s pos).1∧∀j,pos≤j→j<pos+(Utf8.decode s pos).2→blk (s.data.toList.getD j 0)=false):=by
 have hd:=Lib.decode_at s pos
 by_cases hb:(s.get! pos).toNat<128
 ·have e:Utf8.decode s pos=((s.get! pos).toNat,1):=by
   rw[hd];unfold Lib.decodeN;rw[if_pos hb]
  rw[e]
  refine⟨Nat.le_refl _,hp,.inl ⟨hb,rfl,?_⟩⟩
  rw[←get_at]
  simp
 ·have hB:=dec_big (s.size-pos) (s.get! pos).toNat (s.get! (pos+1)).toNat (s.get! (pos+2)).toNat (s.get! (pos+3)).toNat hb (by omega)
  rw[←hd]at hB
  generalize Utf8.decode s pos=d at hB⊢
  obtain⟨r,w⟩:=d
  obtain⟨g1,g2,g3,g4,g5,g6,g7⟩:=hB
  simp only at g1 g2 g3 g4 g5 g6 g7⊢
  refine⟨g2,by omega,.inr ⟨g1,fun j h1 h2=> ?_⟩⟩
  rw[←get_at]
  refine blk_big ?_
  obtain⟨q,rfl⟩:∃q,j=pos+q:=⟨j-pos,by omega⟩
  have hq:q=0∨q=1∨q=2∨q=3:=by omega
  rcases hq with rfl|rfl|rfl|rfl
  ·rw[Nat.add_zero];omega
  ·exact g5 (by omega)
  ·exact g6 (by omega)
  ·exact g7 (by omega)
theorem irune_run(r:Nat)(h:r≤1114111)(w:World):Calls Tryz.prog 211 #[.string bls,.int .i32 (r:Int)] w fun e w'=>∃q:Int,e=.returned (.int .i64 q)∧decide (0≤q)=(decide (r<128)&&blk r.toUInt8)∧Bel w w':=by
 by_cases hr:r<128
 ·refine(Tryz.strings_IndexRune_ascii bls r w (by omega) (by omega)).mono ?_
  rintro e w' ⟨rfl,hw⟩
  exact⟨_,rfl,by rw[bls_index r hr,decide_eq_true hr,Bool.true_and],by rw[hw];exact Bel.refl _⟩
 ·refine(idxrune_two bls (by decide) (by decide) (by decide) r (by omega) h w).mono ?_
  rintro e w' ⟨rfl,hb⟩
  exact⟨_,rfl,by rw[decide_eq_false hr];rfl,hb⟩
theorem should_run(n:Int)(w:World):Calls Tryz.prog 212 #[.int .i64 n] w fun e w'=>e=.returned (.bool (decide (8<n)))∧w'=w:=by
 go_enter Tryz.func212,Tryz.ntmps212
 go_wp2_with fail
 go_ret
 exact⟨rfl,rfl⟩
theorem idxany_short(s:ByteArray)(h8:s.size≤8)(w:World):Calls Tryz.prog 134 #[.string s,.string bls] w fun e w'=>e=.returned (.int .i64 (blI s.data.toList))∧Bel w w':=by
 have h8z:decide ((8:Int)<(s.size:Int))=false:=decide_eq_false (by omega)
 have HSZ:=hid (Lib.size_eq s)
 have HR:=(show Hid (∀W r,r≤1114111→Calls Tryz.prog 211 #[.string bls,.int .i32 ((r:Nat):Int)] W fun e w'=>∃q:Int,e=.returned (.int .i64 q)∧decide (0≤q)=(decide (r<128)&&blk r.toUInt8)∧Bel W w')from fun W r h=>irune_run r h W)
 have hemp:bls.toList.isEmpty=false:=by rw[ByteArray.toList_eq];rfl
 have hemp2:(bls.toList==[])=false:=by rw[ByteArray.toList_eq];rfl
 have hn1:((bls.size:Int)==1)=false:=by decide
 generalize bls=B at HR hemp hemp2 hn1⊢
 go_enter Tryz.func134,Tryz.ntmps134
 have HS:=(show Hid (∀W,Calls Tryz.prog 212 #[.int .i64 (s.size:Int)] W fun e w'=>e=.returned (.bool false)∧w'=W)from fun W=>by rw[←h8z];exact should_run _ W)
 clear h8z
 go_wp2_with (first|(go_at_call 212;refine(HS.out _).mono ?_;rintro e w1 ⟨rfl,rfl⟩))
 go_loopg [9,10] s.size (fun gf _ _ wx=>∃pos:Nat,wx.heap[w1.heap.size]?=some (.stringIter s pos)∧Hid (Bel w1 wx)∧s.size≤pos+gf∧pos≤s.size∧Hid (∀j,j<pos→blk (s.data.toList.getD j 0)=false))
 case atStart=>exact⟨0,World.iter_heap w1 s 0,(Bel.refl w1).alloc _,by omega,by omega,hid fun j hj=>absurd hj (Nat.not_lt_zero _)⟩
 case round=>
  obtain⟨pos,hit,HB,hfu,hle,HN⟩:=hrel
  by_cases hps:pos<s.size
  ·have hnx:∀ty,(Instr.next (.pointer (some ⟨w1.heap.size,0,none⟩)) true ty).run Tryz.prog wr=_:=fun ty=>Lib.run_next_any_at wr w1.heap.size s pos ty hit hps
   have hrl:=Lib.rune_le s pos
   obtain⟨r1,r2,r3⟩:=blk_round s pos hps
   have hit2:=Lib.iterAt_heap wr w1.heap.size s pos (pos+(Utf8.decode s pos).2) hit
   have hbw2:=hid (show Bel w1 _ from Lib.below_iterAt HB.out (k:=w1.heap.size) (Nat.le_refl _) s (pos+(Utf8.decode s pos).2))
   generalize Utf8.decode s pos=d at hnx hrl r1 r2 r3 hit2 hbw2
   obtain⟨r,n⟩:=d
   simp only at hnx hrl r1 r2 r3 hit2 hbw2
   obtain⟨W,hWd⟩:∃W,wr.iterAt w1.heap.size s (pos+n)=W:=⟨_,rfl⟩
   rw[hWd]at hnx hit2 hbw2
   clear hWd hit
   have HI:=hid (HR.out W r hrl)
   by_cases hbl:r<128∧blk r.toUInt8=true
   ·have HX:=hid (show blI s.data.toList=(pos:Int)from blI_at (by have:=HSZ.out;omega) HN.out (by
     rcases r3 with h|h
     ·rw[h.2.2];exact hbl.2
     ·omega))
    have HI:=(show Hid (Calls Tryz.prog 211 #[.string B,.int .i32 ((r:Nat):Int)] W fun e w'=>∃q:Int,e=.returned (.int .i64 q)∧decide (0≤q)=true∧Bel W w')from HI.out.mono fun e w' ⟨q,h1,h2,h3⟩=>⟨q,h1,by rw[h2,decide_eq_true hbl.1,hbl.2];rfl,h3⟩)
    clear r3 hbl hit2
    go_wp2_with (first|(go_at_call 211;refine HI.out.mono ?_;rintro e w3 ⟨q,rfl,hq,hb3⟩;have HB3:=hid hb3;clear hb3))
    go_ret
    exact⟨by rw[HX.out];rfl,hbw2.out.trans HB3.out⟩
   ·have HI:=(show Hid (Calls Tryz.prog 211 #[.string B,.int .i32 ((r:Nat):Int)] W fun e w'=>∃q:Int,e=.returned (.int .i64 q)∧decide (0≤q)=false∧Bel W w')from HI.out.mono fun e w' ⟨q,h1,h2,h3⟩=>⟨q,h1,by
     rw[h2]
     by_cases h5:r<128
     ·rw[decide_eq_true h5,Bool.true_and]
      cases hk:blk r.toUInt8 with
      |false=>rfl
      |true=>exact absurd ⟨h5,hk⟩ hbl
     ·rw[decide_eq_false h5];rfl,h3⟩)
    have HN2:=hid (show∀j,j<pos+n→blk (s.data.toList.getD j 0)=false from fun j hj=>by
     by_cases hj2:j<pos
     ·exact HN.out j hj2
     ·rcases r3 with h|h
      ·obtain rfl:j=pos:=by omega
       rw[h.2.2]
       cases hk:blk r.toUInt8 with
       |false=>rfl
       |true=>exact absurd ⟨h.1,hk⟩ hbl
      ·exact h.2 j (by omega) hj)
    clear r3 hbl HN
    go_wp2_with (first|(go_at_call 211;refine HI.out.mono ?_;rintro e w3 ⟨q,rfl,hq,hb3⟩;have HB3:=hid hb3;clear hb3))
    go_roundg (gk-n)
    case measure=>omega
    case rel=>exact⟨pos+n,HB3.out.heap hit2,hid (hbw2.out.trans HB3.out),by omega,by omega,HN2⟩
  ·have hnx:∀ty,(Instr.next (.pointer (some ⟨w1.heap.size,0,none⟩)) true ty).run Tryz.prog wr=_:=fun ty=>Lib.run_next_end_at wr w1.heap.size s pos ty hit hps
   have HX:=hid (show blI s.data.toList= -1 from blI_none fun j hj=>HN.out j (by have:=HSZ.out;omega))
   clear HN
   go_wp2_with fail
   go_ret
   first
    |exact⟨by rw[HX.out];rfl,HB.out⟩
    |exact⟨by rw[HX.out];rfl,Lib.below_iterAt HB.out (k:=w1.heap.size) (Nat.le_refl _) s _⟩
theorem idxany_run(s:ByteArray)(w:World)(hs:s.size<4294967281):Calls Tryz.prog 134 #[.string s,.string bls] w fun e w'=>e=.returned (.int .i64 (blI s.data.toList))∧Bel w w':=by
 by_cases h8:s.size≤8
 ·exact idxany_short s h8 w
 ·refine(Any.strings_IndexAny_long Tryz.lays153 (zero_of_info (n:=256) (by kernel_rfl)).1 (by kernel_rfl) s bls w (by decide) (by omega) hs (by decide) (ascii_of_all (by decide))).mono ?_
  rintro e w' ⟨rfl,rfl⟩
  exact⟨by rw[show bls.data.toList=[32,9]from rfl,indexAny_blI],((Bel.refl w).alloc _).alloc _⟩
end Go.Proofs.YtmlmkmhkmifnkaaGreatDoor.Ci
namespace Go.Proofs.YtmlmkmhkmifnkaaGreatDoor.Tb
open Go.RowKit
open Ci (Bel hid own_bel row_shape own_base addr_add trim_run cut_str_run)
def CutPost(s:List UInt8)(w:World)(e:Ending)(w':World):Prop:=∃v M,e=.returned (.tuple #[v,.int .i64 (cutT s).bad])∧Bel w w'∧LnM w w' v M∧M.map (·.1)=(cutT s).out
structure CuH (s:List UInt8) (w wr:World) (c:Cs) (v:Value) (M:List (Ln×Value)):Prop where
 bel:Bel w wr
 mem:LnM w wr v M
 eq:M.map (·.1)=c.out
 ci:CutI s c
theorem trimL_run(s:ByteArray)(w:World):Calls Tryz.prog 132 #[.string s,.string ⟨#[32,9]⟩] w fun e w'=>e=.returned (.string ⟨(innerL s.data.toList).toArray⟩)∧Bel w w':=
 Any.strings_TrimLeft_laid Tryz.lays161 (by kernel_rfl) s ⟨#[32,9]⟩ w (by decide) (ascii_of_all (by decide))
theorem isBl_blk(b:UInt8):isBl b=Ci.blk b:=by
 unfold isBl bl2 Ci.blk
 rw[List.contains_cons,List.contains_cons,List.contains_nil,Bool.or_false]
theorem blI_key(s:List UInt8):Ci.blI (s++[32])=(keyN s:Nat)∧keyN s≤s.length:=by
 unfold Ci.blI keyN
 induction s with
 |nil=>exact⟨rfl,Nat.le_refl _⟩
 |cons b l ih=>
  rw[List.cons_append,List.findIdx?_cons,List.takeWhile_cons,isBl_blk]
  cases hb:Ci.blk b with
  |true=>exact⟨rfl,Nat.zero_le _⟩
  |false=>
   obtain⟨i1,i2⟩:=ih
   simp only[Bool.not_false,if_true,Bool.false_eq_true,if_false,List.length_cons]
   refine⟨?_,by omega⟩
   cases hf:(l++[32]).findIdx? Ci.blk with
   |none=>rw[hf]at i1;simp only at i1;omega
   |some k=>rw[hf]at i1;simp only[Option.map_some]at i1⊢;omega
theorem out_skip{at_:Nat}{out:List Ln}{bad:Int}{s:List UInt8}(h:trm (innerL s)=[]∨(innerL s).head?=some 35):lnOut at_ out s=out∧lnBad at_ out bad s=bad:=by
 unfold lnOut lnBad
 rw[if_pos h,if_pos h]
 exact⟨rfl,rfl⟩
theorem out_key{at_:Nat}{out:List Ln}{bad:Int}{s:List UInt8}(h:¬(trm (innerL s)=[]∨(innerL s).head?=some 35))(h2:(innerL s).length=s.length):lnOut at_ out s=out++[⟨at_,lowR (s.take (keyN s)),addPc [] (s.drop (keyN s))⟩]∧lnBad at_ out bad s=bad:=by
 unfold lnOut lnBad
 rw[if_neg h,if_neg h,if_pos h2,if_pos h2]
 exact⟨rfl,rfl⟩
theorem out_first{at_:Nat}{bad:Int}{s:List UInt8}(h:¬(trm (innerL s)=[]∨(innerL s).head?=some 35))(h2:¬(innerL s).length=s.length):lnOut at_ [] s=[]∧lnBad at_ [] bad s=if bad<0∨(at_:Int)<bad then(at_:Int)else bad:=by
 unfold lnOut lnBad
 rw[if_neg h,if_neg h,if_neg h2,if_neg h2]
 refine⟨rfl,?_⟩
 simp
theorem out_more{at_:Nat}{out:List Ln}{l:Ln}{bad:Int}{s:List UInt8}(h:¬(trm (innerL s)=[]∨(innerL s).head?=some 35))(h2:¬(innerL s).length=s.length):lnOut at_ (out++[l]) s=out++[⟨l.at_,l.key,addPc l.pcs s⟩]∧lnBad at_ (out++[l]) bad s=bad:=by
 unfold lnOut lnBad
 rw[if_neg h,if_neg h,if_neg h2,if_neg h2,List.getLast?_concat,List.dropLast_concat]
 refine⟨rfl,?_⟩
 rw[if_neg (by simp)]
theorem ln_infos:(Tryz.prog.info? 116).map (fun i=>(i.zero,i.size,i.bytes))=some (some (.agg #[.int .i64 0,.string ⟨#[]⟩,.slice none 0 0]),3,48):=by kernel_rfl
theorem cut_run(s:ByteArray)(w:World)(hw:Lat w)(hs:s.size≤262144):Calls Tryz.prog 67 #[.string s] w (CutPost s.data.toList w):=by
 have HW:=hid hw
 have HSZ:=hid (Lib.size_eq s)
 have HB0:=(show Hid (Calls Tryz.prog 129 #[.string s,.func (.func 130) #[] #[]] w fun e w'=>e=.returned (.int .i64 (badAt s.data.toList))∧Bel w w')from badIdx_run s w)
 have H0:=hid (CutI.start s.data.toList)
 clear hw
 go_enter Tryz.func67,Tryz.ntmps67
 go_wp2_with (first|(go_at_call 129;refine HB0.out.mono ?_;rintro e w1 ⟨rfl,hb1⟩;have HB1:=hid hb1;clear hb1))
 go_loopg [4,5,6] (s.size+1) (fun gg v4 v5 v6 wr=>∃(k:Nat) (bad:Int) (out:List Ln) (x:Option Addr) (p m:Nat) (M:List (Ln×Value)),v4=.int .i64 bad∧v5=.slice x m p∧v6=.int .i64 k∧k+gg=s.size+1∧Hid (m=M.length)∧Hid (CuH s.data.toList w wr ⟨k,out,bad⟩ (.slice x m p) M))
 case atStart=>exact⟨0,_,[],none,0,0,[],rfl,rfl,rfl,by omega,hid rfl,hid ⟨HB1.out,lnM_nil _ _,rfl,H0.out⟩⟩
 case round=>
  clear H0 HB0 HB1
  obtain⟨k,bad,out,x,p,m,M,rfl,rfl,rfl,hk,HMl,H⟩:=hrel
  have Hk:=hid hk
  have hkle:k≤s.size+1:=by omega
  clear hk
  by_cases hlt:k<s.size
  ·have hlt2:k<s.data.toList.length:=by rw[←HSZ.out];exact hlt
   have HN:=hid (H.out.ci.step hlt2)
   obtain⟨l0,hl0⟩:∃l0:ByteArray,l0=⟨(line1 (s.data.toList.drop k)).toArray⟩:=⟨_,rfl⟩
   have hl0d:l0.data.toList=line1 (s.data.toList.drop k):=by rw[hl0]
   have hl0z:k+l0.size≤s.size:=by
    rw[Lib.size_eq,hl0d]
    have:=(Ci.cut_len (s.data.toList.drop k) [10]).1
    rw[List.length_drop,←HSZ.out]at this
    unfold line1
    omega
   have HCt:=(show Hid (∀W,Lat W→Calls Tryz.prog 131 #[.string (s.extract k s.size),.string ⟨#[10]⟩] W fun e w'=>∃a b,e=.returned (.tuple #[.string l0,.string a,.bool b])∧Bel W w')from fun W hW=>(cut_str_run (s.extract k s.size) ⟨#[10]⟩ W hW.lay (by rw[ByteArray.size_extract];omega)).mono fun e w' h=>⟨⟨(Lib.cut (s.extract k s.size).data.toList [10]).2.1.toArray⟩,(Lib.cut (s.extract k s.size).data.toList [10]).2.2,by
    rw[h.1,hl0]
    unfold line1
    rw[←Lib.extract_to_end],h.2⟩)
   have HTL:=(show Hid (∀W,Calls Tryz.prog 132 #[.string l0,.string ⟨#[32,9]⟩] W fun e w'=>e=.returned (.string ⟨(innerL l0.data.toList).toArray⟩)∧Bel W w')from fun W=>trimL_run l0 W)
   obtain⟨a,ha⟩:∃a:ByteArray,a=⟨(innerL l0.data.toList).toArray⟩:=⟨_,rfl⟩
   have had:a.data.toList=innerL l0.data.toList:=by rw[ha]
   have haz:a.size=(innerL l0.data.toList).length:=by rw[Lib.size_eq,had]
   have hale:a.size≤l0.size:=by
    rw[haz,Lib.size_eq]
    unfold innerL Lib.trimLeftS
    exact(List.dropWhile_sublist _).length_le
   rw[←ha]at HTL
   have HT:=(show Hid (∀W,Calls Tryz.prog 133 #[.string a,.string ⟨#[32,9]⟩] W fun e w'=>e=.returned (.string ⟨(trm (innerL l0.data.toList)).toArray⟩)∧Bel W w')from fun W=>by
    have:=trim_run a ⟨#[32,9]⟩ W (by omega) (by decide) (by decide)
    rw[had]at this
    exact this)
   obtain⟨t,ht⟩:∃t:ByteArray,t=⟨(trm (innerL l0.data.toList)).toArray⟩:=⟨_,rfl⟩
   have htd:t.data.toList=trm (innerL l0.data.toList):=by rw[ht]
   rw[←ht]at HT
   rw[←hl0d]at HN
   have hstep:lnStep ⟨k,out,bad⟩ l0.data.toList=⟨k+l0.size+1,lnOut k out l0.data.toList,lnBad k out bad l0.data.toList⟩:=by rw[Lib.size_eq];rfl
   rw[hstep]at HN
   clear hstep hl0 ha ht
   have HHa:=hid had
   have HHaz:=hid haz
   have HHl:=hid hl0d
   have HHt:=hid htd
   clear had haz hl0d htd
   have HBe:=hid H.out.bel
   have HM:=hid H.out.mem
   have HE:=hid H.out.eq
   have HFw:=hid (show∀l∈out,l.pcs.length≤k from H.out.ci.few)
   have HNu:=hid (show out.length≤k from H.out.ci.num)
   clear H
   by_cases h0:t.data.toList=[]
   ·have e1:(t.toList==[])=true:=by rw[ByteArray.toList_eq,h0];rfl
    have e3:t.toList.isEmpty=true:=by rw[ByteArray.toList_eq,h0];rfl
    have hsk:trm (innerL l0.data.toList)=[]∨(innerL l0.data.toList).head?=some 35:=.inl (by rw[←HHt.out];exact h0)
    have HN:=hid (show CutI s.data.toList ⟨k+l0.size+1,out,bad⟩from by
     have:=HN.out
     rwa[(out_skip (bad:=bad) hsk).1,(out_skip hsk).2]at this)
    clear h0 hsk
    go_wp2_with (first|(go_at_call 131;refine(HCt.out _ (HW.out.next HBe.out)).mono ?_;rintro e w2 ⟨ca,cb,rfl,hb2⟩;have HB2:=hid hb2;clear hb2)|(go_at_call 132;refine(HTL.out _).mono ?_;rintro e w3 ⟨rfl,hb3⟩;have HB3:=hid (HB2.out.trans hb3);clear hb3)|(go_at_call 133;refine(HT.out _).mono ?_;rintro e w4 ⟨rfl,hb4⟩;have HB4:=hid (HB3.out.trans hb4);clear hb4))
    go_roundg (gk-(l0.size+1))
    case measure=>have:=Hk.out;omega
    case rel=>exact⟨k+l0.size+1,bad,out,x,p,m,M,rfl,rfl,by go_num,by have:=Hk.out;omega,HMl,hid ⟨HBe.out.trans HB4.out,HM.out.next HB4.out,HE.out,HN.out⟩⟩
   ·have e1:(t.toList==[])=false:=by
     rw[ByteArray.toList_eq]
     cases h:t.data.toList with
     |nil=>exact absurd h h0
     |cons=>rfl
    have e3:t.toList.isEmpty=false:=by
     rw[ByteArray.toList_eq]
     cases h:t.data.toList with
     |nil=>exact absurd h h0
     |cons=>rfl
    have hpos:0<a.size:=by
     refine Nat.pos_of_ne_zero fun h=>h0 ?_
     rw[HHaz.out]at h
     rw[HHt.out,List.eq_nil_of_length_eq_zero h];rfl
    have hhd:(innerL l0.data.toList).head?=some (a[0]'hpos):=by
     rw[←HHa.out,List.head?_eq_getElem?]
     exact Lib.data_getElem? a 0 hpos
    by_cases h35:a[0]'hpos=35
    ·have b1:(((a[0]'hpos).toNat:Int)==35)=true:=Ma.byte_eq (n:=35) (by decide) h35
     have b2:((a[0]'hpos).toNat:Int)=35:=by simpa using b1
     have hsk:trm (innerL l0.data.toList)=[]∨(innerL l0.data.toList).head?=some 35:=.inr (by rw[hhd,h35])
     have HN:=hid (show CutI s.data.toList ⟨k+l0.size+1,out,bad⟩from by
      have:=HN.out
      rwa[(out_skip (bad:=bad) hsk).1,(out_skip hsk).2]at this)
     clear h0 hsk hhd h35
     go_wp2_with (first|(go_at_call 131;refine(HCt.out _ (HW.out.next HBe.out)).mono ?_;rintro e w2 ⟨ca,cb,rfl,hb2⟩;have HB2:=hid hb2;clear hb2)|(go_at_call 132;refine(HTL.out _).mono ?_;rintro e w3 ⟨rfl,hb3⟩;have HB3:=hid (HB2.out.trans hb3);clear hb3)|(go_at_call 133;refine(HT.out _).mono ?_;rintro e w4 ⟨rfl,hb4⟩;have HB4:=hid (HB3.out.trans hb4);clear hb4))
     go_roundg (gk-(l0.size+1))
     case measure=>have:=Hk.out;omega
     case rel=>exact⟨k+l0.size+1,bad,out,x,p,m,M,rfl,rfl,by go_num,by have:=Hk.out;omega,HMl,hid ⟨HBe.out.trans HB4.out,HM.out.next HB4.out,HE.out,HN.out⟩⟩
    ·have b1:(((a[0]'hpos).toNat:Int)==35)=false:=Ma.byte_ne (n:=35) (by decide) h35
     have b2:¬((a[0]'hpos).toNat:Int)=35:=by simpa using b1
     have hns:¬(trm (innerL l0.data.toList)=[]∨(innerL l0.data.toList).head?=some 35):=by
      rintro(h|h)
      ·exact h0 (by rw[HHt.out];exact h)
      ·rw[hhd]at h;exact h35 (Option.some.inj h)
     have HNS:=hid hns
     clear h0 hhd h35 hns
     by_cases hle:a.size=l0.size
     ·have b5:((a.size:Int)==(l0.size:Int))=true:=by rw[beq_iff_eq];omega
      have HLL:=hid (show(innerL l0.data.toList).length=l0.data.toList.length by rw[←HHaz.out,←Lib.size_eq];exact hle)
      obtain⟨kn1,kn2⟩:=blI_key l0.data.toList
      have hl0s:=Lib.size_eq l0
      obtain⟨n,hn⟩:∃n,n=keyN l0.data.toList:=⟨_,rfl⟩
      rw[←hn]at kn1 kn2
      have hnl:n≤l0.size:=by omega
      have HN:=hid (show CutI s.data.toList ⟨k+l0.size+1,out++[⟨k,lowR (l0.data.toList.take n),addPc [] (l0.data.toList.drop n)⟩],bad⟩from by
       have:=HN.out
       rwa[(out_key (bad:=bad) HNS.out HLL.out).1,(out_key HNS.out HLL.out).2,←hn]at this)
      have a1:∀W:World,(Op.stringOp .add l0 ⟨#[32]⟩).run Tryz.prog W=.ok (.string (l0++⟨#[32]⟩)) W:=fun W=>run_string_add_sum W _ _ (by show l0.size+1≤_;omega)
      have HIA:=(show Hid (∀W,Calls Tryz.prog 134 #[.string (l0++⟨#[32]⟩),.string ⟨#[32,9]⟩] W fun e w'=>e=.returned (.int .i64 (n:Nat))∧Bel W w')from fun W=>by
       have:=Ci.idxany_run (l0++⟨#[32]⟩) W (by rw[ByteArray.size_append];show l0.size+1<_;omega)
       rw[Ci.app_data,show(⟨#[32]⟩:ByteArray).data.toList=[32]from rfl,kn1]at this
       exact this)
      have HLo:=(show Hid (∀W,Lat W→Calls Tryz.prog 135 #[.string (l0.extract 0 n)] W fun e w'=>e=.returned (.string ⟨(lowR (l0.data.toList.take n)).toArray⟩)∧Bel W w')from fun W hW=>by
       have:=tlower_run (l0.extract 0 n) W hW (by rw[ByteArray.size_extract];omega)
       rwa[Ma.ext_front]at this)
      obtain⟨key,hkey⟩:∃key,key=lowR (l0.data.toList.take n):=⟨_,rfl⟩
      rw[←hkey]at HLo HN
      have HA:=(show Hid (∀W b,w.heap.size≤W.heap.size→W.heap[b]?=some (.cells #[.int .i64 (k:Nat),.string ⟨key.toArray⟩,.slice none 0 0] 116 (0,0))→Calls Tryz.prog 136 #[.pointer (some ⟨b,0,none⟩),.string (l0.extract n l0.size)] W fun e w'=>e=.returned (.tuple #[])∧∃pv',AddP w.heap.size b 0 (.slice none 0 0) #[.int .i64 (k:Nat),.string ⟨key.toArray⟩,.slice none 0 0] (addPc [] (l0.data.toList.drop n)) W w' pv')from fun W b hW hb=>by
       have:=add_run w.heap.size b 0 (l0.extract n l0.size) (.slice none 0 0) [] _ W hb rfl (World.ownsRow_nil _ _ _ _) hW (by rw[ByteArray.size_extract];omega) (by simp)
       rwa[Ma.ext_back]at this)
      have hmk:m≤262144:=by
       have h1:=HMl.out
       have h2:=congrArg List.length HE.out
       rw[List.length_map]at h2
       have h3:=HNu.out
       have h4:(⟨k,out,bad⟩:Cs).out=out:=rfl
       rw[h4]at h2
       omega
      clear hle hn kn1 kn2 hl0s hkey
      go_wp2_with (first|(go_at_call 131;refine(HCt.out _ (HW.out.next HBe.out)).mono ?_;rintro e w2 ⟨ca,cb,rfl,hb2⟩;have HB2:=hid hb2;clear hb2)|(go_at_call 132;refine(HTL.out _).mono ?_;rintro e w3 ⟨rfl,hb3⟩;have HB3:=hid (HB2.out.trans hb3);clear hb3)|(go_at_call 133;refine(HT.out _).mono ?_;rintro e w4 ⟨rfl,hb4⟩;have HB4:=hid (HB3.out.trans hb4);clear hb4)|(go_at_call 134;refine(HIA.out _).mono ?_;rintro e w5 ⟨rfl,hb5⟩;have HB5:=hid (HB4.out.trans hb5);clear hb5)|(go_at_call 135;refine(HLo.out _ (HW.out.next (HBe.out.trans HB5.out))).mono ?_;rintro e w6 ⟨rfl,hb6⟩;have HB6:=hid (HB5.out.trans hb6);clear hb6)|(go_at_call 136;refine(HA.out _ w6.heap.size (by rw[World.size_alloc];have:=(HBe.out.trans HB6.out).size;omega) (heap_alloc_new w6 _)).mono ?_;rintro e w7 ⟨rfl,pv',hA7⟩;obtain⟨px,pn,pc,rfl⟩:∃px pn pc,pv'=.slice px pn pc:=(by obtain⟨x,c,e,-⟩:=row_shape hA7.row;exact⟨_,_,_,e⟩);have hblk:w7.heap[w6.heap.size]?=some (.cells #[.int .i64 (k:Nat),.string ⟨key.toArray⟩,.slice px pn pc] 116 (0,0)):=hA7.blk;have d0:w7.cell? ⟨w6.heap.size,0,none⟩=some (.int .i64 (k:Nat)):=(by rw[Lib.cell_of_heap hblk];rfl);have d1:w7.cell? ⟨w6.heap.size,1,none⟩=some (.string ⟨key.toArray⟩):=(by rw[Lib.cell_of_heap hblk];rfl);have d2:w7.cell? ⟨w6.heap.size,2,none⟩=some (.slice px pn pc):=(by rw[Lib.cell_of_heap hblk];rfl);have HA7:=hid hA7;clear hA7 hblk;have HR7:=hid (LnM.row_add HM.out HB6.out HA7.out))|(at_builtin;refine wpList_push_at (W:=w7) rfl _ _ 109 rfl 116 (.agg #[.int .i64 0,.string ⟨#[]⟩,.slice none 0 0]) 3 48 Tryz.underlying109 ln_infos rfl (by decide) w.heap.size (.slice x m p) m (lnCs M) rfl (by rw[HMl.out]at HR7⊢;exact HR7.out) (by have:=(HBe.out.trans HB6.out).size;have:=HA7.out.size;rw[World.size_alloc]at this;omega) _ rfl rfl (by intro u hu;simp at hu;rcases hu with rfl|rfl|rfl<;>rfl) (by unfold maxLen;omega) (by omega) ?_;intro v' w9 hown9 hg9 _;have H9:=hid (And.intro hown9 hg9);obtain⟨x9,p9,hv9⟩:∃x p,v'=.slice x (m+1) p:=(by obtain⟨x,c,e,-⟩:=row_shape hown9;exact⟨_,_,e⟩);clear hown9 hg9;subst hv9))
      go_roundg (gk-(l0.size+1))
      case measure=>have:=Hk.out;omega
      case rel=>exact⟨k+l0.size+1,bad,_,x9,p9,m+1,M++[(⟨k,key,addPc [] (l0.data.toList.drop n)⟩,.slice px pn pc)],rfl,rfl,by go_num,by have:=Hk.out;omega,hid (by rw[List.length_append,←HMl.out];rfl),hid (by
       have hown:=H9.out.1
       rw[HMl.out]at hown
       have hM:=LnM.push (at_:=k) (key:=key) HM.out (HB6.out.alloc _) HB6.out.size HA7.out rfl H9.out.2 hown
       have hb7:Bel w w7:=HA7.out.bel (L0:=[]) ((HBe.out.trans HB6.out).alloc _) (HBe.out.trans HB6.out).size (World.ownsRow_nil _ _ _ _)
       refine⟨Bel.grown (hb7.alloc _) H9.out.2 (HR7.out.alloc _),?_,by rw[List.map_append];exact congrArg (· ++_) HE.out,HN.out⟩
       rw[←HMl.out]at hM
       exact hM)⟩
     ·have b5:((a.size:Int)==(l0.size:Int))=false:=by rw[beq_eq_false_iff_ne];omega
      have b6:¬a.size=l0.size:=hle
      have HLL:=hid (show¬(innerL l0.data.toList).length=l0.data.toList.length by rw[←HHaz.out,←Lib.size_eq];exact hle)
      clear hle
      have hsnoc:M=[]∨∃M0 y,M=M0++[y]:=by
       by_cases h:M=[]
       ·exact .inl h
       ·exact .inr ⟨_,_,(List.dropLast_concat_getLast h).symm⟩
      rcases hsnoc with rfl|⟨M0,⟨l,pv⟩,rfl⟩
      ·have hout:out=[]:=HE.out.symm
       subst hout
       obtain rfl:m=0:=HMl.out
       by_cases hbad:bad<0∨(k:Int)<bad
       ·have HN:=hid (show CutI s.data.toList ⟨k+l0.size+1,[],k⟩from by
         have:=HN.out
         rwa[(out_first (bad:=bad) HNS.out HLL.out).1,(out_first HNS.out HLL.out).2,if_pos hbad]at this)
        by_cases hb0:bad<0
        ·have d0:decide (bad<0)=true:=decide_eq_true hb0
         clear hbad hb0
         go_wp2_with (first|(go_at_call 131;refine(HCt.out _ (HW.out.next HBe.out)).mono ?_;rintro e w2 ⟨ca,cb,rfl,hb2⟩;have HB2:=hid hb2;clear hb2)|(go_at_call 132;refine(HTL.out _).mono ?_;rintro e w3 ⟨rfl,hb3⟩;have HB3:=hid (HB2.out.trans hb3);clear hb3)|(go_at_call 133;refine(HT.out _).mono ?_;rintro e w4 ⟨rfl,hb4⟩;have HB4:=hid (HB3.out.trans hb4);clear hb4))
         go_roundg (gk-(l0.size+1))
         case measure=>have:=Hk.out;omega
         case rel=>exact⟨k+l0.size+1,k,[],x,p,0,[],rfl,rfl,by go_num,by have:=Hk.out;omega,hid rfl,hid ⟨HBe.out.trans HB4.out,HM.out.next HB4.out,rfl,HN.out⟩⟩
        ·have d0:decide (bad<0)=false:=decide_eq_false hb0
         have d1:decide ((k:Int)<bad)=true:=decide_eq_true (hbad.resolve_left hb0)
         clear hbad hb0
         go_wp2_with (first|(go_at_call 131;refine(HCt.out _ (HW.out.next HBe.out)).mono ?_;rintro e w2 ⟨ca,cb,rfl,hb2⟩;have HB2:=hid hb2;clear hb2)|(go_at_call 132;refine(HTL.out _).mono ?_;rintro e w3 ⟨rfl,hb3⟩;have HB3:=hid (HB2.out.trans hb3);clear hb3)|(go_at_call 133;refine(HT.out _).mono ?_;rintro e w4 ⟨rfl,hb4⟩;have HB4:=hid (HB3.out.trans hb4);clear hb4))
         go_roundg (gk-(l0.size+1))
         case measure=>have:=Hk.out;omega
         case rel=>exact⟨k+l0.size+1,k,[],x,p,0,[],rfl,rfl,by go_num,by have:=Hk.out;omega,hid rfl,hid ⟨HBe.out.trans HB4.out,HM.out.next HB4.out,rfl,HN.out⟩⟩
       ·have HN:=hid (show CutI s.data.toList ⟨k+l0.size+1,[],bad⟩from by
         have:=HN.out
         rwa[(out_first (bad:=bad) HNS.out HLL.out).1,(out_first HNS.out HLL.out).2,if_neg hbad]at this)
        have d0:decide (bad<0)=false:=decide_eq_false fun h=>hbad (.inl h)
        have d1:decide ((k:Int)<bad)=false:=decide_eq_false fun h=>hbad (.inr h)
        clear hbad
        go_wp2_with (first|(go_at_call 131;refine(HCt.out _ (HW.out.next HBe.out)).mono ?_;rintro e w2 ⟨ca,cb,rfl,hb2⟩;have HB2:=hid hb2;clear hb2)|(go_at_call 132;refine(HTL.out _).mono ?_;rintro e w3 ⟨rfl,hb3⟩;have HB3:=hid (HB2.out.trans hb3);clear hb3)|(go_at_call 133;refine(HT.out _).mono ?_;rintro e w4 ⟨rfl,hb4⟩;have HB4:=hid (HB3.out.trans hb4);clear hb4))
        go_roundg (gk-(l0.size+1))
        case measure=>have:=Hk.out;omega
        case rel=>exact⟨k+l0.size+1,bad,[],x,p,0,[],rfl,rfl,by go_num,by have:=Hk.out;omega,hid rfl,hid ⟨HBe.out.trans HB4.out,HM.out.next HB4.out,rfl,HN.out⟩⟩
      ·have hout:out=M0.map (·.1)++[l]:=HE.out.symm.trans (by simp)
       subst hout
       have hm0:M0.length+1≤k:=by
        have:=HNu.out
        simpa using this
       have HN:=hid (show CutI s.data.toList ⟨k+l0.size+1,M0.map (·.1)++[⟨l.at_,l.key,addPc l.pcs l0.data.toList⟩],bad⟩from by
        have:=HN.out
        rwa[(out_more (bad:=bad) HNS.out HLL.out).1,(out_more HNS.out HLL.out).2]at this)
       obtain rfl:m=M0.length+1:=HMl.out.trans (by simp)
       obtain⟨g,rfl⟩:∃g,x=some ⟨g,0,none⟩:=by
        rcases HM.out.row.2 with⟨-,h0⟩|⟨g,cap,cur,e,-⟩
        ·simp at h0
        ·exact⟨g,(Value.slice.inj e).1⟩
       obtain⟨cur,hcur⟩:∃cur,wr.heap[g]?=some (.cells cur 116 (0,0)):=by
        rcases HM.out.row.2 with⟨e,-⟩|⟨g2,cap,cur,e,-,hh,-⟩
        ·cases(Value.slice.inj e).1
        ·cases(Value.slice.inj e).1;exact⟨cur,hh⟩
       have HCu:=hid hcur
       have hg2:cur[M0.length*3+2]?=some pv:=by
        rcases HM.out.row.2 with⟨e,-⟩|⟨g2,cap,cu,e,-,hh,-,-,-,htk⟩
        ·cases(Value.slice.inj e).1
        ·cases(Value.slice.inj e).1
         rw[hcur]at hh
         cases hh
         have:(cur.toList.take ((M0++[(l,pv)]).length*3))[M0.length*3+2]?=some pv:=by
          rw[htk,lnCs_snoc,List.getElem?_append_right (by rw[lnCs_len];omega),lnCs_len,show M0.length*3+2-M0.length*3=2 by omega]
          rfl
         rw[List.getElem?_take]at this
         split at this
         ·simpa using this
         ·cases this
       have HG2:=hid hg2
       have hfew:=HFw.out l (by simp)
       have HA:=(show Hid (∀W,Bel wr W→Calls Tryz.prog 136 #[.pointer (some ⟨g,M0.length*3,none⟩),.string l0] W fun e w'=>e=.returned (.tuple #[])∧∃pv',AddP w.heap.size g (M0.length*3) pv cur (addPc l.pcs l0.data.toList) W w' pv')from
        fun W hW=>add_run w.heap.size g (M0.length*3) l0 pv l.pcs cur W (hW.heap HCu.out) HG2.out (own_bel (HM.out.pcs (l,pv) (by simp)) hW) (Nat.le_trans HBe.out.size hW.size) (by omega) (by omega))
       clear hcur hg2
       go_wp2_with (first|(go_at_call 131;refine(HCt.out _ (HW.out.next HBe.out)).mono ?_;rintro e w2 ⟨ca,cb,rfl,hb2⟩;have HB2:=hid hb2;clear hb2)|(go_at_call 132;refine(HTL.out _).mono ?_;rintro e w3 ⟨rfl,hb3⟩;have HB3:=hid (HB2.out.trans hb3);clear hb3)|(go_at_call 133;refine(HT.out _).mono ?_;rintro e w4 ⟨rfl,hb4⟩;have HB4:=hid (HB3.out.trans hb4);clear hb4)|(go_at_call 136;refine(HA.out _ HB4.out).mono ?_;rintro e w5 ⟨rfl,pv',hA5⟩;have HA5:=hid hA5;clear hA5))
       go_roundg (gk-(l0.size+1))
       case measure=>have:=Hk.out;omega
       case rel=>exact⟨k+l0.size+1,bad,_,some ⟨g,0,none⟩,p,M0.length+1,M0++[(⟨l.at_,l.key,addPc l.pcs l0.data.toList⟩,pv')],rfl,rfl,by go_num,by have:=Hk.out;omega,hid (by simp),hid (by
        have h4:=HM.out.next HB4.out
        have hp4:=h4.pcs (l,pv) (by simp)
        have hM:=LnM.more h4 (HB4.out.heap HCu.out) HA5.out
        refine⟨HA5.out.bel (HBe.out.trans HB4.out) ?_ hp4,?_,by rw[List.map_append];rfl,HN.out⟩
        ·rcases HM.out.row.2 with⟨e,-⟩|⟨g2,cap,cu,e,hbg,-⟩
         ·cases(Value.slice.inj e).1
         ·cases(Value.slice.inj e).1;exact hbg
        ·exact hM)⟩
  ·have HD:=hid (H.out.ci.done (by rw[←HSZ.out];exact Nat.le_of_not_lt hlt))
   have HBe:=hid H.out.bel
   have HM:=hid H.out.mem
   have HE:=hid H.out.eq
   clear H
   go_wp2_with fail
   go_ret2
   exact⟨.slice x m p,M,by rw[HD.out.2];rfl,HBe.out,HM.out,by rw[HD.out.1];exact HE.out⟩
end Go.Proofs.YtmlmkmhkmifnkaaGreatDoor.Tb