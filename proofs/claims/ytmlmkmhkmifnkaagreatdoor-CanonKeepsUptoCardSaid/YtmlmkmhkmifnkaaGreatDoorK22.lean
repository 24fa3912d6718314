import Derived.Test.YtmlmkmhkmifnkaaGreatDoorK20
set_option maxHeartbeats 16000000
set_option maxRecDepth 1000000
namespace Go.Proofs.YtmlmkmhkmifnkaaGreatDoor.Tb
open Go.RowKit
open Ci (Bel hid own_bel row_shape own_base addr_add)
def ParsePost(s:List UInt8)(w:World)(e:Ending)(w':World):Prop:=match tparse s with
 |some es=>∃a,e=.returned (.tuple #[.pointer a,.agg #[.int .i64 0,.int .i64 0]])∧Bel w w'∧TabAt w' a es
 |none=>∃code at_:Int,code≠0∧e=.returned (.tuple #[.pointer none,.agg #[.int .i64 code,.int .i64 at_]])∧Bel w w'
theorem parse_none{s:List UInt8}{w w':World}{code at_:Int}(h:tparse s=none)(hc:code≠0)(hb:Bel w w'):ParsePost s w (.returned (.tuple #[.pointer none,.agg #[.int .i64 code,.int .i64 at_]])) w':=by
 unfold ParsePost
 rw[h]
 exact⟨code,at_,hc,rfl,hb⟩
theorem parse_some{s:List UInt8}{w w':World}{es:List En}{a:Option Addr}(h:tparse s=some es)(hb:Bel w w')(ht:TabAt w' a es):ParsePost s w (.returned (.tuple #[.pointer a,.agg #[.int .i64 0,.int .i64 0]])) w':=by
 unfold ParsePost
 rw[h]
 exact⟨a,rfl,hb,ht⟩
structure RefM (s:List UInt8) (w w':World) (code at_:Int):Prop where
 ne:code≠0
 none:tparse s=none
 bel:Bel w w'
 res:w'.heap[w.heap.size]?=some (.cells #[.int .i64 0,.int .i64 0] 62 (0,0))
 flt:w'.heap[w.heap.size+1]?=some (.cells #[.int .i64 code,.int .i64 at_] 62 (0,0))
def RefT(s:ByteArray)(w:World)(a:Act)(w':World):Prop:=∃code at_:Int,a.defers=[]∧a.tmps.size=107∧a.tmps.getD 3 undef=.pointer (some ⟨w.heap.size,0,none⟩)∧a.tmps.getD 4 undef=.pointer (some ⟨w.heap.size+1,0,none⟩)∧RefM s.data.toList w w' code at_
theorem three_blocks(w:World)(a b c:Obj):(((w.alloc a).alloc b).alloc c).heap[w.heap.size]?=some a∧(((w.alloc a).alloc b).alloc c).heap[w.heap.size+1]?=some b∧(((w.alloc a).alloc b).alloc c).heap[w.heap.size+1+1]?=some c:=by
 refine⟨?_,?_,?_⟩
 ·rw[heap_alloc_old _ _ (by rw[World.size_alloc,World.size_alloc];omega),heap_alloc_old _ _ (by rw[World.size_alloc];omega)]
  exact heap_alloc_new w a
 ·rw[heap_alloc_old _ _ (by rw[World.size_alloc,World.size_alloc];omega)]
  exact Ci.alloc_second w a b
 ·have:=heap_alloc_new ((w.alloc a).alloc b) c
  rw[World.size_alloc,World.size_alloc]at this
  exact this
theorem lnCs_at(M:List (Ln×Value))(k:Nat)(hk:k<M.length)(j:Nat)(v:Value)(hv:(lnC M[k])[j]?=some v):(lnCs M)[k*3+j]?=some v:=by
 have hj:j<3:=(List.getElem?_eq_some_iff.1 hv).1
 have e:lnCs M=lnCs (M.take k)++(lnC M[k]++lnCs (M.drop (k+1))):=by
  have:M=M.take k++M[k]::M.drop (k+1):=by simp
  conv=>lhs;rw[this]
  unfold lnCs
  rw[List.flatMap_append];rfl
 have hl:(lnCs (M.take k)).length=k*3:=by rw[lnCs_len,List.length_take,Nat.min_eq_left (by omega)]
 rw[e,List.getElem?_append_right (by omega),hl,show k*3+j-k*3=j by omega,List.getElem?_append_left (by show j<3;exact hj)]
 exact hv
theorem LnM.place{w0 W:World}{x:Option Addr}{m p:Nat}{M:List (Ln×Value)}(h:LnM w0 W (.slice x m p) M){k:Nat}(hk:k<M.length):∃g,x=some ⟨g,0,none⟩∧∀j v,(lnC M[k])[j]?=some v→W.cell? ⟨g,k*3+j,none⟩=some v:=by
 rcases h.row.2 with⟨-,h0⟩|⟨g,cap,cur,e,-⟩
 ·omega
 ·obtain⟨rfl,rfl,rfl⟩:=Value.slice.inj e
  refine⟨g,rfl,fun j v hv=> ?_⟩
  have h2:=lnCs_at M k hk j v hv
  have hl:k*3+j<(lnCs M).length:=(List.getElem?_eq_some_iff.1 h2).1
  rw[lnCs_len]at hl
  rw[World.ownsRow.cellAt h.row (k*3+j) hl]
  exact h2
theorem LnM.keep{w0 W W':World}{v:Value}{M:List (Ln×Value)}(h:LnM w0 W v M)(hk:∀g,w0.heap.size≤g→g<W.heap.size→W'.heap[g]?=W.heap[g]?):LnM w0 W' v M:=
 ⟨own_keep h.row fun g hg=>hk g (own_lt h.row hg).1 (own_lt h.row hg).2,fun x hx=>own_keep (h.pcs x hx) fun g hg=>hk g (own_lt (h.pcs x hx) hg).1 (own_lt (h.pcs x hx) hg).2,h.apart⟩
theorem two_set{W:World}{b:Nat}{u v a c:Value}{T:TypeId}(h:W.heap[b]?=some (.cells #[u,v] T (0,0))):((W.setCell ⟨b,0,none⟩ a).setCell ⟨b,1,none⟩ c).heap[b]?=some (.cells #[a,c] T (0,0)):=by
 have h1:(W.setCell ⟨b,0,none⟩ a).heap[b]?=some (.cells #[a,v] T (0,0)):=heap_setCell_same _ _ _ _ _ _ h
 exact heap_setCell_same _ _ _ _ _ _ h1
theorem load_flt{w:World}{b:Nat}{cs:List Value}{T:TypeId}(hc:w.heap[b]?=some (.cells cs.toArray T (0,0)))(hl:cs.length=2):(loadVar 62 ⟨b,0,none⟩).run Tryz.prog w=.ok (.agg cs.toArray) w:=
 run_loadVar_mid w b 0 62 cs _ (Ci.range_of hc fun j v hv=>by rw[Nat.zero_add];simpa using hv) Tryz.underlying62 rfl (by rw[hl];kernel_rfl)
theorem two_blk{W:World}{b:Nat}{u v a c:Value}{T:TypeId}(h:W.heap[b]?=some (.cells #[u,v] T (0,0))):((W.setCell ⟨b,1,none⟩ c).setCell ⟨b,0,none⟩ a).heap[b]?=some (.cells #[a,c] T (0,0)):=by
 have h1:(W.setCell ⟨b,1,none⟩ c).heap[b]?=some (.cells #[u,c] T (0,0)):=heap_setCell_same _ _ _ _ _ _ h
 exact heap_setCell_same _ _ _ _ _ _ h1
theorem tparse_run(s:ByteArray)(w:World)(hw:Lat w):Calls Tryz.prog 27 #[.string s] w (ParsePost s.data.toList w):=by
 have HW:=hid hw
 have HSZ:=hid (Lib.size_eq s)
 clear hw
 go_enter Tryz.func27,Tryz.ntmps27
 go_wp2_with fail
 refine wp_scope_jumps 0 (RefT s w) (fun _ _=>0) rfl ?_ ?_
 ·by_cases hbig:262144<s.size
  ·have b1:decide ((262144:Int)<(s.size:Int))=true:=decide_eq_true (by omega)
   have HX:=hid (show tparse s.data.toList=none by unfold tparse;rw[if_pos (by rw[←HSZ.out];exact hbig)])
   obtain⟨h1,h2,-⟩:=three_blocks w (.cells #[.int .i64 0,.int .i64 0] 62) (.cells #[.int .i64 60,.int .i64 262144] 62) (.cells #[.slice none 0 0] 112)
   have H1:=hid h1
   have H2:=hid h2
   have HB:=hid ((((Bel.refl w).alloc (.cells #[.int .i64 0,.int .i64 0] 62)).alloc (.cells #[.int .i64 60,.int .i64 262144] 62)).alloc (.cells #[.slice none 0 0] 112))
   clear h1 h2 hbig
   go_wp2_with fail
   go_step3
   simp+zetaDelta only[Exit.then,Exit.jump]
   exact⟨trivial,60,262144,rfl,rfl,rfl,rfl,by decide,HX.out,HB.out,H1.out,H2.out⟩
  ·have b1:decide ((262144:Int)<(s.size:Int))=false:=decide_eq_false (by omega)
   have H0:=hid (show tparse s.data.toList=parseF (cutT s.data.toList).bad (cutT s.data.toList).out [] by unfold tparse;rw[if_neg (by rw[←HSZ.out];exact hbig)])
   obtain⟨W,hWd⟩:∃W,W=((w.alloc (.cells #[.int .i64 0,.int .i64 0] 62)).alloc (.cells #[.int .i64 0,.int .i64 0] 62)).alloc (.cells #[.slice none 0 0] 112):=⟨_,rfl⟩
   obtain⟨h1,h2,h3⟩:=three_blocks w (.cells #[.int .i64 0,.int .i64 0] 62) (.cells #[.int .i64 0,.int .i64 0] 62) (.cells #[.slice none 0 0] 112)
   rw[←hWd]at h1 h2 h3
   have HB:=hid (show Bel w W by rw[hWd];exact(((Bel.refl w).alloc _).alloc _).alloc _)
   have hWs:W.heap.size=w.heap.size+3:=by rw[hWd,World.size_alloc,World.size_alloc,World.size_alloc]
   have HWs:=hid hWs
   have H3:=hid (And.intro h1 (And.intro h2 h3))
   have HC:=hid (cut_run s W (HW.out.next HB.out) (by omega))
   have HVS:=hid (value_small (s:=s.data.toList) (by rw[←HSZ.out];omega))
   clear h1 h2 h3 hWs hbig
   go_wp2_with fail
   rw[←hWd]
   clear hWd
   refine HC.out.mono ?_
   rintro e wc ⟨v,M,rfl,hbc,hm,he⟩
   obtain⟨x,p,rfl,hMp,hM63⟩:=row_shape hm.row
   have hM64:M.length≤9223372036854775807:=by omega
   clear hMp hM63
   have HBc:=hid hbc
   have HM:=hid hm
   have HE:=hid he
   clear hbc hm he HC
   have k0:wc.heap[w.heap.size+1]?=some (.cells #[.int .i64 0,.int .i64 0] 62 (0,0)):=HBc.out.heap H3.out.2.1
   have c0:wc.cell? ⟨w.heap.size+1,0,none⟩=some (.int .i64 0):=by rw[Lib.cell_of_heap k0];rfl
   have c1:wc.cell? ⟨w.heap.size+1,1,none⟩=some (.int .i64 0):=by rw[Lib.cell_of_heap k0];rfl
   have f0:wc.frozen? ⟨w.heap.size+1,0,none⟩=false:=Lib.frozen_of_heap k0 0
   have f1:wc.frozen? ⟨w.heap.size+1,1,none⟩=false:=Lib.frozen_of_heap k0 1
   have K0:=hid k0
   clear k0
   have hnl:(cutT s.data.toList).out.length=M.length:=by rw[←HE.out,List.length_map]
   generalize cutT s.data.toList=C at H0 HVS HE hnl
   obtain⟨cat,out,bad⟩:=C
   simp only at H0 HVS HE hnl
   by_cases hb0:0≤bad
   ·have d0:decide (0≤bad)=true:=decide_eq_true hb0
    go_wp2_with fail
    obtain⟨w1,hw1⟩:∃w1,w1=(wc.setCell ⟨w.heap.size+1,1,none⟩ (.int .i64 bad)).setCell ⟨w.heap.size+1,0,none⟩ (.int .i64 61):=⟨_,rfl⟩
    rw[←hw1]
    have k1:w1.heap[w.heap.size+1]?=some (.cells #[.int .i64 61,.int .i64 bad] 62 (0,0)):=by
     rw[hw1]
     exact two_blk K0.out
    have ko:∀j,j≠w.heap.size+1→w1.heap[j]?=wc.heap[j]?:=fun j hj=>by
     rw[hw1]
     rw[heap_setCell_other _ _ _ _ hj,heap_setCell_other _ _ _ _ hj]
    have hs1:w1.heap.size=wc.heap.size:=by rw[hw1];simp only[World.size_setCell]
    have ho1:w1.os=wc.os∧w1.tape=wc.tape∧w1.output=wc.output:=by rw[hw1];exact⟨rfl,rfl,rfl⟩
    have hWc:=HBc.out.size
    have hWs:=HWs.out
    have hBw:Bel w w1:=by
     refine⟨ho1.1.trans (HB.out.trans HBc.out).os,ho1.2.1.trans (HB.out.trans HBc.out).tape,ho1.2.2.trans (HB.out.trans HBc.out).output,?_,fun j hj=> ?_⟩
     ·rw[hs1];exact(HB.out.trans HBc.out).size
     ·rw[ko j (by omega)];exact(HB.out.trans HBc.out).block j hj
    have hbt:w.heap.size+1+1<w1.heap.size:=by omega
    have HI0:=hid (show PaI s.data.toList w1 w1 (w.heap.size+1+1) bad out 0 (.slice none 0 0) []from⟨rfl,rfl,rfl,Nat.le_refl _,fun _ _ _=>rfl,by rw[ko _ (by omega)];exact HBc.out.heap H3.out.2.2,World.ownsRow_nil _ _ _ _,trivial,Nat.zero_le _,by rw[List.drop_zero];exact H0.out⟩)
    have HM1:=hid (show LnM W w1 (.slice x M.length p) M from HM.out.keep fun g hg _=>ko g (by omega))
    have HR1:=hid (show w1.heap[w.heap.size]?=some (.cells #[.int .i64 0,.int .i64 0] 62 (0,0))from(ko _ (by omega)).trans (HBc.out.heap H3.out.1))
    have HK1:=hid k1
    have HBw:=hid hBw
    have HS:=hid (And.intro hs1 (And.intro hWc hWs))
    clear hBw k1 ko hs1 ho1 hWc hWs hw1 c0 c1 f0 f1 H0
    go_loopg [30] M.length (fun gg v30 wr=>∃(k:Nat) (es:List En) (xx:Option Addr) (cc:Nat),v30=.int .i64 k∧k+gg=M.length∧Hid (PaI s.data.toList w1 wr (w.heap.size+1+1) bad out k (.slice xx es.length cc) es))
    case atStart=>exact⟨0,[],none,0,rfl,by omega,HI0⟩
    case round=>
     clear HI0
     obtain⟨k,es,xx,cc,rfl,hk,HI⟩:=hrel
     have Hk:=hid hk
     have hkn:k≤M.length:=by omega
     clear hk
     have HBr:=hid (show Bel w wr from⟨HI.out.os.trans HBw.out.os,HI.out.tape.trans HBw.out.tape,HI.out.output.trans HBw.out.output,Nat.le_trans HBw.out.size HI.out.size,fun j hj=>(HI.out.keep j (Nat.lt_of_lt_of_le hj HBw.out.size) (by omega)).trans (HBw.out.block j hj)⟩)
     have HKr:=hid (show wr.heap[w.heap.size+1]?=some (.cells #[.int .i64 61,.int .i64 bad] 62 (0,0))from(HI.out.keep _ (by omega) (by omega)).trans HK1.out)
     have HRr:=hid (show wr.heap[w.heap.size]?=some (.cells #[.int .i64 0,.int .i64 0] 62 (0,0))from(HI.out.keep _ (by omega) (by omega)).trans HR1.out)
     have HFc:=(show Hid (∀W',Bel wr W'→W'.cell? ⟨w.heap.size+1,0,none⟩=some (.int .i64 61)∧W'.cell? ⟨w.heap.size+1,1,none⟩=some (.int .i64 bad)∧W'.frozen? ⟨w.heap.size+1,0,none⟩=false∧W'.frozen? ⟨w.heap.size+1,1,none⟩=false∧W'.cell? ⟨w.heap.size+1+1,0,none⟩=some (.slice xx es.length cc))from fun W' hW'=>⟨by rw[Lib.cell_of_heap (hW'.heap HKr.out)];rfl,by rw[Lib.cell_of_heap (hW'.heap HKr.out)];rfl,Lib.frozen_of_heap (hW'.heap HKr.out) 0,Lib.frozen_of_heap (hW'.heap HKr.out) 1,by rw[Lib.cell_of_heap (hW'.heap HI.out.tab)];rfl⟩)
     obtain⟨g0,g1,g2,g3,g4⟩:=HFc.out wr (Bel.refl wr)
     by_cases hlt:k<M.length
     ·have hkout:k<out.length:=by omega
      obtain⟨g,rfl,hgc⟩:=(HM1.out.keep fun g hg hg2=>HI.out.keep g hg2 (by have:=HS.out;omega):LnM W wr (.slice x M.length p) M).place hlt
      have hpc:=(HM1.out.keep fun g hg hg2=>HI.out.keep g hg2 (by have:=HS.out;omega):LnM W wr (.slice (some ⟨g,0,none⟩) M.length p) M).pcs M[k] (List.getElem_mem hlt)
      have hln:M[k].1=out[k]:=by
       have:(M.map (·.1))[k]?=out[k]?:=by rw[HE.out]
       rw[List.getElem?_map,List.getElem?_eq_getElem hlt,List.getElem?_eq_getElem hkout]at this
       exact Option.some.inj this
      have hvs:=HVS.out M[k].1 (by rw[hln];exact List.getElem_mem hkout)
      have hdr:out.drop k=M[k].1::out.drop (k+1):=by rw[hln];exact List.drop_eq_getElem_cons hkout
      have HEq:=hid (show tparse s.data.toList=parseF bad (M[k].1::out.drop (k+1)) es by rw[HI.out.eq,hdr])
      have HEq2:=hid hdr
      clear hln hdr hkout
      generalize M[k]=y at hgc hpc hvs HEq HEq2
      obtain⟨⟨at_,key,pcs⟩,pv⟩:=y
      obtain⟨px,pn,pc,rfl⟩:∃px pn pc,pv=.slice px pn pc:=by
       obtain⟨x,c,e,-⟩:=row_shape hpc
       exact⟨_,_,_,e⟩
      have l0:wr.cell? ⟨g,k*3,none⟩=some (.int .i64 at_):=hgc 0 _ rfl
      have l1:wr.cell? ⟨g,k*3+1,none⟩=some (.string ⟨key.toArray⟩):=hgc 1 _ rfl
      have l2:wr.cell? ⟨g,k*3+2,none⟩=some (.slice px pn pc):=hgc 2 _ rfl
      have HPc:=hid hpc
      simp only at hvs
      have HJ:=(show Hid (∀W',Bel wr W'→Calls Tryz.prog 68 #[.slice px pn pc,.string ⟨#[32]⟩] W' fun e w'=>e=.returned (.string ⟨(Lib.join pcs [32]).toArray⟩)∧Bel W' w')from fun W' hW'=>join_run (w0:=W) (own_bel HPc.out hW') hvs.1 hvs.2)
      have HP:=(show Hid (∀W',Bel wr W'→Calls Tryz.prog 69 #[.pointer (some ⟨w.heap.size+1+1,0,none⟩),.string ⟨key.toArray⟩] W' fun e w'=>e=.returned (.tuple #[.int .i64 (rank es key:Nat),.bool (foundB es key)])∧Bel W' w')from fun W' hW'=>place_run (w.heap.size+1+1) xx es cc ⟨key.toArray⟩ W' (hW'.heap HI.out.tab) (ens_of_row (own_bel HI.out.row hW')) HI.out.srt (by have:=HI.out.num;omega))
      have hb5:=heap_alloc_new wr (.cells #[.int .i64 at_,.string ⟨key.toArray⟩,.slice px pn pc] 116)
      have HXc:=(show Hid (∀W',Bel (wr.alloc (.cells #[.int .i64 at_,.string ⟨key.toArray⟩,.slice px pn pc] 116)) W'→W'.cell? ⟨wr.heap.size,0,none⟩=some (.int .i64 at_)∧W'.cell? ⟨wr.heap.size,1,none⟩=some (.string ⟨key.toArray⟩)∧W'.cell? ⟨wr.heap.size,2,none⟩=some (.slice px pn pc))from fun W' hW'=>⟨by rw[Lib.cell_of_heap (hW'.heap hb5)];rfl,by rw[Lib.cell_of_heap (hW'.heap hb5)];rfl,by rw[Lib.cell_of_heap (hW'.heap hb5)];rfl⟩)
      obtain⟨m0,m1,m2,m3,m4⟩:=HFc.out (wr.alloc (.cells #[.int .i64 at_,.string ⟨key.toArray⟩,.slice px pn pc] 116)) ((Bel.refl wr).alloc _)
      obtain⟨o0,o1,o2⟩:=HXc.out _ (Bel.refl (wr.alloc (.cells #[.int .i64 at_,.string ⟨key.toArray⟩,.slice px pn pc] 116)))
      clear hgc hpc hvs hb5
      obtain⟨jl,hjl⟩:∃jl,jl=Lib.join pcs [32]:=⟨_,rfl⟩
      have HJl:=hid hjl
      rw[←hjl]at HJ
      clear hjl
      by_cases hst:bad≤(at_:Int)
      ·have d1:decide (bad≤(at_:Int))=true:=decide_eq_true hst
       have HN:=hid (show tparse s.data.toList=none by rw[HEq.out];exact parse_bad hb0 _ _)
       clear hst
       go_wp2_with (first|(go_at_call 68;refine(HJ.out _ ((Bel.refl wr).alloc _)).mono ?_;rintro e w3 ⟨rfl,hb3⟩;have HB3:=hid hb3;have HB3r:=hid (((Bel.refl wr).alloc _).trans hb3);clear hb3;obtain⟨x0,x1,x2⟩:=HXc.out _ HB3.out;obtain⟨y0,y1,y2,y3,y4⟩:=HFc.out _ HB3r.out)|(go_at_call 69;refine(HP.out _ HB3r.out).mono ?_;rintro e w4 ⟨rfl,hb4⟩;have HB4:=hid (HB3.out.trans hb4);have HB4r:=hid (HB3r.out.trans hb4);clear hb4;obtain⟨z0,z1,z2⟩:=HXc.out _ HB4.out;obtain⟨q0,q1,q2,q3,q4⟩:=HFc.out _ HB4r.out))
       go_step3
       simp+zetaDelta only[Exit.inBlock,Exit.then,Exit.jump]
       exact⟨trivial,61,bad,rfl,rfl,rfl,rfl,by decide,HN.out,HBr.out.alloc _,((Bel.refl wr).alloc _).heap HRr.out,((Bel.refl wr).alloc _).heap HKr.out⟩
      ·have d1:decide (bad≤(at_:Int))=false:=decide_eq_false hst
       have hns:¬(0≤bad∧bad≤(at_:Int)):=fun h=>hst h.2
       clear hst
       have HNS:=hid hns
       by_cases h320:320<key.length
       ·have e1:decide ((320:Int)<(key.length:Int))=true:=decide_eq_true (by omega)
        have HN:=hid (show tparse s.data.toList=none by rw[HEq.out];exact parse_bad hb0 _ _)
        clear hns h320
        skip
        go_wp2_with (first|(go_at_call 68;refine(HJ.out _ ((Bel.refl wr).alloc _)).mono ?_;rintro e w3 ⟨rfl,hb3⟩;have HB3:=hid hb3;have HB3r:=hid (((Bel.refl wr).alloc _).trans hb3);clear hb3;obtain⟨x0,x1,x2⟩:=HXc.out _ HB3.out;obtain⟨y0,y1,y2,y3,y4⟩:=HFc.out _ HB3r.out)|(go_at_call 69;refine(HP.out _ HB3r.out).mono ?_;rintro e w4 ⟨rfl,hb4⟩;have HB4:=hid (HB3.out.trans hb4);have HB4r:=hid (HB3r.out.trans hb4);clear hb4;obtain⟨z0,z1,z2⟩:=HXc.out _ HB4.out;obtain⟨q0,q1,q2,q3,q4⟩:=HFc.out _ HB4r.out))
        go_step3
        simp+zetaDelta only[Exit.inBlock,Exit.then,Exit.jump]
        exact⟨trivial,61,at_,rfl,rfl,rfl,rfl,by decide,HN.out,((HBr.out.trans HB4r.out).setCell (b:=w.heap.size+1) (Nat.le_succ _) _).setCell (b:=w.heap.size+1) (Nat.le_succ _) _,by rw[heap_setCell_other _ _ _ _ (show w.heap.size≠w.heap.size+1 by omega),heap_setCell_other _ _ _ _ (show w.heap.size≠w.heap.size+1 by omega)];exact HB4r.out.heap HRr.out,two_set (HB4r.out.heap HKr.out)⟩
       ·have e1:decide ((320:Int)<(key.length:Int))=false:=decide_eq_false (by omega)
        by_cases hj0:jl=[]
        ·have HN:=hid (show tparse s.data.toList=none by rw[HEq.out];exact parse_bad hb0 _ _)
         clear hns h320
         subst hj0
         skip
         go_wp2_with (first|(go_at_call 68;refine(HJ.out _ ((Bel.refl wr).alloc _)).mono ?_;rintro e w3 ⟨rfl,hb3⟩;have HB3:=hid hb3;have HB3r:=hid (((Bel.refl wr).alloc _).trans hb3);clear hb3;obtain⟨x0,x1,x2⟩:=HXc.out _ HB3.out;obtain⟨y0,y1,y2,y3,y4⟩:=HFc.out _ HB3r.out)|(go_at_call 69;refine(HP.out _ HB3r.out).mono ?_;rintro e w4 ⟨rfl,hb4⟩;have HB4:=hid (HB3.out.trans hb4);have HB4r:=hid (HB3r.out.trans hb4);clear hb4;obtain⟨z0,z1,z2⟩:=HXc.out _ HB4.out;obtain⟨q0,q1,q2,q3,q4⟩:=HFc.out _ HB4r.out))
         go_step3
         simp+zetaDelta only[Exit.inBlock,Exit.then,Exit.jump]
         exact⟨trivial,61,at_,rfl,rfl,rfl,rfl,by decide,HN.out,((HBr.out.trans HB4r.out).setCell (b:=w.heap.size+1) (Nat.le_succ _) _).setCell (b:=w.heap.size+1) (Nat.le_succ _) _,by rw[heap_setCell_other _ _ _ _ (show w.heap.size≠w.heap.size+1 by omega),heap_setCell_other _ _ _ _ (show w.heap.size≠w.heap.size+1 by omega)];exact HB4r.out.heap HRr.out,two_set (HB4r.out.heap HKr.out)⟩
        ·have hj2:jl.isEmpty=false:=by
          cases jl with
          |nil=>exact absurd rfl hj0
          |cons=>rfl
         by_cases h1000:1000<jl.length
         ·have e3:decide ((1000:Int)<(jl.length:Int))=true:=decide_eq_true (by omega)
          have HN:=hid (show tparse s.data.toList=none by rw[HEq.out];exact parse_bad hb0 _ _)
          clear hns h320 h1000
          skip
          go_wp2_with (first|(go_at_call 68;refine(HJ.out _ ((Bel.refl wr).alloc _)).mono ?_;rintro e w3 ⟨rfl,hb3⟩;have HB3:=hid hb3;have HB3r:=hid (((Bel.refl wr).alloc _).trans hb3);clear hb3;obtain⟨x0,x1,x2⟩:=HXc.out _ HB3.out;obtain⟨y0,y1,y2,y3,y4⟩:=HFc.out _ HB3r.out)|(go_at_call 69;refine(HP.out _ HB3r.out).mono ?_;rintro e w4 ⟨rfl,hb4⟩;have HB4:=hid (HB3.out.trans hb4);have HB4r:=hid (HB3r.out.trans hb4);clear hb4;obtain⟨z0,z1,z2⟩:=HXc.out _ HB4.out;obtain⟨q0,q1,q2,q3,q4⟩:=HFc.out _ HB4r.out))
          go_step3
          simp+zetaDelta only[Exit.inBlock,Exit.then,Exit.jump]
          exact⟨trivial,61,at_,rfl,rfl,rfl,rfl,by decide,HN.out,((HBr.out.trans HB4r.out).setCell (b:=w.heap.size+1) (Nat.le_succ _) _).setCell (b:=w.heap.size+1) (Nat.le_succ _) _,by rw[heap_setCell_other _ _ _ _ (show w.heap.size≠w.heap.size+1 by omega),heap_setCell_other _ _ _ _ (show w.heap.size≠w.heap.size+1 by omega)];exact HB4r.out.heap HRr.out,two_set (HB4r.out.heap HKr.out)⟩
         ·have e3:decide ((1000:Int)<(jl.length:Int))=false:=decide_eq_false (by omega)
          have hnk:¬(320<key.length∨Lib.join pcs [32]=[]∨1000<(Lib.join pcs [32]).length):=by
           rw[←HJl.out]
           rintro(h|h|h)
           ·exact h320 h
           ·exact hj0 h
           ·exact h1000 h
          cases hf:foundB es key with
          |true=>
           have HN:=hid (show tparse s.data.toList=none by rw[HEq.out];exact parse_bad hb0 _ _)
           rw[hf]at HP
           clear hns h320 h1000 hnk hf
           skip
           go_wp2_with (first|(go_at_call 68;refine(HJ.out _ ((Bel.refl wr).alloc _)).mono ?_;rintro e w3 ⟨rfl,hb3⟩;have HB3:=hid hb3;have HB3r:=hid (((Bel.refl wr).alloc _).trans hb3);clear hb3;obtain⟨x0,x1,x2⟩:=HXc.out _ HB3.out;obtain⟨y0,y1,y2,y3,y4⟩:=HFc.out _ HB3r.out)|(go_at_call 69;refine(HP.out _ HB3r.out).mono ?_;rintro e w4 ⟨rfl,hb4⟩;have HB4:=hid (HB3.out.trans hb4);have HB4r:=hid (HB3r.out.trans hb4);clear hb4;obtain⟨z0,z1,z2⟩:=HXc.out _ HB4.out;obtain⟨q0,q1,q2,q3,q4⟩:=HFc.out _ HB4r.out))
           go_step3
           simp+zetaDelta only[Exit.inBlock,Exit.then,Exit.jump]
           exact⟨trivial,63,at_,rfl,rfl,rfl,rfl,by decide,HN.out,((HBr.out.trans HB4r.out).setCell (b:=w.heap.size+1) (Nat.le_succ _) _).setCell (b:=w.heap.size+1) (Nat.le_succ _) _,by rw[heap_setCell_other _ _ _ _ (show w.heap.size≠w.heap.size+1 by omega),heap_setCell_other _ _ _ _ (show w.heap.size≠w.heap.size+1 by omega)];exact HB4r.out.heap HRr.out,two_set (HB4r.out.heap HKr.out)⟩
          |false=>
           rw[hf]at HP
           by_cases h2k:es.length=2000
           ·have e4:((es.length:Int)==2000)=true:=by rw[beq_iff_eq];omega
            have HN:=hid (show tparse s.data.toList=none by rw[HEq.out];exact parse_bad hb0 _ _)
            clear hns h320 h1000 hnk hf h2k
            skip
            go_wp2_with (first|(go_at_call 68;refine(HJ.out _ ((Bel.refl wr).alloc _)).mono ?_;rintro e w3 ⟨rfl,hb3⟩;have HB3:=hid hb3;have HB3r:=hid (((Bel.refl wr).alloc _).trans hb3);clear hb3;obtain⟨x0,x1,x2⟩:=HXc.out _ HB3.out;obtain⟨y0,y1,y2,y3,y4⟩:=HFc.out _ HB3r.out)|(go_at_call 69;refine(HP.out _ HB3r.out).mono ?_;rintro e w4 ⟨rfl,hb4⟩;have HB4:=hid (HB3.out.trans hb4);have HB4r:=hid (HB3r.out.trans hb4);clear hb4;obtain⟨z0,z1,z2⟩:=HXc.out _ HB4.out;obtain⟨q0,q1,q2,q3,q4⟩:=HFc.out _ HB4r.out))
            go_step3
            simp+zetaDelta only[Exit.inBlock,Exit.then,Exit.jump]
            exact⟨trivial,62,at_,rfl,rfl,rfl,rfl,by decide,HN.out,((HBr.out.trans HB4r.out).setCell (b:=w.heap.size+1) (Nat.le_succ _) _).setCell (b:=w.heap.size+1) (Nat.le_succ _) _,by rw[heap_setCell_other _ _ _ _ (show w.heap.size≠w.heap.size+1 by omega),heap_setCell_other _ _ _ _ (show w.heap.size≠w.heap.size+1 by omega)];exact HB4r.out.heap HRr.out,two_set (HB4r.out.heap HKr.out)⟩
           ·have e4:((es.length:Int)==2000)=false:=by rw[beq_eq_false_iff_ne];omega
            have HN:=hid (show parseF bad (out.drop k) es=parseF bad (out.drop (k+1)) (putE es ⟨key,jl⟩) by
             rw[HEq2.out]
             conv=>lhs;unfold parseF
             rw[if_neg hns,if_neg hnk,hf,if_neg Bool.false_ne_true,if_neg h2k,HJl.out])
            have hrk:=rank_le es key
            have hnum:=HI.out.num
            have hpl:(putE es ⟨key,jl⟩).length=es.length+1:=ins_length es ⟨key,jl⟩ (rank es key) hrk
            have hvne:=own_ne HI.out.row HI.out.tab (by decide)
            have HIns:=(show Hid (∀u:World,Bel wr u→Calls Tryz.prog insF #[.slice xx es.length cc,.int .i64 (rank es key:Nat),.slice (some ⟨u.heap.size,0,none⟩) 1 1] (u.alloc (.cells #[.string ⟨key.toArray⟩,.string ⟨jl.toArray⟩] 122)).drew fun e w'=>∃x' c',e=.returned (.slice x' (es.length+1) c')∧w'.ownsRow w1.heap.size 122 2 (.slice x' (es.length+1) c') (putE es ⟨key,jl⟩).length (enCs (putE es ⟨key,jl⟩))∧(u.alloc (.cells #[.string ⟨key.toArray⟩,.string ⟨jl.toArray⟩] 122)).drew.grownBy w' (Value.slice xx es.length cc).ownBlock)from fun u hu=>by
             have hown:=own_bel (own_bel HI.out.row hu) (((Bel.refl u).alloc (.cells #[.string ⟨key.toArray⟩,.string ⟨jl.toArray⟩] 122)).drew)
             refine(insert_run w1.heap.size (.slice xx es.length cc) es ⟨key,jl⟩ (rank es key) u.heap.size _ hown (heap_alloc_new u _) (fun e=>by have:=own_lt (own_bel HI.out.row hu) e;omega) hrk (by show _≤(u.alloc _).heap.size;rw[World.size_alloc];have:=HI.out.size;have:=hu.size;omega) hnum).mono ?_
             rintro e w' ⟨v',rfl,h1,h2⟩
             obtain⟨x',c',rfl,-⟩:=row_shape h1
             exact⟨x',c',by rw[show(es.take (rank es key)++(⟨key,jl⟩:En)::es.drop (rank es key)).length=es.length+1 from hpl],by rw[←hpl];exact h1,h2⟩)
            have HTb:=(show Hid (∀(u w':World),Bel wr u→(u.alloc (.cells #[.string ⟨key.toArray⟩,.string ⟨jl.toArray⟩] 122)).drew.grownBy w' (Value.slice xx es.length cc).ownBlock→w'.heap[w.heap.size+1+1]?=some (.cells #[.slice xx es.length cc] 112 (0,0)))from fun u w' hu hg=>(hg.block _ (by show _<(u.alloc _).heap.size;rw[World.size_alloc];have:=(Array.getElem?_eq_some_iff.1 (hu.heap HI.out.tab)).1;omega) (fun e=>hvne e.symm)).trans (((Bel.refl u).alloc _).heap (hu.heap HI.out.tab)))
            have Hf:=hid hf
            have H2k:=hid h2k
            have HPl:=hid hpl
            generalize rank es key=rk at HP HIns
            clear hns h320 h1000 hnk hf h2k hvne hrk hnum hpl
            go_wp2_with (first|(go_at_call 68;refine(HJ.out _ ((Bel.refl wr).alloc _)).mono ?_;rintro e w3 ⟨rfl,hb3⟩;have HB3:=hid hb3;have HB3r:=hid (((Bel.refl wr).alloc _).trans hb3);clear hb3;obtain⟨x0,x1,x2⟩:=HXc.out _ HB3.out;obtain⟨y0,y1,y2,y3,y4⟩:=HFc.out _ HB3r.out)|(go_at_call 69;refine(HP.out _ HB3r.out).mono ?_;rintro e w4 ⟨rfl,hb4⟩;have HB4:=hid (HB3.out.trans hb4);have HB4r:=hid (HB3r.out.trans hb4);clear hb4;obtain⟨z0,z1,z2⟩:=HXc.out _ HB4.out;obtain⟨q0,q1,q2,q3,q4⟩:=HFc.out _ HB4r.out))
            obtain⟨-,-,-,-,v4⟩:=HFc.out (w4.alloc (.cells #[.string ⟨key.toArray⟩,.string ⟨jl.toArray⟩] 122)).drew ((HB4r.out.alloc _).drew)
            obtain⟨-,-,-,-,v5⟩:=HFc.out w4.drew HB4r.out.drew
            go_region_law (first|(go_simp;go_at_call 70;refine(HIns.out w4 HB4r.out).mono ?_;rintro e w5 ⟨x',c',rfl,hr5,hg5⟩;have HR5:=hid hr5;have HG5:=hid hg5;clear hr5 hg5;have t5:=HTb.out w4 w5 HB4r.out HG5.out;have tc:w5.cell? ⟨w.heap.size+1+1,0,none⟩=some (.slice xx es.length cc):=(by rw[Lib.cell_of_heap t5];rfl);have tf:w5.frozen? ⟨w.heap.size+1+1,0,none⟩=false:=Lib.frozen_of_heap t5 0;clear t5))
            all_goals
             go_wp2_with fail
             go_roundg (gk-1)
             case measure=>have:=Hk.out;omega
             case rel=>exact⟨k+1,putE es ⟨key,jl⟩,x',c',by go_num,by have:=Hk.out;omega,hid (by
              rw[HPl.out]
              exact PaI.put HI.out ((HB4r.out.alloc _).drew) HG5.out HR5.out Hf.out H2k.out HN.out)⟩
     ·obtain rfl:k=M.length:=by omega
      have hend:out.drop M.length=[]:=List.drop_eq_nil_of_le (by omega)
      have HN:=hid (show tparse s.data.toList=none by rw[HI.out.eq];exact parse_bad hb0 _ _)
      clear hend
      have r0:wr.cell? ⟨w.heap.size,0,none⟩=some (.int .i64 0):=by rw[Lib.cell_of_heap HRr.out];rfl
      have r1:wr.cell? ⟨w.heap.size,1,none⟩=some (.int .i64 0):=by rw[Lib.cell_of_heap HRr.out];rfl
      have s0:wr.frozen? ⟨w.heap.size,0,none⟩=false:=Lib.frozen_of_heap HRr.out 0
      have s1:wr.frozen? ⟨w.heap.size,1,none⟩=false:=Lib.frozen_of_heap HRr.out 1
      have hl2:=load_flt (w:=((wr.setCell ⟨w.heap.size,0,none⟩ (.int .i64 61)).setCell ⟨w.heap.size,1,none⟩ (.int .i64 bad)).drew) (two_set (a:=.int .i64 61) (c:=.int .i64 bad) HRr.out) rfl
      go_wp2_with fail
      go_step3
      go_wp2_with fail
      go_region
      go_wp2_with fail
      simp+zetaDelta only[Exit.jump]
      exact bodyPost_ret (v:=.tuple #[.pointer none,.agg #[.int .i64 61,.int .i64 bad]]) (by simp[results,Tryz.results27,asAddr,hl2]) rfl (parse_none HN.out (by decide) ((HBr.out.setCell (b:=w.heap.size) (Nat.le_refl _) _).setCell (b:=w.heap.size) (Nat.le_refl _) _).drew)
   ·have d0:decide (0≤bad)=false:=decide_eq_false hb0
    go_wp2_with fail
    obtain⟨w1,hw1⟩:∃w1,w1=wc.setCell ⟨w.heap.size+1,1,none⟩ (.int .i64 bad):=⟨_,rfl⟩
    rw[←hw1]
    have k1:w1.heap[w.heap.size+1]?=some (.cells #[.int .i64 0,.int .i64 bad] 62 (0,0)):=by
     rw[hw1]
     exact heap_setCell_same _ _ _ _ _ _ K0.out
    have ko:∀j,j≠w.heap.size+1→w1.heap[j]?=wc.heap[j]?:=fun j hj=>by
     rw[hw1]
     rw[heap_setCell_other _ _ _ _ hj]
    have hs1:w1.heap.size=wc.heap.size:=by rw[hw1];simp only[World.size_setCell]
    have ho1:w1.os=wc.os∧w1.tape=wc.tape∧w1.output=wc.output:=by rw[hw1];exact⟨rfl,rfl,rfl⟩
    have hWc:=HBc.out.size
    have hWs:=HWs.out
    have hBw:Bel w w1:=by
     refine⟨ho1.1.trans (HB.out.trans HBc.out).os,ho1.2.1.trans (HB.out.trans HBc.out).tape,ho1.2.2.trans (HB.out.trans HBc.out).output,?_,fun j hj=> ?_⟩
     ·rw[hs1];exact(HB.out.trans HBc.out).size
     ·rw[ko j (by omega)];exact(HB.out.trans HBc.out).block j hj
    have hbt:w.heap.size+1+1<w1.heap.size:=by omega
    have HI0:=hid (show PaI s.data.toList w1 w1 (w.heap.size+1+1) bad out 0 (.slice none 0 0) []from⟨rfl,rfl,rfl,Nat.le_refl _,fun _ _ _=>rfl,by rw[ko _ (by omega)];exact HBc.out.heap H3.out.2.2,World.ownsRow_nil _ _ _ _,trivial,Nat.zero_le _,by rw[List.drop_zero];exact H0.out⟩)
    have HM1:=hid (show LnM W w1 (.slice x M.length p) M from HM.out.keep fun g hg _=>ko g (by omega))
    have HR1:=hid (show w1.heap[w.heap.size]?=some (.cells #[.int .i64 0,.int .i64 0] 62 (0,0))from(ko _ (by omega)).trans (HBc.out.heap H3.out.1))
    have HK1:=hid k1
    have HBw:=hid hBw
    have HS:=hid (And.intro hs1 (And.intro hWc hWs))
    clear hBw k1 ko hs1 ho1 hWc hWs hw1 c0 c1 f0 f1 H0
    go_loopg [30] M.length (fun gg v30 wr=>∃(k:Nat) (es:List En) (xx:Option Addr) (cc:Nat),v30=.int .i64 k∧k+gg=M.length∧Hid (PaI s.data.toList w1 wr (w.heap.size+1+1) bad out k (.slice xx es.length cc) es))
    case atStart=>exact⟨0,[],none,0,rfl,by omega,HI0⟩
    case round=>
     clear HI0
     obtain⟨k,es,xx,cc,rfl,hk,HI⟩:=hrel
     have Hk:=hid hk
     have hkn:k≤M.length:=by omega
     clear hk
     have HBr:=hid (show Bel w wr from⟨HI.out.os.trans HBw.out.os,HI.out.tape.trans HBw.out.tape,HI.out.output.trans HBw.out.output,Nat.le_trans HBw.out.size HI.out.size,fun j hj=>(HI.out.keep j (Nat.lt_of_lt_of_le hj HBw.out.size) (by omega)).trans (HBw.out.block j hj)⟩)
     have HKr:=hid (show wr.heap[w.heap.size+1]?=some (.cells #[.int .i64 0,.int .i64 bad] 62 (0,0))from(HI.out.keep _ (by omega) (by omega)).trans HK1.out)
     have HRr:=hid (show wr.heap[w.heap.size]?=some (.cells #[.int .i64 0,.int .i64 0] 62 (0,0))from(HI.out.keep _ (by omega) (by omega)).trans HR1.out)
     have HFc:=(show Hid (∀W',Bel wr W'→W'.cell? ⟨w.heap.size+1,0,none⟩=some (.int .i64 0)∧W'.cell? ⟨w.heap.size+1,1,none⟩=some (.int .i64 bad)∧W'.frozen? ⟨w.heap.size+1,0,none⟩=false∧W'.frozen? ⟨w.heap.size+1,1,none⟩=false∧W'.cell? ⟨w.heap.size+1+1,0,none⟩=some (.slice xx es.length cc))from fun W' hW'=>⟨by rw[Lib.cell_of_heap (hW'.heap HKr.out)];rfl,by rw[Lib.cell_of_heap (hW'.heap HKr.out)];rfl,Lib.frozen_of_heap (hW'.heap HKr.out) 0,Lib.frozen_of_heap (hW'.heap HKr.out) 1,by rw[Lib.cell_of_heap (hW'.heap HI.out.tab)];rfl⟩)
     obtain⟨g0,g1,g2,g3,g4⟩:=HFc.out wr (Bel.refl wr)
     by_cases hlt:k<M.length
     ·have hkout:k<out.length:=by omega
      obtain⟨g,rfl,hgc⟩:=(HM1.out.keep fun g hg hg2=>HI.out.keep g hg2 (by have:=HS.out;omega):LnM W wr (.slice x M.length p) M).place hlt
      have hpc:=(HM1.out.keep fun g hg hg2=>HI.out.keep g hg2 (by have:=HS.out;omega):LnM W wr (.slice (some ⟨g,0,none⟩) M.length p) M).pcs M[k] (List.getElem_mem hlt)
      have hln:M[k].1=out[k]:=by
       have:(M.map (·.1))[k]?=out[k]?:=by rw[HE.out]
       rw[List.getElem?_map,List.getElem?_eq_getElem hlt,List.getElem?_eq_getElem hkout]at this
       exact Option.some.inj this
      have hvs:=HVS.out M[k].1 (by rw[hln];exact List.getElem_mem hkout)
      have hdr:out.drop k=M[k].1::out.drop (k+1):=by rw[hln];exact List.drop_eq_getElem_cons hkout
      have HEq:=hid (show tparse s.data.toList=parseF bad (M[k].1::out.drop (k+1)) es by rw[HI.out.eq,hdr])
      have HEq2:=hid hdr
      clear hln hdr hkout
      generalize M[k]=y at hgc hpc hvs HEq HEq2
      obtain⟨⟨at_,key,pcs⟩,pv⟩:=y
      obtain⟨px,pn,pc,rfl⟩:∃px pn pc,pv=.slice px pn pc:=by
       obtain⟨x,c,e,-⟩:=row_shape hpc
       exact⟨_,_,_,e⟩
      have l0:wr.cell? ⟨g,k*3,none⟩=some (.int .i64 at_):=hgc 0 _ rfl
      have l1:wr.cell? ⟨g,k*3+1,none⟩=some (.string ⟨key.toArray⟩):=hgc 1 _ rfl
      have l2:wr.cell? ⟨g,k*3+2,none⟩=some (.slice px pn pc):=hgc 2 _ rfl
      have HPc:=hid hpc
      simp only at hvs
      have HJ:=(show Hid (∀W',Bel wr W'→Calls Tryz.prog 68 #[.slice px pn pc,.string ⟨#[32]⟩] W' fun e w'=>e=.returned (.string ⟨(Lib.join pcs [32]).toArray⟩)∧Bel W' w')from fun W' hW'=>join_run (w0:=W) (own_bel HPc.out hW') hvs.1 hvs.2)
      have HP:=(show Hid (∀W',Bel wr W'→Calls Tryz.prog 69 #[.pointer (some ⟨w.heap.size+1+1,0,none⟩),.string ⟨key.toArray⟩] W' fun e w'=>e=.returned (.tuple #[.int .i64 (rank es key:Nat),.bool (foundB es key)])∧Bel W' w')from fun W' hW'=>place_run (w.heap.size+1+1) xx es cc ⟨key.toArray⟩ W' (hW'.heap HI.out.tab) (ens_of_row (own_bel HI.out.row hW')) HI.out.srt (by have:=HI.out.num;omega))
      have hb5:=heap_alloc_new wr (.cells #[.int .i64 at_,.string ⟨key.toArray⟩,.slice px pn pc] 116)
      have HXc:=(show Hid (∀W',Bel (wr.alloc (.cells #[.int .i64 at_,.string ⟨key.toArray⟩,.slice px pn pc] 116)) W'→W'.cell? ⟨wr.heap.size,0,none⟩=some (.int .i64 at_)∧W'.cell? ⟨wr.heap.size,1,none⟩=some (.string ⟨key.toArray⟩)∧W'.cell? ⟨wr.heap.size,2,none⟩=some (.slice px pn pc))from fun W' hW'=>⟨by rw[Lib.cell_of_heap (hW'.heap hb5)];rfl,by rw[Lib.cell_of_heap (hW'.heap hb5)];rfl,by rw[Lib.cell_of_heap (hW'.heap hb5)];rfl⟩)
      obtain⟨m0,m1,m2,m3,m4⟩:=HFc.out (wr.alloc (.cells #[.int .i64 at_,.string ⟨key.toArray⟩,.slice px pn pc] 116)) ((Bel.refl wr).alloc _)
      obtain⟨o0,o1,o2⟩:=HXc.out _ (Bel.refl (wr.alloc (.cells #[.int .i64 at_,.string ⟨key.toArray⟩,.slice px pn pc] 116)))
      clear hgc hpc hvs hb5
      obtain⟨jl,hjl⟩:∃jl,jl=Lib.join pcs [32]:=⟨_,rfl⟩
      have HJl:=hid hjl
      rw[←hjl]at HJ
      clear hjl
      have hns:¬(0≤bad∧bad≤(at_:Int)):=fun h=>by omega
      have HNS:=hid hns
      by_cases h320:320<key.length
      ·have e1:decide ((320:Int)<(key.length:Int))=true:=decide_eq_true (by omega)
       have HN:=hid (show tparse s.data.toList=none by rw[HEq.out];unfold parseF;rw[if_neg hns,if_pos (.inl h320)])
       clear hns h320
       skip
       go_wp2_with (first|(go_at_call 68;refine(HJ.out _ ((Bel.refl wr).alloc _)).mono ?_;rintro e w3 ⟨rfl,hb3⟩;have HB3:=hid hb3;have HB3r:=hid (((Bel.refl wr).alloc _).trans hb3);clear hb3;obtain⟨x0,x1,x2⟩:=HXc.out _ HB3.out;obtain⟨y0,y1,y2,y3,y4⟩:=HFc.out _ HB3r.out)|(go_at_call 69;refine(HP.out _ HB3r.out).mono ?_;rintro e w4 ⟨rfl,hb4⟩;have HB4:=hid (HB3.out.trans hb4);have HB4r:=hid (HB3r.out.trans hb4);clear hb4;obtain⟨z0,z1,z2⟩:=HXc.out _ HB4.out;obtain⟨q0,q1,q2,q3,q4⟩:=HFc.out _ HB4r.out))
       go_step3
       simp+zetaDelta only[Exit.inBlock,Exit.then,Exit.jump]
       exact⟨trivial,61,at_,rfl,rfl,rfl,rfl,by decide,HN.out,((HBr.out.trans HB4r.out).setCell (b:=w.heap.size+1) (Nat.le_succ _) _).setCell (b:=w.heap.size+1) (Nat.le_succ _) _,by rw[heap_setCell_other _ _ _ _ (show w.heap.size≠w.heap.size+1 by omega),heap_setCell_other _ _ _ _ (show w.heap.size≠w.heap.size+1 by omega)];exact HB4r.out.heap HRr.out,two_set (HB4r.out.heap HKr.out)⟩
      ·have e1:decide ((320:Int)<(key.length:Int))=false:=decide_eq_false (by omega)
       by_cases hj0:jl=[]
       ·have HN:=hid (show tparse s.data.toList=none by rw[HEq.out];unfold parseF;rw[if_neg hns,if_pos (.inr (.inl (HJl.out▸hj0)))])
        clear hns h320
        subst hj0
        skip
        go_wp2_with (first|(go_at_call 68;refine(HJ.out _ ((Bel.refl wr).alloc _)).mono ?_;rintro e w3 ⟨rfl,hb3⟩;have HB3:=hid hb3;have HB3r:=hid (((Bel.refl wr).alloc _).trans hb3);clear hb3;obtain⟨x0,x1,x2⟩:=HXc.out _ HB3.out;obtain⟨y0,y1,y2,y3,y4⟩:=HFc.out _ HB3r.out)|(go_at_call 69;refine(HP.out _ HB3r.out).mono ?_;rintro e w4 ⟨rfl,hb4⟩;have HB4:=hid (HB3.out.trans hb4);have HB4r:=hid (HB3r.out.trans hb4);clear hb4;obtain⟨z0,z1,z2⟩:=HXc.out _ HB4.out;obtain⟨q0,q1,q2,q3,q4⟩:=HFc.out _ HB4r.out))
        go_step3
        simp+zetaDelta only[Exit.inBlock,Exit.then,Exit.jump]
        exact⟨trivial,61,at_,rfl,rfl,rfl,rfl,by decide,HN.out,((HBr.out.trans HB4r.out).setCell (b:=w.heap.size+1) (Nat.le_succ _) _).setCell (b:=w.heap.size+1) (Nat.le_succ _) _,by rw[heap_setCell_other _ _ _ _ (show w.heap.size≠w.heap.size+1 by omega),heap_setCell_other _ _ _ _ (show w.heap.size≠w.heap.size+1 by omega)];exact HB4r.out.heap HRr.out,two_set (HB4r.out.heap HKr.out)⟩
       ·have hj2:jl.isEmpty=false:=by
         cases jl with
         |nil=>exact absurd rfl hj0
         |cons=>rfl
        by_cases h1000:1000<jl.length
        ·have e3:decide ((1000:Int)<(jl.length:Int))=true:=decide_eq_true (by omega)
         have HN:=hid (show tparse s.data.toList=none by rw[HEq.out];unfold parseF;rw[if_neg hns,if_pos (.inr (.inr (HJl.out▸h1000)))])
         clear hns h320 h1000
         skip
         go_wp2_with (first|(go_at_call 68;refine(HJ.out _ ((Bel.refl wr).alloc _)).mono ?_;rintro e w3 ⟨rfl,hb3⟩;have HB3:=hid hb3;have HB3r:=hid (((Bel.refl wr).alloc _).trans hb3);clear hb3;obtain⟨x0,x1,x2⟩:=HXc.out _ HB3.out;obtain⟨y0,y1,y2,y3,y4⟩:=HFc.out _ HB3r.out)|(go_at_call 69;refine(HP.out _ HB3r.out).mono ?_;rintro e w4 ⟨rfl,hb4⟩;have HB4:=hid (HB3.out.trans hb4);have HB4r:=hid (HB3r.out.trans hb4);clear hb4;obtain⟨z0,z1,z2⟩:=HXc.out _ HB4.out;obtain⟨q0,q1,q2,q3,q4⟩:=HFc.out _ HB4r.out))
         go_step3
         simp+zetaDelta only[Exit.inBlock,Exit.then,Exit.jump]
         exact⟨trivial,61,at_,rfl,rfl,rfl,rfl,by decide,HN.out,((HBr.out.trans HB4r.out).setCell (b:=w.heap.size+1) (Nat.le_succ _) _).setCell (b:=w.heap.size+1) (Nat.le_succ _) _,by rw[heap_setCell_other _ _ _ _ (show w.heap.size≠w.heap.size+1 by omega),heap_setCell_other _ _ _ _ (show w.heap.size≠w.heap.size+1 by omega)];exact HB4r.out.heap HRr.out,two_set (HB4r.out.heap HKr.out)⟩
        ·have e3:decide ((1000:Int)<(jl.length:Int))=false:=decide_eq_false (by omega)
         have hnk:¬(320<key.length∨Lib.join pcs [32]=[]∨1000<(Lib.join pcs [32]).length):=by
          rw[←HJl.out]
          rintro(h|h|h)
          ·exact h320 h
          ·exact hj0 h
          ·exact h1000 h
         cases hf:foundB es key with
         |true=>
          have HN:=hid (show tparse s.data.toList=none by rw[HEq.out];unfold parseF;rw[if_neg hns,if_neg hnk,hf,if_pos rfl])
          rw[hf]at HP
          clear hns h320 h1000 hnk hf
          skip
          go_wp2_with (first|(go_at_call 68;refine(HJ.out _ ((Bel.refl wr).alloc _)).mono ?_;rintro e w3 ⟨rfl,hb3⟩;have HB3:=hid hb3;have HB3r:=hid (((Bel.refl wr).alloc _).trans hb3);clear hb3;obtain⟨x0,x1,x2⟩:=HXc.out _ HB3.out;obtain⟨y0,y1,y2,y3,y4⟩:=HFc.out _ HB3r.out)|(go_at_call 69;refine(HP.out _ HB3r.out).mono ?_;rintro e w4 ⟨rfl,hb4⟩;have HB4:=hid (HB3.out.trans hb4);have HB4r:=hid (HB3r.out.trans hb4);clear hb4;obtain⟨z0,z1,z2⟩:=HXc.out _ HB4.out;obtain⟨q0,q1,q2,q3,q4⟩:=HFc.out _ HB4r.out))
          go_step3
          simp+zetaDelta only[Exit.inBlock,Exit.then,Exit.jump]
          exact⟨trivial,63,at_,rfl,rfl,rfl,rfl,by decide,HN.out,((HBr.out.trans HB4r.out).setCell (b:=w.heap.size+1) (Nat.le_succ _) _).setCell (b:=w.heap.size+1) (Nat.le_succ _) _,by rw[heap_setCell_other _ _ _ _ (show w.heap.size≠w.heap.size+1 by omega),heap_setCell_other _ _ _ _ (show w.heap.size≠w.heap.size+1 by omega)];exact HB4r.out.heap HRr.out,two_set (HB4r.out.heap HKr.out)⟩
         |false=>
          rw[hf]at HP
          by_cases h2k:es.length=2000
          ·have e4:((es.length:Int)==2000)=true:=by rw[beq_iff_eq];omega
           have HN:=hid (show tparse s.data.toList=none by rw[HEq.out];unfold parseF;rw[if_neg hns,if_neg hnk,hf,if_neg Bool.false_ne_true,if_pos h2k])
           clear hns h320 h1000 hnk hf h2k
           skip
           go_wp2_with (first|(go_at_call 68;refine(HJ.out _ ((Bel.refl wr).alloc _)).mono ?_;rintro e w3 ⟨rfl,hb3⟩;have HB3:=hid hb3;have HB3r:=hid (((Bel.refl wr).alloc _).trans hb3);clear hb3;obtain⟨x0,x1,x2⟩:=HXc.out _ HB3.out;obtain⟨y0,y1,y2,y3,y4⟩:=HFc.out _ HB3r.out)|(go_at_call 69;refine(HP.out _ HB3r.out).mono ?_;rintro e w4 ⟨rfl,hb4⟩;have HB4:=hid (HB3.out.trans hb4);have HB4r:=hid (HB3r.out.trans hb4);clear hb4;obtain⟨z0,z1,z2⟩:=HXc.out _ HB4.out;obtain⟨q0,q1,q2,q3,q4⟩:=HFc.out _ HB4r.out))
           go_step3
           simp+zetaDelta only[Exit.inBlock,Exit.then,Exit.jump]
           exact⟨trivial,62,at_,rfl,rfl,rfl,rfl,by decide,HN.out,((HBr.out.trans HB4r.out).setCell (b:=w.heap.size+1) (Nat.le_succ _) _).setCell (b:=w.heap.size+1) (Nat.le_succ _) _,by rw[heap_setCell_other _ _ _ _ (show w.heap.size≠w.heap.size+1 by omega),heap_setCell_other _ _ _ _ (show w.heap.size≠w.heap.size+1 by omega)];exact HB4r.out.heap HRr.out,two_set (HB4r.out.heap HKr.out)⟩
          ·have e4:((es.length:Int)==2000)=false:=by rw[beq_eq_false_iff_ne];omega
           have HN:=hid (show parseF bad (out.drop k) es=parseF bad (out.drop (k+1)) (putE es ⟨key,jl⟩) by
            rw[HEq2.out]
            conv=>lhs;unfold parseF
            rw[if_neg hns,if_neg hnk,hf,if_neg Bool.false_ne_true,if_neg h2k,HJl.out])
           have hrk:=rank_le es key
           have hnum:=HI.out.num
           have hpl:(putE es ⟨key,jl⟩).length=es.length+1:=ins_length es ⟨key,jl⟩ (rank es key) hrk
           have hvne:=own_ne HI.out.row HI.out.tab (by decide)
           have HIns:=(show Hid (∀u:World,Bel wr u→Calls Tryz.prog insF #[.slice xx es.length cc,.int .i64 (rank es key:Nat),.slice (some ⟨u.heap.size,0,none⟩) 1 1] (u.alloc (.cells #[.string ⟨key.toArray⟩,.string ⟨jl.toArray⟩] 122)).drew fun e w'=>∃x' c',e=.returned (.slice x' (es.length+1) c')∧w'.ownsRow w1.heap.size 122 2 (.slice x' (es.length+1) c') (putE es ⟨key,jl⟩).length (enCs (putE es ⟨key,jl⟩))∧(u.alloc (.cells #[.string ⟨key.toArray⟩,.string ⟨jl.toArray⟩] 122)).drew.grownBy w' (Value.slice xx es.length cc).ownBlock)from fun u hu=>by
            have hown:=own_bel (own_bel HI.out.row hu) (((Bel.refl u).alloc (.cells #[.string ⟨key.toArray⟩,.string ⟨jl.toArray⟩] 122)).drew)
            refine(insert_run w1.heap.size (.slice xx es.length cc) es ⟨key,jl⟩ (rank es key) u.heap.size _ hown (heap_alloc_new u _) (fun e=>by have:=own_lt (own_bel HI.out.row hu) e;omega) hrk (by show _≤(u.alloc _).heap.size;rw[World.size_alloc];have:=HI.out.size;have:=hu.size;omega) hnum).mono ?_
            rintro e w' ⟨v',rfl,h1,h2⟩
            obtain⟨x',c',rfl,-⟩:=row_shape h1
            exact⟨x',c',by rw[show(es.take (rank es key)++(⟨key,jl⟩:En)::es.drop (rank es key)).length=es.length+1 from hpl],by rw[←hpl];exact h1,h2⟩)
           have HTb:=(show Hid (∀(u w':World),Bel wr u→(u.alloc (.cells #[.string ⟨key.toArray⟩,.string ⟨jl.toArray⟩] 122)).drew.grownBy w' (Value.slice xx es.length cc).ownBlock→w'.heap[w.heap.size+1+1]?=some (.cells #[.slice xx es.length cc] 112 (0,0)))from fun u w' hu hg=>(hg.block _ (by show _<(u.alloc _).heap.size;rw[World.size_alloc];have:=(Array.getElem?_eq_some_iff.1 (hu.heap HI.out.tab)).1;omega) (fun e=>hvne e.symm)).trans (((Bel.refl u).alloc _).heap (hu.heap HI.out.tab)))
           have Hf:=hid hf
           have H2k:=hid h2k
           have HPl:=hid hpl
           generalize rank es key=rk at HP HIns
           clear hns h320 h1000 hnk hf h2k hvne hrk hnum hpl
           go_wp2_with (first|(go_at_call 68;refine(HJ.out _ ((Bel.refl wr).alloc _)).mono ?_;rintro e w3 ⟨rfl,hb3⟩;have HB3:=hid hb3;have HB3r:=hid (((Bel.refl wr).alloc _).trans hb3);clear hb3;obtain⟨x0,x1,x2⟩:=HXc.out _ HB3.out;obtain⟨y0,y1,y2,y3,y4⟩:=HFc.out _ HB3r.out)|(go_at_call 69;refine(HP.out _ HB3r.out).mono ?_;rintro e w4 ⟨rfl,hb4⟩;have HB4:=hid (HB3.out.trans hb4);have HB4r:=hid (HB3r.out.trans hb4);clear hb4;obtain⟨z0,z1,z2⟩:=HXc.out _ HB4.out;obtain⟨q0,q1,q2,q3,q4⟩:=HFc.out _ HB4r.out))
           obtain⟨-,-,-,-,v4⟩:=HFc.out (w4.alloc (.cells #[.string ⟨key.toArray⟩,.string ⟨jl.toArray⟩] 122)).drew ((HB4r.out.alloc _).drew)
           obtain⟨-,-,-,-,v5⟩:=HFc.out w4.drew HB4r.out.drew
           go_region_law (first|(go_simp;go_at_call 70;refine(HIns.out w4 HB4r.out).mono ?_;rintro e w5 ⟨x',c',rfl,hr5,hg5⟩;have HR5:=hid hr5;have HG5:=hid hg5;clear hr5 hg5;have t5:=HTb.out w4 w5 HB4r.out HG5.out;have tc:w5.cell? ⟨w.heap.size+1+1,0,none⟩=some (.slice xx es.length cc):=(by rw[Lib.cell_of_heap t5];rfl);have tf:w5.frozen? ⟨w.heap.size+1+1,0,none⟩=false:=Lib.frozen_of_heap t5 0;clear t5))
           all_goals
            go_wp2_with fail
            go_roundg (gk-1)
            case measure=>have:=Hk.out;omega
            case rel=>exact⟨k+1,putE es ⟨key,jl⟩,x',c',by go_num,by have:=Hk.out;omega,hid (by
             rw[HPl.out]
             exact PaI.put HI.out ((HB4r.out.alloc _).drew) HG5.out HR5.out Hf.out H2k.out HN.out)⟩
     ·obtain rfl:k=M.length:=by omega
      have hend:out.drop M.length=[]:=List.drop_eq_nil_of_le (by omega)
      have HN:=hid (show tparse s.data.toList=some es by rw[HI.out.eq,hend];unfold parseF;rw[if_pos (by omega)])
      clear hend
      have r0:wr.cell? ⟨w.heap.size,0,none⟩=some (.int .i64 0):=by rw[Lib.cell_of_heap HRr.out];rfl
      have r1:wr.cell? ⟨w.heap.size,1,none⟩=some (.int .i64 0):=by rw[Lib.cell_of_heap HRr.out];rfl
      have s0:wr.frozen? ⟨w.heap.size,0,none⟩=false:=Lib.frozen_of_heap HRr.out 0
      have s1:wr.frozen? ⟨w.heap.size,1,none⟩=false:=Lib.frozen_of_heap HRr.out 1
      have hl2:=load_flt (two_set (a:=.int .i64 0) (c:=.int .i64 0) HRr.out) rfl
      go_wp2_with fail
      simp+zetaDelta only[Exit.jump]
      refine bodyPost_ret (v:=.tuple #[.pointer (some ⟨w.heap.size+1+1,0,none⟩),.agg #[.int .i64 0,.int .i64 0]]) (by simp[results,Tryz.results27,asAddr,hl2]) rfl (parse_some HN.out ((HBr.out.setCell (b:=w.heap.size) (Nat.le_refl _) _).setCell (b:=w.heap.size) (Nat.le_refl _) _) ?_)
      have hne:∀j,j≠w.heap.size→((wr.setCell ⟨w.heap.size,0,none⟩ (.int .i64 0)).setCell ⟨w.heap.size,1,none⟩ (.int .i64 0)).heap[j]?=wr.heap[j]?:=fun j hj=>by rw[heap_setCell_other _ _ _ _ hj,heap_setCell_other _ _ _ _ hj]
      have hro:=own_keep (W':=(wr.setCell ⟨w.heap.size,0,none⟩ (.int .i64 0)).setCell ⟨w.heap.size,1,none⟩ (.int .i64 0)) HI.out.row fun g hg=>hne g (by have:=(own_lt HI.out.row hg).1;omega)
      exact⟨⟨_,xx,cc,rfl,(hne _ (by omega)).trans HI.out.tab,ens_of_row hro⟩,HI.out.srt,HI.out.num⟩
 ·rintro a0 w0 ⟨code,at_,h1,h2,h3,h4,h5⟩
  obtain⟨A,ds⟩:=a0
  dsimp only at h1 h2 h3 h4
  subst h1
  obtain⟨u,hu⟩:∃u:Nat→Value,u=fun i=>A.getD i undef:=⟨_,rfl⟩
  have hA:A=#[u 0,u 1,u 2,u 3,u 4,u 5,u 6,u 7,u 8,u 9,u 10,u 11,u 12,u 13,u 14,u 15,u 16,u 17,u 18,u 19,u 20,u 21,u 22,u 23,u 24,u 25,u 26,u 27,u 28,u 29,u 30,u 31,u 32,u 33,u 34,u 35,u 36,u 37,u 38,u 39,u 40,u 41,u 42,u 43,u 44,u 45,u 46,u 47,u 48,u 49,u 50,u 51,u 52,u 53,u 54,u 55,u 56,u 57,u 58,u 59,u 60,u 61,u 62,u 63,u 64,u 65,u 66,u 67,u 68,u 69,u 70,u 71,u 72,u 73,u 74,u 75,u 76,u 77,u 78,u 79,u 80,u 81,u 82,u 83,u 84,u 85,u 86,u 87,u 88,u 89,u 90,u 91,u 92,u 93,u 94,u 95,u 96,u 97,u 98,u 99,u 100,u 101,u 102,u 103,u 104,u 105,u 106]:=by
   rw[hu]
   exact(Ma.arr_lit A 107 h2).trans rfl
  rw[show A.getD 3 undef=u 3 by rw[hu]]at h3
  rw[show A.getD 4 undef=u 4 by rw[hu]]at h4
  rw[h3,h4]at hA
  clear hu h2
  subst hA
  clear h3 h4
  have HX:=hid h5
  clear h5
  generalize u 0=u0
  generalize u 1=u1
  generalize u 2=u2
  generalize u 5=u5
  generalize u 6=u6
  generalize u 7=u7
  generalize u 8=u8
  generalize u 9=u9
  generalize u 10=u10
  generalize u 11=u11
  generalize u 12=u12
  generalize u 13=u13
  generalize u 14=u14
  generalize u 15=u15
  generalize u 16=u16
  generalize u 17=u17
  generalize u 18=u18
  generalize u 19=u19
  generalize u 20=u20
  generalize u 21=u21
  generalize u 22=u22
  generalize u 23=u23
  generalize u 24=u24
  generalize u 25=u25
  generalize u 26=u26
  generalize u 27=u27
  generalize u 28=u28
  generalize u 29=u29
  generalize u 30=u30
  generalize u 31=u31
  generalize u 32=u32
  generalize u 33=u33
  generalize u 34=u34
  generalize u 35=u35
  generalize u 36=u36
  generalize u 37=u37
  generalize u 38=u38
  generalize u 39=u39
  generalize u 40=u40
  generalize u 41=u41
  generalize u 42=u42
  generalize u 43=u43
  generalize u 44=u44
  generalize u 45=u45
  generalize u 46=u46
  generalize u 47=u47
  generalize u 48=u48
  generalize u 49=u49
  generalize u 50=u50
  generalize u 51=u51
  generalize u 52=u52
  generalize u 53=u53
  generalize u 54=u54
  generalize u 55=u55
  generalize u 56=u56
  generalize u 57=u57
  generalize u 58=u58
  generalize u 59=u59
  generalize u 60=u60
  generalize u 61=u61
  generalize u 62=u62
  generalize u 63=u63
  generalize u 64=u64
  generalize u 65=u65
  generalize u 66=u66
  generalize u 67=u67
  generalize u 68=u68
  generalize u 69=u69
  generalize u 70=u70
  generalize u 71=u71
  generalize u 72=u72
  generalize u 73=u73
  generalize u 74=u74
  generalize u 75=u75
  generalize u 76=u76
  generalize u 77=u77
  generalize u 78=u78
  generalize u 79=u79
  generalize u 80=u80
  generalize u 81=u81
  generalize u 82=u82
  generalize u 83=u83
  generalize u 84=u84
  generalize u 85=u85
  generalize u 86=u86
  generalize u 87=u87
  generalize u 88=u88
  generalize u 89=u89
  generalize u 90=u90
  generalize u 91=u91
  generalize u 92=u92
  generalize u 93=u93
  generalize u 94=u94
  generalize u 95=u95
  generalize u 96=u96
  generalize u 97=u97
  generalize u 98=u98
  generalize u 99=u99
  generalize u 100=u100
  generalize u 101=u101
  generalize u 102=u102
  generalize u 103=u103
  generalize u 104=u104
  generalize u 105=u105
  generalize u 106=u106
  have q0:w0.cell? ⟨w.heap.size+1,0,none⟩=some (.int .i64 code):=by rw[Lib.cell_of_heap HX.out.flt];rfl
  have q1:w0.cell? ⟨w.heap.size+1,1,none⟩=some (.int .i64 at_):=by rw[Lib.cell_of_heap HX.out.flt];rfl
  have r0:w0.cell? ⟨w.heap.size,0,none⟩=some (.int .i64 0):=by rw[Lib.cell_of_heap HX.out.res];rfl
  have r1:w0.cell? ⟨w.heap.size,1,none⟩=some (.int .i64 0):=by rw[Lib.cell_of_heap HX.out.res];rfl
  have s0:w0.frozen? ⟨w.heap.size,0,none⟩=false:=Lib.frozen_of_heap HX.out.res 0
  have s1:w0.frozen? ⟨w.heap.size,1,none⟩=false:=Lib.frozen_of_heap HX.out.res 1
  have hl2:=load_flt (w:=((w0.setCell ⟨w.heap.size,0,none⟩ (.int .i64 code)).setCell ⟨w.heap.size,1,none⟩ (.int .i64 at_)).drew) (two_set (a:=.int .i64 code) (c:=.int .i64 at_) HX.out.res) rfl
  go_wp2_with fail
  go_region
  go_wp2_with fail
  simp+zetaDelta only[Exit.jump]
  exact bodyPost_ret (v:=.tuple #[.pointer none,.agg #[.int .i64 code,.int .i64 at_]]) (by simp[results,Tryz.results27,asAddr,hl2]) rfl (parse_none HX.out.none HX.out.ne ((HX.out.bel.setCell (b:=w.heap.size) (Nat.le_refl _) _).setCell (b:=w.heap.size) (Nat.le_refl _) _).drew)
end Go.Proofs.YtmlmkmhkmifnkaaGreatDoor.Tb