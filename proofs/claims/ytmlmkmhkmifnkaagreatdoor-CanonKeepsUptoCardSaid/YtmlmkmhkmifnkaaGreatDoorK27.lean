import Derived.Test.YtmlmkmhkmifnkaaGreatDoorK26
import Derived.Lib.CountLaws
import Derived.Deep.OwnRows
set_option maxHeartbeats 16000000
set_option maxRecDepth 1000000
namespace Go.Proofs.YtmlmkmhkmifnkaaGreatDoor.Hs
open Go.RowKit
open Ci (hid Bel own_bel own_base row_shape addr_add Lay)
def repK:Nat→List UInt8→List UInt8
 |0,l=>l
 |k+1,l=>l.take (lineN l)++10::repK k (l.drop (lineN l+2))
def crN(l:List UInt8):Nat:=Lib.count l [13,10]
theorem crN_zero{l:List UInt8}(h:¬lineN l<l.length):crN l=0:=Lib.count_miss (by rw[index_line,if_neg h])
theorem crN_succ{l:List UInt8}(h:lineN l<l.length):crN l=crN (l.drop (lineN l+2))+1:=by
 unfold crN
 rw[Lib.count_hit (i:=lineN l) (by simp) (by rw[index_line,if_pos h])]
 exact Nat.add_comm 1 _
theorem crN_pos{l:List UInt8}{k:Nat}(h:crN l=k+1):lineN l<l.length∧crN (l.drop (lineN l+2))=k:=by
 by_cases hl:lineN l<l.length
 ·exact⟨hl,by have:=crN_succ hl;omega⟩
 ·rw[crN_zero hl]at h;cases h
theorem line_two{l:List UInt8}(h:lineN l<l.length):lineN l+2≤l.length:=by
 obtain⟨r,hr⟩:=line_split l h
 have:=congrArg List.length hr
 simp only[List.length_append,List.length_take,List.length_cons]at this
 omega
theorem repK_len:∀(k:Nat) (l:List UInt8),crN l=k→(repK k l).length+k=l.length
 |0,l,_=>rfl
 |k+1,l,h=>by
  obtain⟨h1,h2⟩:=crN_pos h
  have ih:=repK_len k _ h2
  have h3:=line_two h1
  rw[List.length_drop]at ih
  show(l.take (lineN l)++10::repK k (l.drop (lineN l+2))).length+(k+1)=_
  rw[List.length_append,List.length_cons,List.length_take]
  omega
theorem splice_take{L:List Value}{w:Nat}{P cs:List Value}(hP:L.take w=P)(hw:w+cs.length≤L.length):(splice L w cs).take (w+cs.length)=P++cs:=by
 unfold splice
 rw[hP]
 have hl:P.length=w:=by rw[←hP,List.length_take];omega
 rw[←List.append_assoc,List.take_left' (by rw[List.length_append,hl])]
theorem count_run(b o c b2 o2 d:Nat)(l s:List UInt8)(w:World)(hw:Lay w)(h1:Bs w (some ⟨b,o,none⟩) l)(h2:Bs w (some ⟨b2,o2,none⟩) s)(hc:l.length≤c)(hs:l.length<4294967281)(hs2:s.length≤9223372036854775807)(h0:1≤s.length):
 Calls Tryz.prog 118 #[.slice (some ⟨b,o,none⟩) l.length c,.slice (some ⟨b2,o2,none⟩) s.length d] w fun e w'=>e=.returned (.int .i64 (Lib.count l s))∧Bel w w':=by
 obtain⟨m,hm⟩:=hw.most
 have hcell:∀{b o:Nat} {l:List UInt8},Bs w (some ⟨b,o,none⟩) l→∀i,i<(l.map fun x=>(x.toNat:Int)).length→w.cell? ((⟨b,o,none⟩:Addr).add i)=some (.int .u8 ((l.map fun x=>(x.toNat:Int)).getD i 0)):=fun {b o l} h i hi=>by
  rw[List.length_map]at hi
  obtain⟨b',o',e,hc⟩:=h (by omega)
  cases e
  rw[addr_add]
  exact Bs.nums hc i hi
 have:=Tryz.bytes_Count_any ⟨b,o,none⟩ ⟨b2,o2,none⟩ l.length c s.length d (l.map fun x=>(x.toNat:Int)) (s.map fun x=>(x.toNat:Int)) m w (by simp) (by simp) (nums_byte l) (nums_byte s) (fun i hi=>hcell h1 i (by simpa using hi)) (fun i hi=>hcell h2 i (by simpa using hi)) hc hs hs2 h0 hm
 rw[bytes_nums,bytes_nums]at this
 refine this.mono ?_
 rintro e w' ⟨rfl,n,rfl⟩
 exact⟨rfl,(Bel.refl w).drewN n⟩
theorem index_run(b o c b2 o2 d:Nat)(l s:List UInt8)(w:World)(hw:Lay w)(h1:Bs w (some ⟨b,o,none⟩) l)(h2:Bs w (some ⟨b2,o2,none⟩) s)(hc:l.length≤c)(hs:l.length<4294967281)(hs2:s.length≤9223372036854775807):
 Calls Tryz.prog 189 #[.slice (some ⟨b,o,none⟩) l.length c,.slice (some ⟨b2,o2,none⟩) s.length d] w fun e w'=>e=.returned (.int .i64 (Lib.index l s))∧Bel w w':=by
 obtain⟨m,hm⟩:=hw.most
 have hcell:∀{b o:Nat} {l:List UInt8},Bs w (some ⟨b,o,none⟩) l→∀i,i<(l.map fun x=>(x.toNat:Int)).length→w.cell? ((⟨b,o,none⟩:Addr).add i)=some (.int .u8 ((l.map fun x=>(x.toNat:Int)).getD i 0)):=fun {b o l} h i hi=>by
  rw[List.length_map]at hi
  obtain⟨b',o',e,hc⟩:=h (by omega)
  cases e
  rw[addr_add]
  exact Bs.nums hc i hi
 have:=Tryz.bytes_Index_at ⟨b,o,none⟩ ⟨b2,o2,none⟩ l.length c s.length d (l.map fun x=>(x.toNat:Int)) (s.map fun x=>(x.toNat:Int)) m w (by simp) (by simp) (nums_byte l) (nums_byte s) (fun i hi=>hcell h1 i (by simpa using hi)) (fun i hi=>hcell h2 i (by simpa using hi)) hc hs hs2 hm
 rw[bytes_nums,bytes_nums]at this
 refine this.mono ?_
 rintro e w' ⟨rfl,n,rfl⟩
 exact⟨rfl,(Bel.refl w).drewN n⟩
theorem replace_run(b o c:Nat)(l:List UInt8)(b1 o1 d1 b2 o2 d2:Nat)(w:World)(hw:Lay w)(hl:Br w (some ⟨b,o,none⟩) c l)(hs:l.length<4294967281)(h1:Bs w (some ⟨b1,o1,none⟩) [13,10])(h2:Bs w (some ⟨b2,o2,none⟩) [10]):
 Calls Tryz.prog 190 #[.slice (some ⟨b,o,none⟩) l.length c,.slice (some ⟨b1,o1,none⟩) 2 d1,.slice (some ⟨b2,o2,none⟩) 1 d2,.int .i64 (-1)] w fun e w'=>∃q d,e=.returned (.slice q (repK (crN l) l).length d)∧Bel w w'∧Br w' q d (repK (crN l) l):=by
 have HW:=hid hw
 have HL:=hid hl
 have H1:=hid h1
 have H2:=hid h2
 obtain⟨m,hm⟩:∃m,m=crN l:=⟨_,rfl⟩
 have HC:=hid (count_run b o c b1 o1 d1 l [13,10] w hw hl.bs h1 hl.le hs (by decide) (by decide))
 have HM:=hid hm
 have HC2:=(show Hid (Calls Tryz.prog 118 #[.slice (some ⟨b,o,none⟩) l.length c,.slice (some ⟨b1,o1,none⟩) 2 d1] w fun e w'=>e=.returned (.int .i64 (m:Int))∧Bel w w')from hid (by rw[hm];exact HC.out))
 have hlc:=hl.le
 have hc63:=hl.lt
 rw[←hm]
 have hml:=repK_len m l hm.symm
 obtain⟨Lt,hLt⟩:∃Lt,Lt=(repK m l).length:=⟨_,rfl⟩
 rw[←hLt]at hml⊢
 have HLt:=hid hLt
 clear hw hl h1 h2 HC hm hLt
 by_cases hm0:m=0
 ·subst hm0
  have HR:=hid (show repK 0 l=l from rfl)
  have hLl:Lt=l.length:=by omega
  go_enter Tryz.func190,Tryz.ntmps190
  go_wp2_with (first|(go_at_call 118;with_reducible refine HC2.out.mono ?_;rintro _ w2 ⟨rfl,hb2⟩;have HB2:=hid hb2;clear hb2)|(at_builtin;refine wpList_append_bs (a0:=w) (W:=w2) rfl _ (.tmp 24) rfl (.slice none 0 0) [] l (some ⟨b,o,none⟩) c rfl (World.ownsRow_nil _ _ _ _) HB2.out rfl (HL.out.next HB2.out) (by simp only[List.length_nil];omega) ?_;intro v9 w9 ho9 hb9 hg9;rw[List.nil_append]at ho9;obtain⟨q,d,hv,-,-⟩:=row_shape ho9;subst hv))
  go_ret
  rw[HR.out]
  exact⟨q,d,by rw[hLl];rfl,hb9,ho9.read.2⟩
 ·have hmk:=fun(W:World)=>run_make_row' (P:=Tryz.prog) 48 5 (.int .u8 0) 1 Tryz.underlying48 u8_infos rfl .i64 .i64 Lt (by omega) (by omega) W
  have k1:(l.length:Int)+ -(m:Int)=(Lt:Int):=by omega
  have k3:IntKind.i64.wrap (Lt:Int)=(Lt:Int):=IntWalk.i64_in _ (by omega)
  have k4:((m:Int)==0)=false:=by rw[beq_eq_false_iff_ne];omega
  go_enter Tryz.func190,Tryz.ntmps190
  go_wp2_with (first|(go_at_call 118;with_reducible refine HC2.out.mono ?_;rintro _ w2 ⟨rfl,hb2⟩;have HB2:=hid hb2;clear hb2))
  obtain⟨cur0,hcur0⟩:∃cur0:List Value,cur0=(madeCells #[Value.int .u8 0] Lt).toList:=⟨_,rfl⟩
  have hc0l:cur0.length=Lt:=by rw[hcur0,toList_madeCells_one,List.length_replicate]
  have HC0:=hid (show(w2.alloc (.cells (madeCells #[Value.int .u8 0] Lt) 5)).heap[w2.heap.size]?=some (.cells cur0.toArray 5 (0,0)) by rw[hcur0,Array.toArray_toList];exact heap_alloc_new w2 _)
  have HC0l:=hid hc0l
  have HBA:=hid ((Bel.refl w2).alloc (.cells (madeCells #[Value.int .u8 0] Lt) 5))
  clear hcur0 hc0l
  go_loopg [11,12,49] m (fun gg v11 v12 v49 wr=>∃(i ww st:Nat),v49=.int .i64 i∧v11=.int .i64 ww∧v12=.int .i64 st∧i+gg=m∧st≤l.length∧Hid (Bel w2 wr∧∃(cur:List Value) (P:List UInt8),wr.heap[w2.heap.size]?=some (.cells cur.toArray 5 (0,0))∧cur.length=Lt∧cur.take ww=bV P∧P.length=ww∧crN (l.drop st)=gg∧P++repK gg (l.drop st)=repK m l))
  case atStart=>exact⟨0,0,0,rfl,rfl,rfl,by omega,Nat.zero_le _,hid ⟨HBA.out,cur0,[],HC0.out,HC0l.out,rfl,rfl,by rw[List.drop_zero];exact HM.out.symm,by rw[List.drop_zero];rfl⟩⟩
  case round=>
   obtain⟨i,ww,st,rfl,rfl,rfl,hk,hst,H⟩:=hrel
   have him:i≤m:=by omega
   obtain⟨hb,cur,P,hcur,hcl,hct,hpl,hcr,hrep⟩:=H.out
   clear H
   by_cases hlt:i<m
   ·have b0:decide ((i:Int)<(m:Int))=true:=decide_eq_true (by omega)
    obtain⟨g',hg'⟩:∃g',gk=g'+1:=⟨gk-1,by omega⟩
    rw[hg']at hcr hrep
    obtain⟨hn1,hcr2⟩:=crN_pos hcr
    have hn2:=line_two hn1
    obtain⟨n1,hn⟩:∃n1,n1=lineN (l.drop st):=⟨_,rfl⟩
    rw[←hn]at hn1 hn2 hcr2
    rw[List.length_drop]at hn1 hn2
    have hrl:=repK_len (g'+1) _ hcr
    rw[List.length_drop]at hrl
    have hrepl:(P++repK (g'+1) (l.drop st)).length=Lt:=by rw[hrep];exact HLt.out.symm
    rw[List.length_append,hpl]at hrepl
    have hrs:repK (g'+1) (l.drop st)=(l.drop st).take n1++10::repK g' (l.drop (st+(n1+2))):=by
     show(l.drop st).take (lineN (l.drop st))++10::repK g' ((l.drop st).drop (lineN (l.drop st)+2))=_
     rw[←hn,List.drop_drop]
    rw[List.drop_drop]at hcr2
    rw[hrs]at hrep
    have hll:=congrArg List.length hrs
    rw[List.length_append,List.length_cons,List.length_take,List.length_drop,Nat.min_eq_left (by omega)]at hll
    have HIx:=(show Hid (Calls Tryz.prog 189 #[.slice (some ⟨b,o+st,none⟩) (l.length-st) (c-st),.slice (some ⟨b1,o1,none⟩) 2 d1] wr fun e w'=>e=.returned (.int .i64 (n1:Int))∧Bel wr w')from hid (by
     have hbs:Bs wr (some ⟨b,o+st,none⟩) (l.drop st):=by
      obtain⟨b',o',e,hc'⟩:=(HL.out.bs.next (HB2.out.trans hb)) (by omega)
      cases e
      intro h0
      refine⟨b,o+st,rfl,fun i hi=> ?_⟩
      rw[List.length_drop]at hi
      rw[Nat.add_assoc,hc' (st+i) (by omega)];simp
     have:=index_run b (o+st) (c-st) b1 o1 d1 (l.drop st) [13,10] wr (HW.out.next (HB2.out.trans hb)) hbs (H1.out.next (HB2.out.trans hb)) (by rw[List.length_drop];omega) (by rw[List.length_drop];omega) (by decide)
     rw[index_line,←hn,List.length_drop,if_pos hn1]at this
     exact this))
    obtain⟨j,hj⟩:∃j,j=st+n1:=⟨_,rfl⟩
    obtain⟨x1,hx1⟩:∃x1,x1=ww+n1:=⟨_,rfl⟩
    obtain⟨x2,hx2⟩:∃x2,x2=x1+1:=⟨_,rfl⟩
    obtain⟨st2,hst2⟩:∃st2,st2=j+2:=⟨_,rfl⟩
    have hx2L:x2≤Lt:=by omega
    obtain⟨X1,hX1⟩:∃X1,X1=bV ((l.drop st).take n1):=⟨_,rfl⟩
    obtain⟨X2,hX2⟩:∃X2,X2=bV [10]:=⟨_,rfl⟩
    have hX1l:X1.length=n1:=by rw[hX1,bV_len,List.length_take,List.length_drop];omega
    have hX2l:X2.length=1:=by rw[hX2];rfl
    have HSrc:=hid (show∀W,Bel w2 W→∀i v,X1[i]?=some v→W.cell? ((⟨b,o+st,none⟩:Addr).add i)=some v from fun W hW i v hv=>by
     rw[hX1]at hv
     have hi:=(List.getElem?_eq_some_iff.1 hv).1
     rw[bV_len,List.length_take,List.length_drop]at hi
     obtain⟨b',o',e,hc'⟩:=(HL.out.bs.next (HB2.out.trans hW)) (by omega)
     cases e
     exact bs_cells (bs_sub hc' st n1) i v hv)
    have HSrc2:=hid (show∀W,Bel w2 W→∀i v,X2[i]?=some v→W.cell? ((⟨b2,o2,none⟩:Addr).add i)=some v from fun W hW i v hv=>by
     rw[hX2]at hv
     exact bs_cells (H2.out.next (HB2.out.trans hW)) i v hv)
    have HOne:=hid (show(∀v∈X1,v.oneCell'=true)∧∀v∈X2,v.oneCell'=true from⟨by rw[hX1];exact bV_one _,by rw[hX2];exact bV_one _⟩)
    have HT1:=hid (splice_take (cs:=X1) hct (by rw[hX1l,hcl];omega))
    have HL1:=hid (length_splice cur ww X1 (by rw[hX1l,hcl];omega))
    rw[hX1l,←hx1]at HT1
    have HT2:=hid (splice_take (cs:=X2) HT1.out (by rw[hX2l,HL1.out,hcl];omega))
    have HL2:=hid (length_splice (splice cur ww X1) x1 X2 (by rw[hX2l,HL1.out,hcl];omega))
    rw[hX2l,←hx2]at HT2
    have HFin:=hid (show bV P++X1++X2=bV (P++(l.drop st).take n1++[10])∧(P++(l.drop st).take n1++[10]).length=x2∧crN (l.drop st2)=g'∧(P++(l.drop st).take n1++[10])++repK g' (l.drop st2)=repK m l from(by
     have e:st+(n1+2)=st2:=by omega
     rw[e]at hcr2 hrep
     refine⟨by rw[bV_app,bV_app,hX1,hX2],?_,hcr2,?_⟩
     ·rw[List.length_append,List.length_append,List.length_take,List.length_drop,hpl];simp;omega
     ·rw[←hrep];simp))
    have HCurL:=hid hcl
    have HCur:=hid hcur
    have HB:=hid hb
    have HK:=hid hk
    have HGk:=hid (show gk-1=g' by omega)
    have s1:(st:Int)+(n1:Int)=(j:Int):=by omega
    have s2:(ww:Int)+(n1:Int)=(x1:Int):=by omega
    have s3:(x1:Int)+1=(x2:Int):=by omega
    have s4:(j:Int)+2=(st2:Int):=by omega
    have s5:IntKind.i64.wrap (j:Int)=(j:Int):=IntWalk.i64_in _ (by omega)
    have s6:IntKind.i64.wrap (x1:Int)=(x1:Int):=IntWalk.i64_in _ (by omega)
    have s7:IntKind.i64.wrap (x2:Int)=(x2:Int):=IntWalk.i64_in _ (by omega)
    have s8:IntKind.i64.wrap (st2:Int)=(st2:Int):=IntWalk.i64_in _ (by omega)
    have s9:¬c=st:=by omega
    have s10:¬Lt=ww:=by omega
    have s11:¬Lt=x1:=by omega
    have s12:(ww:Int)≤(Lt:Int):=by omega
    have s13:(x1:Int)≤(Lt:Int):=by omega
    have s14:(st:Int)≤(j:Int):=by omega
    have s15:(j:Int)≤(c:Int):=by omega
    have s16:(st:Int)≤(l.length:Int):=by omega
    have hmin1:Nat.min (j-st) (Lt-ww)=n1:=by simp only[Nat.min_def];split<;>omega
    have hmin2:Nat.min 1 (Lt-x1)=1:=by simp only[Nat.min_def];split<;>omega
    have HMin:=hid (And.intro hmin1 hmin2)
    have HX1l:=hid hX1l
    have HX2l:=hid hX2l
    have HNum:=hid (show ww+n1≤Lt∧x1+1≤Lt from⟨by omega,by omega⟩)
    have hst2L:st2≤l.length:=by omega
    clear hb hcur hcl hct hpl hcr hrep hrl hrepl hrs hll hcr2 hX1 hX2 hmin1 hmin2 hn hj hx1 hx2 hst2 hk hg'
    go_upto_region 15 with(first|(go_at_call 189;with_reducible refine HIx.out.mono ?_;rintro _ w3 ⟨rfl,hb3⟩;have HB3:=hid hb3;have HC3:=hid (hb3.heap HCur.out);clear hb3))
    have hcp1:=run_copy_row (P:=Tryz.prog) w3.drew 48 48 3 5 w2.heap.size ww (Lt-ww) (Lt-ww) ⟨b,o+st,none⟩ (j-st) (c-st) cur.toArray 5 X1 Tryz.underlying48 (by kernel_rfl) HC3.out (by rw[HX1l.out,HMin.out.1]) (HSrc.out _ (HB.out.trans HB3.out).drew) (by rw[List.size_toArray,HX1l.out,HCurL.out];exact HNum.out.1) HOne.out.1
    have HC4:=hid (setRow_heap w3.drew w2.heap.size _ (cur.toArray.toList.take ww++X1++cur.toArray.toList.drop (ww+X1.length)).toArray _ _ HC3.out)
    have HB4:=hid (below_setRow (HB.out.trans HB3.out).drew (Nat.le_refl _) (cur.toArray.toList.take ww++X1++cur.toArray.toList.drop (ww+X1.length)).toArray)
    obtain⟨w4,hw4⟩:∃w4,w4=w3.drew.setRow w2.heap.size (cur.toArray.toList.take ww++X1++cur.toArray.toList.drop (ww+X1.length)).toArray:=⟨_,rfl⟩
    rw[←hw4]at hcp1 HC4 HB4
    rw[HX1l.out]at hcp1
    have hcp1:(Builtin.copy_ #[48,48] 3 #[.slice (some ⟨w2.heap.size,ww,none⟩) (Lt-ww) (Lt-ww),.slice (some ⟨b,o+st,none⟩) (j-st) (c-st)]).run Tryz.prog w3.drew=.ok (.int .i64 n1) w4:=hcp1
    have HC5:Hid (w4.heap[w2.heap.size]?=some (.cells (splice cur ww X1).toArray 5 (0,0))):=hid (by
     rw[HC4.out];unfold splice;simp)
    clear hw4
    go_region_law (fail)
    have hcp2:=run_copy_row (P:=Tryz.prog) w4 48 48 3 5 w2.heap.size x1 (Lt-x1) (Lt-x1) ⟨b2,o2,none⟩ 1 d2 (splice cur ww X1).toArray 5 X2 Tryz.underlying48 (by kernel_rfl) HC5.out (by rw[HX2l.out,HMin.out.2]) (HSrc2.out _ HB4.out) (by rw[List.size_toArray,HX2l.out,HL1.out,HCurL.out];exact HNum.out.2) HOne.out.2
    have HC6:=hid (setRow_heap w4 w2.heap.size _ ((splice cur ww X1).toArray.toList.take x1++X2++(splice cur ww X1).toArray.toList.drop (x1+X2.length)).toArray _ _ HC5.out)
    have HB6:=hid (below_setRow HB4.out (Nat.le_refl _) ((splice cur ww X1).toArray.toList.take x1++X2++(splice cur ww X1).toArray.toList.drop (x1+X2.length)).toArray)
    obtain⟨w6,hw6⟩:∃w6,w6=w4.setRow w2.heap.size ((splice cur ww X1).toArray.toList.take x1++X2++(splice cur ww X1).toArray.toList.drop (x1+X2.length)).toArray:=⟨_,rfl⟩
    rw[←hw6]at hcp2 HC6 HB6
    rw[HX2l.out]at hcp2
    have hcp2:(Builtin.copy_ #[48,48] 3 #[.slice (some ⟨w2.heap.size,x1,none⟩) (Lt-x1) (Lt-x1),.slice (some ⟨b2,o2,none⟩) 1 d2]).run Tryz.prog w4=.ok (.int .i64 1) w6:=hcp2
    have HC7:Hid (w6.heap[w2.heap.size]?=some (.cells (splice (splice cur ww X1) x1 X2).toArray 5 (0,0))):=hid (by
     rw[HC6.out]
     show _=some (Obj.cells (List.take x1 (splice cur ww X1)++(X2++List.drop (x1+X2.length) (splice cur ww X1))).toArray 5 (0,0))
     simp)
    clear hw6 hcp1
    go_wp2_with (first|(at_builtin;refine wpList_copy_eq rfl (.tmp 71) (.tmp 72) _ rfl _ _ _ rfl rfl hcp2 ?_))
    go_roundg (gk-1)
    case measure=>have:=HK.out;omega
    case rel=>exact⟨i+1,x2,st2,by first|rfl|go_num,by first|rfl|go_num,by first|rfl|go_num,by have:=HK.out;omega,hst2L,hid ⟨HB6.out,_,_,HC7.out,by rw[HL2.out,HL1.out];exact HCurL.out,by rw[HT2.out];exact HFin.out.1,HFin.out.2.1,by have h3:=HFin.out.2.2.1;rw[HGk.out];exact h3,by have h3:=HFin.out.2.2.2;rw[HGk.out];exact h3⟩⟩
   ·have hgk:gk=0:=by omega
    subst hgk
    have b0:decide ((i:Int)<(m:Int))=false:=decide_eq_false (by omega)
    have hrep:P++l.drop st=repK m l:=hrep
    have hrl:=congrArg List.length hrep
    rw[List.length_append,List.length_drop,hpl,←HLt.out]at hrl
    have HFin:=(show Hid (∀(W:World) (cu:List Value),Bel w2 W→W.heap[w2.heap.size]?=some (.cells cu.toArray 5 (0,0))→cu.length=Lt→cu=bV (repK m l)→∃q d,Value.slice (some ⟨w2.heap.size,0,none⟩) Lt Lt=.slice q Lt d∧Bel w W∧Br W q d (repK m l))from hid fun W cu hW hc hl2 he=>by
     refine⟨_,_,rfl,HB2.out.trans hW,⟨fun _=>⟨_,0,rfl,fun i hi=> ?_⟩,by rw[←HLt.out];exact Nat.le_refl _,by omega,fun e=>by cases e⟩⟩
     rw[Nat.zero_add,←bV_at _ i hi,←he,Lib.cell_of_heap hc]
     simp)
    have k5:(0:Int)≤(Lt:Int):=by omega
    by_cases hz:st=l.length
    ·have hw0:ww=Lt:=by omega
     have hP:P=repK m l:=by rw[←hrep,hz,List.drop_length,List.append_nil]
     subst hw0
     subst hz
     have HC4:=hid (show wr.drew.heap[w2.heap.size]?=some (.cells cur.toArray 5 (0,0))from hcur)
     have HE:=hid (show cur=bV (repK m l) by rw[←hP,←hct,List.take_of_length_le (by omega)])
     have HB4:=hid hb.drew
     have HCl:=hid hcl
     have hcp0:=fun(W:World) (dp sp:Option Addr) (dCap sCap:Nat)=>run_copy_none (P:=Tryz.prog) W 48 48 3 5 dp sp 0 dCap 0 sCap Tryz.underlying48 (by kernel_rfl) rfl
     have hcp0:∀(W:World) (dp sp:Option Addr) (dCap sCap:Nat),(Builtin.copy_ #[48,48] 3 #[.slice dp 0 dCap,.slice sp 0 sCap]).run Tryz.prog W=.ok (.int .i64 0) W:=hcp0
     clear hcur hct hcl hpl hcr hrep hrl hP hb
     go_upto_region 28 with fail
     go_region_law (fail)
     all_goals
      go_wp2_with fail
      all_goals
       go_ret
       obtain⟨q,d,e,h1,h2⟩:=HFin.out _ cur HB4.out HC4.out HCl.out HE.out
       exact⟨q,d,congrArg Ending.returned e,h1,h2⟩
    ·have hww:ww<Lt:=by omega
     obtain⟨X1,hX1⟩:∃X1,X1=bV (l.drop st):=⟨_,rfl⟩
     have hX1l:X1.length=l.length-st:=by rw[hX1,bV_len,List.length_drop]
     have hbs:Bs wr.drew (some ⟨b,o+st,none⟩) (l.drop st):=by
      obtain⟨b',o',e,hc'⟩:=(HL.out.bs.next (HB2.out.trans hb.drew)) (by omega)
      cases e
      have:=bs_sub hc' st (l.length-st)
      rwa[List.take_of_length_le (by rw[List.length_drop];omega)]at this
     have hm1:Nat.min (l.length-st) (Lt-ww)=l.length-st:=by simp only[Nat.min_def];split<;>omega
     have hcur:wr.drew.heap[w2.heap.size]?=some (.cells cur.toArray 5 (0,0)):=hcur
     have hcp1:=run_copy_row (P:=Tryz.prog) wr.drew 48 48 3 5 w2.heap.size ww (Lt-ww) (Lt-ww) ⟨b,o+st,none⟩ (l.length-st) (c-st) cur.toArray 5 X1 Tryz.underlying48 (by kernel_rfl) hcur (by rw[hX1l,hm1]) (by rw[hX1];exact bs_cells hbs) (by rw[List.size_toArray,hX1l,hcl];omega) (by rw[hX1];exact bV_one _)
     have hC4:=setRow_heap wr.drew w2.heap.size _ (cur.toArray.toList.take ww++X1++cur.toArray.toList.drop (ww+X1.length)).toArray _ _ hcur
     have hB4:=below_setRow hb.drew (Nat.le_refl _) (cur.toArray.toList.take ww++X1++cur.toArray.toList.drop (ww+X1.length)).toArray
     obtain⟨w4,hw4⟩:∃w4,w4=wr.drew.setRow w2.heap.size (cur.toArray.toList.take ww++X1++cur.toArray.toList.drop (ww+X1.length)).toArray:=⟨_,rfl⟩
     rw[←hw4]at hcp1 hC4 hB4
     obtain⟨n3,hn3⟩:∃n3,n3=l.length-st:=⟨_,rfl⟩
     rw[hX1l,←hn3]at hcp1
     have hcp1:(Builtin.copy_ #[48,48] 3 #[.slice (some ⟨w2.heap.size,ww,none⟩) (Lt-ww) (Lt-ww),.slice (some ⟨b,o+st,none⟩) (l.length-st) (c-st)]).run Tryz.prog wr.drew=.ok (.int .i64 n3) w4:=by rw[←hn3];exact hcp1
     have HC4:=hid (show w4.heap[w2.heap.size]?=some (.cells (bV (repK m l)).toArray 5 (0,0)) by
      rw[hC4,←hrep,bV_app,←hX1]
      congr 2
      show(List.take ww cur++X1++List.drop (ww+X1.length) cur).toArray=_
      rw[hct,List.drop_eq_nil_of_le (by omega),List.append_nil])
     have HB4:=hid hB4
     have HBL:=hid (show(bV (repK m l)).length=Lt by rw[bV_len];exact HLt.out.symm)
     have q1:¬Lt=ww:=by omega
     have q2:¬c=st:=by omega
     have q3:(ww:Int)≤(Lt:Int):=by omega
     have q4:(st:Int)≤(l.length:Int):=by omega
     have q5:(ww:Int)+(n3:Int)=(Lt:Int):=by omega
     clear hw4 hC4 hB4 hm1 hbs hX1 hX1l hcur hct hcl hpl hcr hrep hrl hb hn3
     go_upto_region 28 with fail
     go_region_law (fail)
     all_goals
      go_wp2_with fail
      go_ret
      obtain⟨q,d,e,h1,h2⟩:=HFin.out _ _ HB4.out HC4.out HBL.out rfl
      exact⟨q,d,congrArg Ending.returned e,h1,h2⟩
end Go.Proofs.YtmlmkmhkmifnkaaGreatDoor.Hs
namespace Go.Proofs.YtmlmkmhkmifnkaaGreatDoor.Hs
open Go.RowKit
open Ci (hid Bel)
theorem take_next{l:List UInt8}{i:Nat}(hi:i<l.length):cr_ z0 (l.take (i+1))=cs (cr_ z0 (l.take i)) l[i]:=by
 rw[List.take_succ_eq_append_getElem hi,cr_app];rfl
theorem sent_pre{l:List UInt8}(h:Sent l)(j:Nat):cr_ z0 (l.take j)≠none:=fun e=>by
 unfold Sent at h
 rw[←List.take_append_drop j l,cr_app,e,cr_none]at h
 cases h
theorem cs_z0{z:Option (Bool×Nat)}{c:UInt8}{n:Nat}(h:cs z c=some (false,n))(hn:n=0):c=10:=by
 subst hn
 cases z with
 |none=>cases h
 |some x=>
  obtain⟨k,m⟩:=x
  simp only[cs]at h
  split at h
  ·cases h
  ·split at h
   ·split at h
    ·rename_i hh;exact hh.1
    ·cases h
   ·split at h
    ·cases h
    ·have:=congrArg (Option.map Prod.snd) h
     simp at this
theorem cs_ten{z:Option (Bool×Nat)}{k:Bool}{n:Nat}(h:cs z 10=some (k,n)):n=0∧k=false:=by
 cases z with
 |none=>cases h
 |some x=>
  obtain⟨k',m⟩:=x
  simp only[cs]at h
  split at h
  ·cases h
  ·split at h
   ·split at h
    ·cases h;exact⟨rfl,rfl⟩
    ·cases h
   ·cases h
theorem sent_last{l:List UInt8}(h:Sent l):l=[]∨l.getLast?=some 10:=by
 rcases List.eq_nil_or_concat l with e|⟨x,c,e⟩
 ·exact .inl e
 ·right
  rw[List.concat_eq_append]at e
  subst e
  unfold Sent at h
  rw[cr_app]at h
  have:cs (cr_ z0 x) c=some (false,0):=h
  rw[cs_z0 this rfl];simp
theorem sent_cr{l:List UInt8}(h:Sent l){i m:Nat}(_hi:i<l.length)(e:cr_ z0 (l.take (i+1))=some (true,m)):l[i+1]?=some 10:=by
 rcases Nat.lt_or_ge (i+1) l.length with h1|h1
 ·have:=sent_pre h (i+1+1)
  rw[take_next h1,e]at this
  rw[List.getElem?_eq_getElem h1]
  congr 1
  apply Decidable.byContradiction
  intro hc
  apply this
  simp only[cs]
  split
  ·rfl
  ·rw[if_pos trivial,if_neg (fun hh=>hc hh.1)]
 ·rw[List.take_of_length_le h1]at e
  unfold Sent at h
  rw[h]at e;cases e
structure CI (l:List UInt8) (i n:Nat) (bare long:Bool):Prop where
 bad:(bare||long)=true→¬Sent l
 good:(bare||long)=false→(l=[]∨l.getLast?=some 10)∧∃k,cr_ z0 (l.take i)=some (k,n)∧k=decide (0<i∧l[i-1]?=some 13)∧(k=true→l[i]?=some 10)
theorem CI.zero(l:List UInt8):CI l 0 0 (decide (¬(l=[]∨l.getLast?=some 10))) false where
 bad:=fun h hs=>by
  rw[Bool.or_false]at h
  exact of_decide_eq_true h (sent_last hs)
 good:=fun h=>by
  rw[Bool.or_false]at h
  exact⟨Decidable.not_not.mp (of_decide_eq_false h),false,rfl,rfl,fun h=>by cases h⟩
theorem CI.step0{l:List UInt8}{i n:Nat}{b g:Bool}(h:CI l i n b g)(hi:i<l.length)(hc:l[i]=0):¬Sent l:=by
 cases hb:(b||g)with
 |true=>exact h.bad hb
 |false=>
  obtain⟨-,k,e,-⟩:=h.good hb
  intro hs
  apply sent_pre hs (i+1)
  rw[take_next hi,e,hc];rfl
theorem CI.no13{l:List UInt8}{i:Nat}{k:Bool}(hi:i<l.length)(hk:k=true→l[i]?=some 10)(hc:l[i]≠10):k=false:=by
 cases k with
 |false=>rfl
 |true=>
  have:=hk rfl
  rw[List.getElem?_eq_getElem hi]at this
  exact absurd (Option.some.inj this) hc
theorem CI.step13{l:List UInt8}{i n:Nat}{b g:Bool}(h:CI l i n b g)(hi:i<l.length)(hc:l[i]=13):CI l (i+1) (n+1) (b||decide (¬l[i+1]?=some 10)) g:=by
 have key:(b||g)=false→(l=[]∨l.getLast?=some 10)∧cr_ z0 (l.take (i+1))=some (true,n+1):=fun hb=>by
  obtain⟨h1,k,e,-,hk⟩:=h.good hb
  have:=CI.no13 hi hk (by rw[hc];decide)
  subst this
  refine⟨h1,?_⟩
  rw[take_next hi,e,hc];rfl
 constructor
 ·intro hb hs
  cases hbg:(b||g)with
  |true=>exact h.bad hbg hs
  |false=>
   have:=sent_cr hs hi (key hbg).2
   rw[this]at hb
   rw[Bool.or_eq_false_iff]at hbg
   rw[hbg.1,hbg.2]at hb
   simp at hb
 ·intro hb
  rw[Bool.or_eq_false_iff,Bool.or_eq_false_iff]at hb
  obtain⟨h1,h2⟩:=key (by rw[hb.1.1,hb.2];rfl)
  have h10:=Decidable.not_not.mp (of_decide_eq_false hb.1.2)
  refine⟨h1,true,h2,?_,fun _=>h10⟩
  rw[eq_comm,decide_eq_true_iff]
  exact⟨Nat.succ_pos _,by rw[Nat.add_sub_cancel,List.getElem?_eq_getElem hi,hc]⟩
theorem CI.step10{l:List UInt8}{i n:Nat}{b g:Bool}(h:CI l i n b g)(hi:i<l.length)(hc:l[i]=10):CI l (i+1) 0 (b||decide (¬(0<i∧l[i-1]?=some 13))) (g||decide (999<n)):=by
 constructor
 ·intro hb hs
  cases hbg:(b||g)with
  |true=>exact h.bad hbg hs
  |false=>
   obtain⟨h1,k,e,hk,-⟩:=h.good hbg
   have hp:=sent_pre hs (i+1)
   rw[take_next hi,e,hc]at hp
   rw[Bool.or_eq_false_iff]at hbg
   rw[hbg.1,hbg.2,Bool.false_or,Bool.false_or]at hb
   cases k with
   |false=>exact hp rfl
   |true=>
    rw[eq_comm,decide_eq_true_iff]at hk
    rw[decide_eq_false (fun hh=>hh hk),Bool.false_or]at hb
    have hb:=of_decide_eq_true hb
    apply hp
    simp only[cs]
    rw[if_neg (by decide),if_pos trivial,if_neg (fun hh=>by omega)]
 ·intro hb
  rw[Bool.or_eq_false_iff,Bool.or_eq_false_iff,Bool.or_eq_false_iff]at hb
  obtain⟨h1,k,e,hk,-⟩:=h.good (by rw[hb.1.1,hb.2.1];rfl)
  have hp:=Decidable.not_not.mp (of_decide_eq_false hb.1.2)
  have hn:=of_decide_eq_false hb.2.2
  rw[decide_eq_true hp]at hk
  subst hk
  refine⟨h1,false,?_,?_,fun h=>by cases h⟩
  ·rw[take_next hi,e,hc]
   simp only[cs]
   rw[if_neg (by decide),if_pos trivial,if_pos ⟨trivial,by omega⟩]
  ·rw[eq_comm,decide_eq_false_iff_not]
   intro hh
   have:=hh.2
   rw[Nat.add_sub_cancel,List.getElem?_eq_getElem hi,hc]at this
   exact absurd (Option.some.inj this) (by decide)
theorem CI.stepo{l:List UInt8}{i n:Nat}{b g:Bool}(h:CI l i n b g)(hi:i<l.length)(h0:l[i]≠0)(h13:l[i]≠13)(h10:l[i]≠10):CI l (i+1) (n+1) b g:=by
 refine⟨h.bad,fun hb=> ?_⟩
 obtain⟨h1,k,e,hk,hk2⟩:=h.good hb
 have:=CI.no13 hi hk2 h10
 subst this
 refine⟨h1,false,?_,?_,fun h=>by cases h⟩
 ·rw[take_next hi,e]
  simp only[cs]
  rw[if_neg h0,if_neg (by decide),if_neg h10]
  have:(l[i]==13)=false:=by simpa using h13
  rw[this]
 ·rw[eq_comm,decide_eq_false_iff_not]
  intro hh
  have:=hh.2
  rw[Nat.add_sub_cancel,List.getElem?_eq_getElem hi]at this
  exact h13 (Option.some.inj this)
theorem CI.done{l:List UInt8}{n:Nat}{b g:Bool}(h:CI l l.length n b g)(hb:(b||g)=false):Sent l:=by
 obtain⟨h1,k,e,-,hk2⟩:=h.good hb
 have:k=false:=by
  cases k with
  |false=>rfl
  |true=>
   have:=hk2 rfl
   rw[List.getElem?_eq_none (Nat.le_refl _)]at this;cases this
 subst this
 rw[List.take_length]at e
 unfold Sent
 rcases h1 with h1|h1
 ·subst h1;rfl
 ·rcases List.eq_nil_or_concat l with e2|⟨x,c,e2⟩
  ·rw[e2]at h1;cases h1
  ·rw[List.concat_eq_append]at e2
   subst e2
   simp at h1
   subst h1
   have e3:=e
   rw[cr_app]at e3
   have:=cs_ten (show cs (cr_ z0 x) 10=some (false,n)from e3)
   rw[e,this.1];rfl
theorem rcontent_run(p:Option Addr)(l:List UInt8)(c:Nat)(w:World)(hb:Bs w p l)(hs:l.length<4611686018427387904):
 Calls Tryz.prog 25 #[.slice p l.length c] w fun e w'=>(∃E:Int,e=.returned (.int .i64 E)∧(E=0↔Sent l))∧w'=w:=by
 have HB:=hid hb
 clear hb
 have HZ:=hid (CI.zero l)
 have HU:=hid (show∀x y:UInt8,(x.toNat:Int)=(y.toNat:Int)→x=y from fun x y h=>UInt8.toNat_inj.1 (by omega))
 go_enter Tryz.func25,Tryz.ntmps25
 go_upto_region 3 with fail
 obtain⟨b0,hb0⟩:∃b0,b0=decide (¬(l=[]∨l.getLast?=some 10)):=⟨_,rfl⟩
 have HB0:=hid hb0
 rw[←hb0]at HZ
 clear hb0
 go_cut [5]from 7 to 75 (fun v5 wx=>v5=.bool b0∧wx=w)
 case first=>
  by_cases hl:l=[]
  ·have hv:=hid (show b0=false by rw[HB0.out];simp[hl])
   have h0:¬0<l.length:=by rw[hl];decide
   clear hl
   go_wp2_with fail
   go_meet
   case rel=>exact⟨by rw[hv.out],rfl⟩
  ·have hpos:0<l.length:=List.length_pos_iff.mpr hl
   obtain⟨b,o,rfl,hc⟩:=HB.out hpos
   have h1:=hc (l.length-1) (by omega)
   obtain⟨x,hx⟩:∃x,x=l[l.length-1]'(by omega):=⟨_,rfl⟩
   rw[←hx]at h1
   have hgl:l.getLast?=some x:=by rw[hx,List.getLast?_eq_getElem?,List.getElem?_eq_getElem (by omega)]
   have hv:=hid (show b0=((x.toNat:Int) !=10) by
    rw[HB0.out,hgl]
    by_cases e:x=10
    ·subst e;simp[hl]
    ·have e2:((x.toNat:Int) !=10)=true:=by rw[bne_iff_ne];exact fun h=>e (HU.out x 10 h)
     rw[e2,decide_eq_true]
     intro h
     rcases h with h|h
     ·exact hl h
     ·exact e (Option.some.inj h))
   have i1:(0:Int)≤(l.length:Int)-1:=by omega
   have i2:(l.length:Int)-1<(l.length:Int):=by omega
   have i3:((l.length:Int)-1).toNat=l.length-1:=by omega
   clear hgl hx hc hl
   go_wp2_with fail
   go_meet
   case rel=>exact⟨by rw[hv.out],rfl⟩
 case rest=>
  obtain⟨rfl,hw⟩:=hcut
  have hw:=hw.symm
  subst hw
  go_wp2_with fail
  go_loopg [3,4,5,6] l.length (fun gg v3 v4 v5 v6 wr=>∃(n i:Nat) (g b:Bool),v3=.int .i64 n∧v4=.bool g∧v5=.bool b∧v6=.int .i64 i∧i+gg=l.length∧n≤i∧Hid (wr=w∧CI l i n b g))
  case atStart=>exact⟨0,0,false,b0,rfl,rfl,rfl,rfl,by omega,Nat.le_refl _,hid ⟨rfl,HZ.out⟩⟩
  case round=>
   obtain⟨n,i,g,b,rfl,rfl,rfl,rfl,hk,hni,H⟩:=hrel
   have HK:=hid hk
   have hin:i≤l.length:=by omega
   clear hk
   have ew:=H.out.1
   have HCI:=hid H.out.2
   clear H
   subst ew
   by_cases hlt:i<l.length
   ·have b1:decide ((i:Int)<(l.length:Int))=true:=decide_eq_true (by omega)
    obtain⟨b_,o,rfl,hc⟩:=HB.out (by omega)
    have h0:=hc i hlt
    have HC:=hid hc
    obtain⟨x,hx⟩:∃x,x=l[i]'hlt:=⟨_,rfl⟩
    rw[←hx]at h0
    have HXX:=hid hx
    clear hx hc
    by_cases x0:x=0
    ·have d0:((x.toNat:Int)==0)=true:=by rw[x0];rfl
     have HN:=hid (HCI.out.step0 hlt (by rw[←HXX.out,x0]))
     clear x0
     go_wp2_with fail
     go_ret
     exact⟨⟨_,rfl,⟨fun h=>absurd h (by decide),fun h=>absurd h HN.out⟩⟩,rfl⟩
    ·have d0:((x.toNat:Int)==0)=false:=by rw[beq_eq_false_iff_ne];exact fun e=>x0 (HU.out x 0 e)
     by_cases x13:x=13
     ·have d1:((x.toNat:Int)==13)=true:=by rw[x13];rfl
      have HS:=hid (HCI.out.step13 hlt (by rw[←HXX.out,x13]))
      clear x0 x13
      cases b with
      |true=>
       have HN:=hid (show CI l (i+1) (n+1) true g from HS.out)
       go_wp2_with fail
       go_roundg (gk-1)
       case measure=>have:=HK.out;omega
       case rel=>exact⟨n+1,i+1,g,true,by go_num,rfl,rfl,by go_num,by have:=HK.out;omega,by omega,hid ⟨rfl,HN.out⟩⟩
      |false=>
       by_cases hi1:i+1=l.length
       ·have d2:(((i:Int)+1)==(l.length:Int))=true:=by rw[beq_iff_eq];omega
        have HN:=hid (show CI l (i+1) (n+1) true g from(by
         have:=HS.out
         rw[List.getElem?_eq_none (by omega)]at this
         simpa using this))
        clear hi1
        go_wp2_with fail
        go_roundg (gk-1)
        case measure=>have:=HK.out;omega
        case rel=>exact⟨n+1,i+1,g,true,by go_num,rfl,rfl,by go_num,by have:=HK.out;omega,by omega,hid ⟨rfl,HN.out⟩⟩
       ·have d2:(((i:Int)+1)==(l.length:Int))=false:=by rw[beq_eq_false_iff_ne];omega
        have hi2:i+1<l.length:=by omega
        have h2:=HC.out (i+1) hi2
        obtain⟨y,hy⟩:∃y,y=l[i+1]'hi2:=⟨_,rfl⟩
        rw[←hy]at h2
        have hyb:((y.toNat:Int) !=10)=decide (¬l[i+1]?=some 10):=by
         rw[List.getElem?_eq_getElem hi2,←hy]
         by_cases e:y=10
         ·subst e;simp
         ·have e2:((y.toNat:Int) !=10)=true:=by rw[bne_iff_ne];exact fun h=>e (HU.out y 10 h)
          rw[e2,decide_eq_true (show¬some y=some 10 from fun h=>e (Option.some.inj h))]
        have HN:=hid (show CI l (i+1) (n+1) ((y.toNat:Int) !=10) g from(by rw[hyb];exact HS.out))
        clear hi1 hy hyb
        have i3:(i:Int)+1<(l.length:Int):=by omega
        go_wp2_with fail
        go_roundg (gk-1)
        case measure=>have:=HK.out;omega
        case rel=>exact⟨n+1,i+1,g,_,by go_num,rfl,rfl,by go_num,by have:=HK.out;omega,by omega,hid ⟨rfl,HN.out⟩⟩
     ·have d1:((x.toNat:Int)==13)=false:=by rw[beq_eq_false_iff_ne];exact fun e=>x13 (HU.out x 13 e)
      by_cases x10:x=10
      ·have d2:((x.toNat:Int)==10)=true:=by rw[x10];rfl
       have HS:=hid (HCI.out.step10 hlt (by rw[←HXX.out,x10]))
       clear x0 x13 x10
       have dn:∀m:Nat,m=n→(decide ((m:Int)-1>998))=decide (999<n):=fun m e=>by subst e;congr 1;rw[eq_iff_iff];omega
       have HD:=hid (dn n rfl)
       clear dn
       cases b with
       |true=>
        cases g with
        |true=>
         have HN:=hid (show CI l (i+1) 0 true true from HS.out)
         go_wp2_with fail
         go_roundg (gk-1)
         case measure=>have:=HK.out;omega
         case rel=>exact⟨0,i+1,true,true,rfl,rfl,rfl,by go_num,by have:=HK.out;omega,by omega,hid ⟨rfl,HN.out⟩⟩
        |false=>
         have HN:=hid (show CI l (i+1) 0 true (decide (999<n))from HS.out)
         rw[←HD.out]at HN
         go_wp2_with fail
         go_roundg (gk-1)
         case measure=>have:=HK.out;omega
         case rel=>exact⟨0,i+1,_,true,rfl,rfl,rfl,by go_num,by have:=HK.out;omega,by omega,hid ⟨rfl,HN.out⟩⟩
       |false=>
        by_cases hi0:i=0
        ·have HS2:=hid (show CI l (i+1) 0 true (g||decide (999<n))from(by
          have:=HS.out
          rw[decide_eq_true (show¬(0<i∧l[i-1]?=some 13)from fun hh=>absurd hh.1 (by omega))]at this
          exact this))
         subst hi0
         have h0:wr.cell? ⟨b_,o,none⟩=some (.int .u8 (x.toNat:Int)):=h0
         clear b1
         cases g with
         |true=>
          have HN:=hid (show CI l (0+1) 0 true true from HS2.out)
          go_wp2_with fail
          go_roundg (gk-1)
          case measure=>have:=HK.out;omega
          case rel=>exact⟨0,0+1,true,true,rfl,rfl,rfl,by first|go_num|rfl,by have:=HK.out;omega,by omega,hid ⟨rfl,HN.out⟩⟩
         |false=>
          have HN:=hid (show CI l (0+1) 0 true (decide (999<n))from HS2.out)
          rw[←HD.out]at HN
          go_wp2_with fail
          go_roundg (gk-1)
          case measure=>have:=HK.out;omega
          case rel=>exact⟨0,0+1,_,true,rfl,rfl,rfl,by first|go_num|rfl,by have:=HK.out;omega,by omega,hid ⟨rfl,HN.out⟩⟩
        ·have d3:((i:Int)==0)=false:=by rw[beq_eq_false_iff_ne];omega
         have h2:=HC.out (i-1) (by omega)
         obtain⟨y,hy⟩:∃y,y=l[i-1]'(by omega):=⟨_,rfl⟩
         rw[←hy]at h2
         have hyb:((y.toNat:Int) !=13)=decide (¬(0<i∧l[i-1]?=some 13)):=by
          rw[List.getElem?_eq_getElem (by omega),←hy]
          by_cases e:y=13
          ·subst e
           rw[decide_eq_false (show¬¬(0<i∧some (13:UInt8)=some 13)from fun h=>h ⟨by omega,rfl⟩)];rfl
          ·have e2:((y.toNat:Int) !=13)=true:=by rw[bne_iff_ne];exact fun h=>e (HU.out y 13 h)
           rw[e2,decide_eq_true (show¬(0<i∧some y=some 13)from fun h=>e (Option.some.inj h.2))]
         have HS2:=hid (show CI l (i+1) 0 ((y.toNat:Int) !=13) (g||decide (999<n))from(by
          rw[hyb];exact HS.out))
         have i4:(0:Int)≤(i:Int)-1:=by omega
         have i5:(i:Int)-1<(l.length:Int):=by omega
         have i6:((i:Int)-1).toNat=i-1:=by omega
         clear hy hyb hi0
         cases g with
         |true=>
          have HN:=hid (show CI l (i+1) 0 ((y.toNat:Int) !=13) true from HS2.out)
          go_wp2_with fail
          go_roundg (gk-1)
          case measure=>have:=HK.out;omega
          case rel=>exact⟨0,i+1,true,_,rfl,rfl,rfl,by go_num,by have:=HK.out;omega,by omega,hid ⟨rfl,HN.out⟩⟩
         |false=>
          have HN:=hid (show CI l (i+1) 0 ((y.toNat:Int) !=13) (decide (999<n))from HS2.out)
          rw[←HD.out]at HN
          go_wp2_with fail
          go_roundg (gk-1)
          case measure=>have:=HK.out;omega
          case rel=>exact⟨0,i+1,_,_,rfl,rfl,rfl,by go_num,by have:=HK.out;omega,by omega,hid ⟨rfl,HN.out⟩⟩
      ·have d2:((x.toNat:Int)==10)=false:=by rw[beq_eq_false_iff_ne];exact fun e=>x10 (HU.out x 10 e)
       have HN:=hid (HCI.out.stepo hlt (by rw[←HXX.out];exact x0) (by rw[←HXX.out];exact x13) (by rw[←HXX.out];exact x10))
       clear x0 x13 x10
       go_wp2_with fail
       go_roundg (gk-1)
       case measure=>have:=HK.out;omega
       case rel=>exact⟨n+1,i+1,g,b,by go_num,rfl,rfl,by go_num,by have:=HK.out;omega,by omega,hid ⟨rfl,HN.out⟩⟩
   ·have b1:decide ((i:Int)<(l.length:Int))=false:=decide_eq_false (by omega)
    have hi:i=l.length:=by omega
    cases b with
    |true=>
     have HN:=hid (HCI.out.bad (by rfl))
     clear hi
     go_wp2_with fail
     go_ret
     exact⟨⟨_,rfl,⟨fun h=>absurd h (by decide),fun h=>absurd h HN.out⟩⟩,rfl⟩
    |false=>
     cases g with
     |true=>
      have HN:=hid (HCI.out.bad (by rfl))
      clear hi
      go_wp2_with fail
      go_ret
      exact⟨⟨_,rfl,⟨fun h=>absurd h (by decide),fun h=>absurd h HN.out⟩⟩,rfl⟩
     |false=>
      have HN:=hid (show Sent l from(by have:=HCI.out;rw[hi]at this;exact this.done rfl))
      clear hi
      go_wp2_with fail
      go_ret
      exact⟨⟨_,rfl,⟨fun _=>HN.out,fun _=>rfl⟩⟩,rfl⟩
end Go.Proofs.YtmlmkmhkmifnkaaGreatDoor.Hs
namespace Go.Proofs.YtmlmkmhkmifnkaaGreatDoor.Hs
open Ci (splitL splitL_app splitL_none)
def mayQ(b:List UInt8):Bool:=(splitL 10 (repK (crN b) b)).all (fun q=>decide (q.length≤998))&& !((repK (crN b) b).any fun x=>x==13||x==0)&&decide (b.count 10=crN b)
theorem crN_le:∀(k:Nat) (b:List UInt8),crN b=k→k≤b.count 10
 |0,_,_=>Nat.zero_le _
 |k+1,b,h=>by
  obtain⟨h1,h2⟩:=crN_pos h
  have ih:=crN_le k _ h2
  obtain⟨r,hr⟩:=line_split b h1
  have e:b.drop (lineN b+2)=r:=by
   have h0:b.drop (lineN b)=13::10::r:=List.append_cancel_left ((List.take_append_drop _ b).trans hr)
   rw[←List.drop_drop,h0];rfl
  rw[e]at ih
  conv=>rhs;rw[hr]
  rw[List.count_append,List.count_cons,List.count_cons]
  simp;omega
theorem plain_run:∀(l:List UInt8) (n:Nat),(∀x∈l,x≠13∧x≠0∧x≠10)→cr_ (some (false,n)) l=some (false,n+l.length)
 |[],_,_=>rfl
 |x::l,n,h=>by
  obtain⟨h1,h2,h3⟩:=h x (by simp)
  have:cs (some (false,n)) x=some (false,n+1):=by
   simp only[cs]
   rw[if_neg h2,if_neg (by decide),if_neg h3]
   have:(x==13)=false:=by simpa using h1
   rw[this]
  show cr_ (cs (some (false,n)) x) l=_
  rw[this,plain_run l (n+1) fun y hy=>h y (by simp[hy])]
  simp only[List.length_cons]
  congr 2;omega
theorem may_run':∀(k:Nat) (b:List UInt8) (n:Nat),crN b=k→(∀q r,splitL 10 (repK k b)=q::r→n+q.length≤998∧∀x∈r,x.length≤998)→(∀x∈repK k b,x≠13∧x≠0)→b.count 10=k→cr_ (some (false,n)) b≠none
 |0,b,n,h,hs,hp,hc=>by
  have h10:∀x∈b,x≠10:=fun x hx e=>by
   subst e
   have:=List.count_pos_iff.2 hx
   omega
  rw[plain_run b n fun x hx=>⟨(hp x hx).1,(hp x hx).2,h10 x hx⟩]
  simp
 |k+1,b,n,h,hs,hp,hc=>by
  obtain⟨h1,h2⟩:=crN_pos h
  obtain⟨r,hr⟩:=line_split b h1
  have e:b.drop (lineN b+2)=r:=by
   have h0:b.drop (lineN b)=13::10::r:=List.append_cancel_left ((List.take_append_drop _ b).trans hr)
   rw[←List.drop_drop,h0];rfl
  have hrep:repK (k+1) b=b.take (lineN b)++10::repK k r:=by
   show b.take (lineN b)++10::repK k (b.drop (lineN b+2))=_
   rw[e]
  rw[e]at h2
  have hle:=crN_le k r h2
  obtain⟨P,hP⟩:∃P,P=b.take (lineN b):=⟨_,rfl⟩
  rw[←hP]at hr hrep
  have hcn:P.count 10+1+r.count 10=k+1:=by
   rw[←hc]
   conv=>rhs;rw[hr]
   rw[List.count_append,List.count_cons,List.count_cons]
   simp;omega
  have hP10:∀x∈P,x≠10:=fun x hx e=>by
   subst e
   have:=List.count_pos_iff.2 hx
   omega
  have hPp:∀x∈P,x≠13∧x≠0:=fun x hx=>hp x (by rw[hrep];simp[hx])
  have hsp:splitL 10 (repK (k+1) b)=P::splitL 10 (repK k r):=by
   rw[hrep]
   exact splitL_app 10 P _ fun hh=>hP10 10 hh rfl
  obtain⟨hl1,hl2⟩:=hs _ _ hsp
  have ih:=may_run' k r 0 h2 (fun q t hq=>⟨by rw[Nat.zero_add];exact hl2 q (by rw[hq];simp),fun x hx=>hl2 x (by rw[hq];simp[hx])⟩) (fun x hx=>hp x (by rw[hrep];simp[hx])) (by omega)
  rw[hr,cr_app,plain_run P n fun x hx=>⟨(hPp x hx).1,(hPp x hx).2,hP10 x hx⟩]
  have:cr_ (some (false,n+P.length)) (13::10::r)=cr_ (some (false,0)) r:=by
   show cr_ (cs (some (true,n+P.length+1)) 10) r=_
   have:cs (some (true,n+P.length+1)) 10=some (false,0):=by
    simp only[cs]
    rw[if_neg (by decide),if_pos trivial,if_pos ⟨trivial,by omega⟩]
   rw[this]
  rw[this]
  exact ih
theorem may_fine{b:List UInt8}(h:mayQ b=true):cr_ z0 b≠none:=by
 unfold mayQ at h
 rw[Bool.and_eq_true,Bool.and_eq_true,decide_eq_true_iff]at h
 refine may_run' (crN b) b 0 rfl (fun q r e=> ?_) (fun x hx=> ?_) h.2
 ·have:=List.all_eq_true.1 h.1.1
  rw[e]at this
  exact⟨by rw[Nat.zero_add];exact of_decide_eq_true (this q (by simp)),fun x hx=>of_decide_eq_true (this x (by simp[hx]))⟩
 ·have h2:=h.1.2
  have:((repK (crN b) b).any fun x=>x==13||x==0)=false:=by simpa using h2
  rw[List.any_eq_false]at this
  have:=this x hx
  simp at this
  exact this
end Go.Proofs.YtmlmkmhkmifnkaaGreatDoor.Hs