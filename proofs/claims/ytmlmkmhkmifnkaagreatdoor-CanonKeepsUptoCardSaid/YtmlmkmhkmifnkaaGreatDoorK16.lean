import Derived.Test.YtmlmkmhkmifnkaaGreatDoorK15
set_option maxHeartbeats 16000000
set_option maxRecDepth 1000000
namespace Go.Proofs.YtmlmkmhkmifnkaaGreatDoor.Ma
open Go.RowKit
open Ci (Bel Lay)
theorem mshown_run(n:Bool)(l d:ByteArray)(t:Bool)(w:World)(hw:Lay w)(hl:l.size≤4194304)(hd:d.size≤4194304):
 Calls Tryz.prog 104 #[.agg #[.bool n,.string l,.string d,.bool t]] w fun e w'=>e=.returned (.tuple #[.string ⟨(showQ (pOf n l d t)).1.toArray⟩,.int .i64 (showQ (pOf n l d t)).2])∧Bel w w':=by
 have H0:=hid (And.intro ((Bel.refl w).alloc (.cells #[.bool n,.string l,.string d,.bool t] 26)) (heap_alloc_new w (.cells #[.bool n,.string l,.string d,.bool t] 26)))
 have HW:=hid hw
 have HP0:=hid H0.out.2
 have HS:=(show Hid (∀W,Lay W→Calls Tryz.prog 178 #[.agg #[.bool n,.string l,.string d,.bool t]] W fun e w'=>e=.returned (.tuple #[.string ⟨(if rightP (pOf n l d t)=0 then shownP (pOf n l d t)else[]).toArray⟩,.int .i64 (rightP (pOf n l d t))])∧Bel W w')from fun W hW=>pshow_run n l d t W hW hl hd)
 have hq:showQ (pOf n l d t)=if n||d.toList.isEmpty then([],1)else(if rightP (pOf n l d t)=0 then shownP (pOf n l d t)else[],rightP (pOf n l d t)):=by
  rw[emp_iff]
  unfold showQ
  show(if(n||d.data.toList.isEmpty)=true then _ else _)=_
  by_cases h:(n||d.data.toList.isEmpty)=true
  ·rw[if_pos h,if_pos h]
  ·rw[if_neg h,if_neg h]
   by_cases h0:rightP (pOf n l d t)=0
   ·rw[if_pos h0,if_pos h0,h0]
   ·rw[if_neg h0,if_neg h0]
 generalize showQ (pOf n l d t)=q at hq⊢
 generalize (if rightP (pOf n l d t)=0 then shownP (pOf n l d t)else[])=sh at HS hq
 generalize rightP (pOf n l d t)=r at HS hq
 clear hw
 cases n with
 |true=>
  rw[Bool.true_or,if_pos rfl]at hq
  subst hq
  go_enter Tryz.func104,Tryz.ntmps104
  go_wp2_with fail
  go_ret2
  exact⟨rfl,H0.out.1⟩
 |false=>
  cases he:d.toList.isEmpty with
  |true=>
   rw[he,Bool.false_or,if_pos rfl]at hq
   subst hq
   go_enter Tryz.func104,Tryz.ntmps104
   go_wp2_with fail
   go_ret2
   exact⟨rfl,H0.out.1⟩
  |false=>
   rw[he,Bool.false_or,if_neg Bool.false_ne_true]at hq
   subst hq
   go_enter Tryz.func104,Tryz.ntmps104
   go_wp2_with (first|(refine wpList_load_mid rfl 26 (.tmp 1) rfl w.heap.size 0 rfl [.bool false,.string l,.string d,.bool t] _ (range_pt HP0.out) Tryz.underlying26 rfl pt_size ?_)|(go_at_call 178;refine(HS.out _ (HW.out.next H0.out.1)).mono ?_;rintro e w1 ⟨rfl,hb1⟩))
   go_ret2
   exact⟨rfl,H0.out.1.trans hb1⟩
end Go.Proofs.YtmlmkmhkmifnkaaGreatDoor.Ma
namespace Go.Proofs.YtmlmkmhkmifnkaaGreatDoor.Ma
open Go.RowKit
open Ci (Bel Lay own_bel row_shape addr_add own_base wpList_push)
def ptC(p:Pt):List Value:=[.bool p.null,.string ⟨p.loc.toArray⟩,.string ⟨p.dom.toArray⟩,.bool p.lit]
structure Pts (W:World) (x:Option Addr) (l:List Pt):Prop where
 at_:l=[]∨∃b o,x=some ⟨b,o,none⟩∧b<W.heap.size∧∀k (hk:k<l.length),W.rangeAt b (o+k*4) (ptC l[k])
theorem Pts.next{W W':World}{x:Option Addr}{l:List Pt}(h:Pts W x l)(hb:Bel W W'):Pts W' x l:=by
 refine⟨?_⟩
 rcases h.at_ with f|⟨b,o,e,hs,f⟩
 ·exact .inl f
 ·exact .inr ⟨b,o,e,Nat.lt_of_lt_of_le hs hb.size,fun k hk j v hv=>(hb.cell hs).trans (f k hk j v hv)⟩
theorem Pts.place{W:World}{x:Option Addr}{l:List Pt}(h:Pts W x l){k:Nat}(hk:k<l.length):∃b o,x=some ⟨b,o,none⟩∧W.rangeAt b (o+k*4) (ptC l[k]):=by
 rcases h.at_ with f|⟨b,o,e,-,f⟩
 ·rw[f]at hk;cases hk
 ·exact⟨b,o,e,f k hk⟩
def Small(l:List Pt):Prop:=∀p∈l,p.loc.length≤4194304∧p.dom.length≤4194304
theorem ptC_one(p:Pt):((ptC p).toArray.all (·.oneCell'))=true:=by simp[ptC,Value.oneCell']
theorem ptC_range{W:World}{b:Nat}{p:Pt}{T:TypeId}(h:W.heap[b]?=some (.cells (ptC p).toArray T (0,0))):W.rangeAt b 0 (ptC p):=Ci.range_of h fun j v hv=>by rw[Nat.zero_add];exact hv
theorem mshown_pt(p:Pt)(w:World)(hw:Lay w)(hl:p.loc.length≤4194304)(hd:p.dom.length≤4194304):
 Calls Tryz.prog 104 #[.agg (ptC p).toArray] w fun e w'=>e=.returned (.tuple #[.string ⟨(showQ p).1.toArray⟩,.int .i64 (showQ p).2])∧Bel w w':=
 mshown_run p.null ⟨p.loc.toArray⟩ ⟨p.dom.toArray⟩ p.lit w hw (by rw[Lib.size_eq];exact hl) (by rw[Lib.size_eq];exact hd)
theorem show_len(p:Pt):(showQ p).1.length≤256:=by
 unfold showQ
 split
 ·simp
 ·split
  ·rename_i h0
   show(shownP p).length≤_
   unfold rightP at h0
   split at h0
   ·simp at h0
   ·split at h0
    ·rename_i hn
     unfold shownP
     rw[if_pos hn];simp
    ·split at h0
     ·simp at h0
     ·rename_i hc
      simp only[not_or]at hc
      omega
  ·simp
end Go.Proofs.YtmlmkmhkmifnkaaGreatDoor.Ma
namespace Go.Proofs.YtmlmkmhkmifnkaaGreatDoor.Ma
open Go.RowKit
open Ci (Bel Lay own_bel row_shape addr_add own_base)
theorem builder_next{T e:TypeId}{B b:Nat}{bs:List Value}{W W':World}(h:Lib.IsBuilder T e B b bs W)(hb:Bel W W'):Lib.IsBuilder T e B b bs W':=by
 have key:∀p,Lib.BuilderAt T e B b p bs W→Lib.BuilderAt T e B b p bs W':=fun p ⟨h1,v,h2,h3,h4⟩=>⟨h1,v,hb.heap h2,own_bel h3 hb,h4⟩
 exact h.elim (fun x=>.inl (key _ x)) (fun x=>.inr (key _ x))
theorem builder_new(w:World):Lib.IsBuilder 127 5 w.heap.size w.heap.size (Lib.byteCells []) (w.alloc (.cells #[.pointer none,.slice none 0 0] 127)):=
 .inl ⟨Nat.le_refl _,.slice none 0 0,heap_alloc_new w _,⟨rfl,.inl ⟨rfl,rfl⟩⟩,by simp[Value.ownBlock]⟩
theorem mlCs_at(L:List Ml)(k:Nat)(hk:k<L.length)(j:Nat)(v:Value)(hv:(mlC L[k])[j]?=some v):(mlCs L)[k*7+j]?=some v:=by
 induction L generalizing k with
 |nil=>simp at hk
 |cons t L ih=>
  show(mlC t++mlCs L)[k*7+j]?=some v
  have hl:(mlC t).length=7:=rfl
  cases k with
  |zero=>
   have hj:j<7:=(List.getElem?_eq_some_iff.1 hv).1
   rw[List.getElem?_append_left (by omega),Nat.zero_mul,Nat.zero_add]
   exact hv
  |succ k=>
   rw[List.getElem?_append_right (by omega),hl,show(k+1)*7+j-7=k*7+j by omega]
   exact ih k (by simp at hk;omega) hv
theorem mls_at{a W:World}{base g cp:Nat}{L:List Ml}(h:a.ownsRow base 98 7 (.slice (some ⟨g,0,none⟩) L.length cp) L.length (mlCs L))(hb:Bel a W)(k:Nat)(hk:k<L.length)(j:Nat)(v:Value)(hv:(mlC L[k])[j]?=some v):W.cell? ⟨g,k*7+j,none⟩=some v:=by
 have hj:=mlCs_at L k hk j v hv
 have hl:=(List.getElem?_eq_some_iff.1 hj).1
 rw[h.1]at hl
 exact((World.ownsRow.cellAt (own_bel h hb) (k*7+j) hl).trans hj)
theorem bytes_app(a:List UInt8)(s:ByteArray):Lib.byteCells a++Lib.strCells s=Lib.byteCells (a++s.data.toList):=by
 unfold Lib.byteCells Lib.strCells
 rw[List.map_append]
structure ReI (s:List UInt8) (ms:List Ml) (l:List Pt) (w1 wr:World) (k a:Nat) (acc:List UInt8):Prop where
 bel:Bel w1 wr
 bd:Lib.IsBuilder 127 5 w1.heap.size w1.heap.size (Lib.byteCells acc) wr
 ord:OrdM s.length a (ms.drop k)
 eq:replaceQ s l=replF s a acc (ms.drop k) (l.drop k)
 num:acc.length≤k*70000
 at_:a≤s.length
theorem ordM_le{n:Nat}:∀{l:List Ml} {a:Nat},OrdM n a l→a≤n
 |[],_,h=>h
 |_::_,_,h=>by have:=ordM_le h.2.2;have:=h.1;have:=h.2.1;omega
theorem ext_len(s:ByteArray)(a b:Nat):(s.extract a b).data.toList.length≤s.size:=by
 rw[←Lib.size_eq,ByteArray.size_extract];omega
theorem mreplace_run(s:ByteArray)(x:Option Addr)(l:List Pt)(c:Nat)(w:World)(hw:Lay w)(hL:Pts w x l)(hS:Small l):
 Calls Tryz.prog 49 #[.string s,.slice x l.length c] w fun e w'=>e=.returned (.tuple #[.string ⟨(replaceQ s.data.toList l).1.toArray⟩,.int .i64 (replaceQ s.data.toList l).2])∧Bel w w':=by
 have HW:=hid hw
 have HL:=hid hL
 have HS:=hid hS
 have hsz:=Lib.size_eq s
 have HSZ:=hid hsz
 have HP:=hid (mparse_run s w hw)
 have HPO:=hid (fun ms (h:parseQ s.data.toList=(ms,0))=>And.intro (parse_ord h) (parse_ok h))
 have HQ:=hid (show replaceQ s.data.toList l=if(parseQ s.data.toList).2≠0 then([],(parseQ s.data.toList).2)else if(parseQ s.data.toList).1.length≠l.length then([],1)else replF s.data.toList 0 [] (parseQ s.data.toList).1 l from rfl)
 unfold ParsePost at HP
 obtain⟨pq,hpq⟩:∃pq,pq=parseQ s.data.toList:=⟨_,rfl⟩
 rw[←hpq]at HP HQ HPO
 obtain⟨ms,pe⟩:=pq
 simp only at HP HQ
 clear hw hL hS hpq
 by_cases h0:pe=0
 ·subst h0
  have HPO2:=hid (HPO.out ms rfl)
  by_cases hlen:ms.length=l.length
  ·have HQ2:=hid (show replaceQ s.data.toList l=replF s.data.toList 0 [] ms l by
    rw[HQ.out,if_neg (by simp),if_neg (by simpa using hlen)])
   have h65:s.size≤65536:=by rw[hsz];exact HPO2.out.2.1
   have h200:ms.length≤200:=HPO2.out.2.2.choose_spec.2.2
   have HORD:=hid HPO2.out.1
   clear HPO HPO2 HQ hsz
   go_enter Tryz.func49,Tryz.ntmps49
   go_upto_region 4 with(first|(go_at_call 47;refine HP.out.mono ?_;rintro e w1 ⟨v,rfl,hb1,hrow⟩;have HB1:=hid hb1;have HROW:=hid hrow;clear hb1 hrow))
   obtain⟨x3,c3,rfl,hcl,-⟩:=row_shape HROW.out
   clear hcl HP
   have hbq:((ms.length:Int)==(l.length:Int))=true:=by rw[hlen];exact beq_self_eq_true _
   have hleq:(ms.length:Int)=(l.length:Int):=by omega
   have HLEN:=hid hlen
   clear hlen
   go_wp2_with fail
   go_loopg [9,31] l.length (fun gg v9 v31 wr=>∃(k a:Nat) (acc:List UInt8),v9=.int .i64 a∧v31=.int .i64 k∧k+gg=l.length∧Hid (ReI s.data.toList ms l w1 wr k a acc))
   case atStart=>exact⟨0,0,[],rfl,rfl,by omega,hid ⟨(Bel.refl w1).alloc _,builder_new w1,HORD.out,HQ2.out,Nat.zero_le _,Nat.zero_le _⟩⟩
   case round=>
    obtain⟨k,a,acc,rfl,rfl,hk,H⟩:=hrel
    have Hk:=hid hk
    have hkn:k≤l.length:=by omega
    clear hk
    have HB1W:=hid H.out.bel
    have HBW:=hid (show Bel w wr from HB1.out.trans H.out.bel)
    have HBD:=hid H.out.bd
    have hacc:=H.out.num
    have ha:=H.out.at_
    have hk200:k≤200:=by have:=HLEN.out;omega
    have hasz:a≤s.size:=by have:=HSZ.out;omega
    by_cases hlt:k<l.length
    ·obtain⟨b,o,rfl,-⟩:=HL.out.place hlt
     have hrg:wr.rangeAt b (o+k*4) (ptC l[k]):=by
      obtain⟨b3,o3,e,f⟩:=(HL.out.next HBW.out).place hlt
      cases e
      exact f
     have hkm:k<ms.length:=by have:=HLEN.out;omega
     obtain⟨g,rfl⟩:∃g,x3=some ⟨g,0,none⟩:=by
      rcases HROW.out.2 with⟨e,h0⟩|⟨g,cap,cur,e,-⟩
      ·omega
      ·cases e;exact⟨g,rfl⟩
     have HFR:=hid (fun W (hb:Bel w1 W)=>mls_at HROW.out hb k hkm 4 _ rfl)
     have HTL:=hid (fun W (hb:Bel w1 W)=>mls_at HROW.out hb k hkm 5 _ rfl)
     have hord:=H.out.ord
     have HE:=H.out.eq
     rw[List.drop_eq_getElem_cons hkm]at hord HE
     rw[List.drop_eq_getElem_cons hlt,replF]at HE
     have HEE:=hid HE
     have hle1:=hord.1
     have hle2:=hord.2.1
     have HOR2:=hid hord.2.2
     have hle3:=ordM_le hord.2.2
     have HSm:=hid (HS.out _ (List.getElem_mem hlt))
     clear hord HE
     generalize l[k]=p at hrg HSm HEE
     generalize ms[k]=m at HFR HTL HEE hle1 hle2 HOR2 hle3
     have hm1:m.from_≤s.size:=by have:=HSZ.out;omega
     have hm2:m.til≤s.size:=by have:=HSZ.out;omega
     have HM:=(show Hid (∀W,Lay W→Calls Tryz.prog 104 #[.agg (ptC p).toArray] W fun e w'=>e=.returned (.tuple #[.string ⟨(showQ p).1.toArray⟩,.int .i64 (showQ p).2])∧Bel W w')from fun W hW=>mshown_pt p W hW HSm.out.1 HSm.out.2)
     have hsl:=show_len p
     generalize showQ p=q at HM HEE hsl
     obtain⟨ss,se⟩:=q
     simp only at HM HEE hsl
     clear H
     have i1:∀(T:TypeId),T=T:=fun _=>rfl
     by_cases h0:se=0
     ·subst h0
      have HX:=hid (ext_list s a m.from_)
      have HXL:=hid (ext_len s a m.from_)
      have HE2:=hid (show replaceQ s.data.toList l=replF s.data.toList m.til (acc++(s.extract a m.from_).data.toList++ss) (ms.drop (k+1)) (l.drop (k+1)) by
       rw[HX.out];exact HEE.out.trans (if_pos rfl))
      have HW1:=(show Hid (∀W,Lib.IsBuilder 127 5 w1.heap.size w1.heap.size (Lib.byteCells acc) W→Bel w1 W→Calls Tryz.prog 74 #[.pointer (some ⟨w1.heap.size,0,none⟩),.string (s.extract a m.from_)] W fun e w'=>e=.returned (.tuple #[.int .i64 (s.extract a m.from_).size,.nilIface])∧Lib.IsBuilder 127 5 w1.heap.size w1.heap.size (Lib.byteCells (acc++(s.extract a m.from_).data.toList)) w'∧Below w1.heap.size W w')from fun W hB hb=>by
       have:=writeString_run w1.heap.size w1.heap.size _ (s.extract a m.from_) W hB (by rw[show(Lib.byteCells acc).length=acc.length by simp[Lib.byteCells],Lib.size_eq];have:=HXL.out;omega) hb.size
       rw[bytes_app]at this
       exact this)
      have HW2:=(show Hid (∀W,Lib.IsBuilder 127 5 w1.heap.size w1.heap.size (Lib.byteCells (acc++(s.extract a m.from_).data.toList)) W→Bel w1 W→Calls Tryz.prog 74 #[.pointer (some ⟨w1.heap.size,0,none⟩),.string ⟨ss.toArray⟩] W fun e w'=>e=.returned (.tuple #[.int .i64 (⟨ss.toArray⟩:ByteArray).size,.nilIface])∧Lib.IsBuilder 127 5 w1.heap.size w1.heap.size (Lib.byteCells (acc++(s.extract a m.from_).data.toList++ss)) w'∧Below w1.heap.size W w')from fun W hB hb=>by
       have:=writeString_run w1.heap.size w1.heap.size _ ⟨ss.toArray⟩ W hB (by rw[show(Lib.byteCells (acc++(s.extract a m.from_).data.toList)).length=acc.length+(s.extract a m.from_).data.toList.length by simp[Lib.byteCells],Lib.size_eq];have:=HXL.out;show _+ss.length≤_;omega) hb.size
       rw[bytes_app]at this
       exact this)
      have HNA:=hid (show(acc++(s.extract a m.from_).data.toList++ss).length≤(k+1)*70000 by
       rw[List.length_append,List.length_append];have:=HXL.out;omega)
      have HLT:=hid (show m.til≤s.data.toList.length from hle3)
      clear HX HXL HEE hle3 hle2
      go_upto_region 14 with(first|(refine wpList_load_mid rfl 26 (.tmp 34) rfl b (o+k*4) rfl (ptC p) _ hrg Tryz.underlying26 rfl pt_size ?_)|(refine wpList_store_blk rfl 26 (.tmp 11) (.tmp 35) rfl wr.heap.size (ptC p) rfl rfl pt_size (ptC_one p) [.bool false,.string ⟨#[]⟩,.string ⟨#[]⟩,.bool false] _ (heap_alloc_new wr _) rfl ?_;intro w5 hc5 ho5 hs5 hb5;have HB5:=hid (hb5 wr ((Bel.refl wr).alloc _) (Nat.le_refl _));clear ho5 hs5 hb5)|(refine wpList_load_mid rfl 26 (.tmp 11) rfl wr.heap.size 0 rfl (ptC p) _ (ptC_range hc5) Tryz.underlying26 rfl pt_size ?_)|(go_at_call 104;refine(HM.out _ (HW.out.next (HBW.out.trans HB5.out))).mono ?_;rintro e w6 ⟨rfl,hb6⟩;have HB6:=hid (HB5.out.trans hb6);have HBD6:=hid (builder_next HBD.out HB6.out);have HB16:=hid (HB1W.out.trans HB6.out);have f6:=HFR.out w6 HB16.out;clear hb6 hc5))
      go_wp2_with fail
      have z1:=HW1.out w6 HBD6.out HB16.out
      refine z1.mono ?_
      clear z1 HW1
      rintro e w7 ⟨rfl,hbd7,hb7⟩
      have HBD7:=hid hbd7
      have HB17:=hid (show Bel w1 w7 from Below.trans HB16.out hb7)
      clear hbd7 hb7 f6
      go_wp2_with fail
      have z2:=HW2.out w7 HBD7.out HB17.out
      refine z2.mono ?_
      clear z2 HW2
      rintro e w8 ⟨rfl,hbd8,hb8⟩
      have HBD8:=hid hbd8
      have HB18:=hid (show Bel w1 w8 from Below.trans HB17.out hb8)
      have f8:=HTL.out w8 HB18.out
      clear hbd8 hb8
      go_wp2_with fail
      go_roundg (gk-1)
      case measure=>have:=Hk.out;omega
      case rel=>exact⟨k+1,m.til,acc++(s.extract a m.from_).data.toList++ss,rfl,by go_num,by have:=Hk.out;omega,hid ⟨HB18.out,HBD8.out,HOR2.out,HE2.out,HNA.out,HLT.out⟩⟩
     ·have HE2:=hid (show replaceQ s.data.toList l=([],se)from HEE.out.trans (if_neg h0))
      have b2:(se==0)=false:=by simpa using h0
      clear HEE h0
      go_wp2_with (first|(refine wpList_load_mid rfl 26 (.tmp 34) rfl b (o+k*4) rfl (ptC p) _ hrg Tryz.underlying26 rfl pt_size ?_)|(refine wpList_store_blk rfl 26 (.tmp 11) (.tmp 35) rfl wr.heap.size (ptC p) rfl rfl pt_size (ptC_one p) [.bool false,.string ⟨#[]⟩,.string ⟨#[]⟩,.bool false] _ (heap_alloc_new wr _) rfl ?_;intro w5 hc5 ho5 hs5 hb5;have HB5:=hid (hb5 wr ((Bel.refl wr).alloc _) (Nat.le_refl _));clear ho5 hs5 hb5)|(refine wpList_load_mid rfl 26 (.tmp 11) rfl wr.heap.size 0 rfl (ptC p) _ (ptC_range hc5) Tryz.underlying26 rfl pt_size ?_)|(go_at_call 104;refine(HM.out _ (HW.out.next (HBW.out.trans HB5.out))).mono ?_;rintro e w6 ⟨rfl,hb6⟩;have HB6:=hid (HB5.out.trans hb6);have HBD6:=hid (builder_next HBD.out HB6.out);have HB16:=hid (HB1W.out.trans HB6.out);have f6:=HFR.out w6 HB16.out;clear hb6 hc5))
      go_ret2
      exact⟨by rw[HE2.out];rfl,HBW.out.trans HB6.out⟩
    ·obtain rfl:k=l.length:=by omega
     have HX:=hid (ext_back s a)
     have hxl:(s.extract a s.size).data.toList.length≤s.size:=ext_len s a s.size
     have HE:=hid (show replaceQ s.data.toList l=if 65536<(acc++(s.extract a s.size).data.toList).length then([],101)else(acc++(s.extract a s.size).data.toList,0) by
      rw[H.out.eq,List.drop_length,HX.out,replF]
      intro _ _ _ _ _ e
      cases e)
     have HW1:=(show Hid (Calls Tryz.prog 74 #[.pointer (some ⟨w1.heap.size,0,none⟩),.string (s.extract a s.size)] wr fun e w'=>e=.returned (.tuple #[.int .i64 (s.extract a s.size).size,.nilIface])∧Lib.IsBuilder 127 5 w1.heap.size w1.heap.size (Lib.byteCells (acc++(s.extract a s.size).data.toList)) w'∧Below w1.heap.size wr w') by
      have:=writeString_run w1.heap.size w1.heap.size _ (s.extract a s.size) wr HBD.out (by rw[show(Lib.byteCells acc).length=acc.length by simp[Lib.byteCells],Lib.size_eq];omega) HB1W.out.size
      rw[bytes_app]at this
      exact this)
     have hTl:(acc++(s.extract a s.size).data.toList).length≤20000000:=by rw[List.length_append];omega
     generalize acc++(s.extract a s.size).data.toList=T at HE HW1 hTl
     have HLn:=(show Hid (∀W,Lib.IsBuilder 127 5 w1.heap.size w1.heap.size (Lib.byteCells T) W→Calls Tryz.prog 105 #[.pointer (some ⟨w1.heap.size,0,none⟩)] W fun e w'=>e=.returned (.int .i64 T.length)∧w'=W)from fun W hB=>by
      have:=Tryz.Builder_Len w1.heap.size w1.heap.size _ W hB
      rw[show(Lib.byteCells T).length=T.length by simp[Lib.byteCells]]at this
      exact this)
     have HSt:=(show Hid (∀W,Lib.IsBuilder 127 5 w1.heap.size w1.heap.size (Lib.byteCells T) W→Bel w1 W→Calls Tryz.prog 76 #[.pointer (some ⟨w1.heap.size,0,none⟩)] W fun e w'=>e=.returned (.string ⟨T.toArray⟩)∧Below w1.heap.size W w')from fun W hB hb=>Tryz.Builder_String_any w1.heap.size w1.heap.size T W hB hb.size)
     clear H HX hxl
     by_cases h6:65536<T.length
     ·have b6:decide ((65536:Int)<(T.length:Int))=true:=decide_eq_true (by omega)
      have HE2:=hid (show replaceQ s.data.toList l=([],101) by rw[HE.out,if_pos h6])
      clear HE h6
      go_wp2_with (first|(go_at_call 74;refine HW1.out.mono ?_;rintro e w7 ⟨rfl,hbd7,hb7⟩;have HBD7:=hid hbd7;have HB17:=hid (show Bel w1 w7 from Below.trans HB1W.out hb7);clear hbd7 hb7)|(go_at_call 105;refine(HLn.out _ HBD7.out).mono ?_;rintro e w8 ⟨rfl,rfl⟩))
      go_ret2
      exact⟨by rw[HE2.out];rfl,HB1.out.trans HB17.out⟩
     ·have b6:decide ((65536:Int)<(T.length:Int))=false:=decide_eq_false (by omega)
      have HE2:=hid (show replaceQ s.data.toList l=(T,0) by rw[HE.out,if_neg h6])
      clear HE h6
      go_wp2_with (first|(go_at_call 74;refine HW1.out.mono ?_;rintro e w7 ⟨rfl,hbd7,hb7⟩;have HBD7:=hid hbd7;have HB17:=hid (show Bel w1 w7 from Below.trans HB1W.out hb7);clear hbd7 hb7)|(go_at_call 105;refine(HLn.out _ HBD7.out).mono ?_;rintro e w8 ⟨rfl,rfl⟩)|(go_at_call 76;refine(HSt.out _ HBD7.out HB17.out).mono ?_;rintro e w9 ⟨rfl,hb9⟩;have HB19:=hid (show Bel w1 w9 from Below.trans HB17.out hb9);clear hb9))
      go_ret2
      exact⟨by rw[HE2.out];rfl,HB1.out.trans HB19.out⟩
  ·have HQ2:=hid (show replaceQ s.data.toList l=([],1) by
    rw[HQ.out,if_neg (by simp),if_pos hlen])
   have h200:ms.length≤200:=HPO2.out.2.2.choose_spec.2.2
   clear HPO HPO2 HQ hsz
   go_enter Tryz.func49,Tryz.ntmps49
   go_upto_region 4 with(first|(go_at_call 47;refine HP.out.mono ?_;rintro e w1 ⟨v,rfl,hb1,hrow⟩;have HB1:=hid hb1;have HROW:=hid hrow;clear hb1 hrow))
   obtain⟨x3,c3,rfl,hcl,-⟩:=row_shape HROW.out
   clear hcl HP
   have hbq:((ms.length:Int)==(l.length:Int))=false:=by rw[beq_eq_false_iff_ne];omega
   clear hlen
   go_wp2_with fail
   go_ret2
   exact⟨by rw[HQ2.out];rfl,HB1.out⟩
 ·have HQ2:=hid (show replaceQ s.data.toList l=([],pe) by rw[HQ.out,if_pos h0])
  have b2:(pe==0)=false:=by simpa using h0
  clear HPO HQ hsz h0
  go_enter Tryz.func49,Tryz.ntmps49
  go_wp2_with (first|(go_at_call 47;refine HP.out.mono ?_;rintro e w1 ⟨v,rfl,hb1,hrow⟩;have HB1:=hid hb1;clear hb1 hrow))
  go_ret2
  exact⟨by rw[HQ2.out];rfl,HB1.out⟩
end Go.Proofs.YtmlmkmhkmifnkaaGreatDoor.Ma
namespace Go.Proofs.YtmlmkmhkmifnkaaGreatDoor.Ma
open Go.RowKit
open Ci (Bel Lay addr_add)
theorem writeByte_run(B b:Nat)(l:List UInt8)(c:UInt8)(w:World)(h:Lib.IsBuilder 127 5 B b (Lib.byteCells l) w)(hlen:l.length+1≤140737488355328)(hBw:B≤w.heap.size):
 Calls Tryz.prog 75 #[.pointer (some ⟨b,0,none⟩),.int .u8 (c.toNat:Int)] w fun e w'=>e=.returned (.nilIface)∧(Lib.IsBuilder 127 5 B b (Lib.byteCells (l++[c])) w'∧Below B w w'):=by
 obtain⟨i0,hi,hz0,hz1,hz2⟩:=info_parts byte_infos
 have HC:=hid (copyCheck_run B b (Lib.byteCells l) w h)
 have hbl:(Lib.byteCells l).length=l.length:=by simp[Lib.byteCells]
 clear h
 go_enter Tryz.func75,Tryz.ntmps75
 go_wp2_with (go_at_call 144;refine HC.out.mono ?_)
 rintro e w1 ⟨rfl,h1,hb1⟩
 obtain⟨hB,v,hbk,hown,hne⟩:=h1
 have c0:w1.cell? ⟨b,0,none⟩=some (.pointer (some ⟨b,0,none⟩)):=by rw[Lib.cell_of_heap hbk];rfl
 have c1:w1.cell? ⟨b,1,none⟩=some v:=by rw[Lib.cell_of_heap hbk];rfl
 have hlt:b<w1.heap.size:=(Array.getElem?_eq_some_iff.1 hbk).1
 rw[hbl]at hown
 go_wp2_with (at_builtin;refine wpList_append_own _ rfl _ _ 48 rfl B 5 i0 (.int .u8 0) 1 1 Tryz.underlying48 hi hz0 hz1 hz2 rfl (by decide) v l.length (Lib.byteCells l) rfl (hown.alloc _) ⟨w1.heap.size,0,none⟩ 1 1 [.int .u8 (c.toNat:Int)] rfl rfl ?c2 ?c3 ?c4 ?c5 ?c6 ?_)
 case c2=>
  intro j u hu
  rw[addr_add,Nat.zero_add]
  have e:=heap_alloc_new w1 (.cells #[.int .u8 (c.toNat:Int)] 5)
  simp only[World.cell?,e]
  simpa using hu
 case c3=>intro u hu;rw[List.mem_singleton.1 hu];rfl
 case c4=>unfold maxLen;omega
 case c5=>omega
 case c6=>rw[World.size_alloc];have:=hb1.size;omega
 intro v' w2 hown' hgrow _
 have hb2:w2.heap[b]?=some (.cells #[.pointer (some ⟨b,0,none⟩),v] 127 (0,0)):=by
  rw[hgrow.block b (by rw[World.size_alloc];omega) (fun e=>hne e.symm)]
  exact((Bel.refl w1).alloc _).heap hbk
 have d1:w2.cell? ⟨b,1,none⟩=some v:=by rw[Lib.cell_of_heap hb2];rfl
 have f1:w2.frozen? ⟨b,1,none⟩=false:=Lib.frozen_of_heap hb2 1
 have HG:=hid (show Below B w w2 from(hb1.alloc (by have:=hb1.size;omega) _).grown hgrow (by rw[World.size_alloc];have:=hb1.size;omega) (fun k hk=>(hown.lt k hk).1))
 obtain⟨ao,n',cap,rfl⟩:∃ao n' cap,v'=.slice ao n' cap:=by
  rcases hown'.2 with⟨hv,_⟩|⟨g,cap,cur,hv,_⟩
  ·exact⟨_,_,_,hv⟩
  ·exact⟨_,_,_,hv⟩
 clear hown hgrow hb1 hne hbk c0 c1
 go_wp2
 go_ret
 have e:Lib.byteCells (l++[c])=Lib.byteCells l++[.int .u8 (c.toNat:Int)]:=by simp[Lib.byteCells]
 refine⟨rfl,.inr ?_,HG.out.setCell (p:=⟨b,1,none⟩) hB _⟩
 rw[e]
 exact Lib.BuilderAt.put (T:=127) (e:=5) hB hb2 (bs':=Lib.byteCells l++[.int .u8 (c.toNat:Int)]) (by rw[List.length_append,hbl];exact hown') (by decide)
def locL:List UInt8→Option (List UInt8×Nat)
 |[]=>none
 |c::t=>
  if c=34 then some ([],1)
  else if c=92 then match t with
   |[]=>none
   |d::t'=>if oddB d then none else(locL t').map fun x=>(d::x.1,x.2+2)
  else if oddB c then none else(locL t).map fun x=>(c::x.1,x.2+1)
def quotedP(s:List UInt8):List UInt8×Nat:=match locL (s.drop 1)with
 |some (b,n)=>if b=[]then([],0)else(b,n+1)
 |none=>([],0)
def domTextP(s:List UInt8):List UInt8:=
 if s.head?==some 91 then s.take (if 0≤Lib.indexByte s 93 then(Lib.indexByte s 93).toNat+1 else 0)else s.take (s.takeWhile fun b=>ldhB b||b==46).length
end Go.Proofs.YtmlmkmhkmifnkaaGreatDoor.Ma
namespace Go.Proofs.YtmlmkmhkmifnkaaGreatDoor.Ma
open Go.RowKit
open Ci (Bel Lay addr_add)
structure QoI (l:List UInt8) (k:Nat) (bs:List UInt8):Prop where
 pos:1≤k
 num:bs.length≤k
 eq:locL (l.drop 1)=(locL (l.drop k)).map fun x=>(bs++x.1,x.2+(k-1))
theorem lmap(o:Option (List UInt8×Nat))(f:List UInt8→List UInt8)(bs cs:List UInt8)(a b c:Nat)(h:a+b=c)(hf:∀x,bs++f x=cs++x):
 ((o.map fun x=>(f x.1,x.2+a)).map fun x=>(bs++x.1,x.2+b))=o.map fun x=>(cs++x.1,x.2+c):=by
 cases o with
 |none=>rfl
 |some x=>show some (bs++f x.1,x.2+a+b)=some (cs++x.1,x.2+c);rw[hf,←h,Nat.add_assoc]
theorem QoI.plain{l:List UInt8}{k:Nat}{bs:List UInt8}(h:QoI l k bs)(hk:k<l.length)(h1:l[k]≠34)(h2:l[k]≠92)(h3:oddB l[k]=false):QoI l (k+1) (bs++[l[k]]):=by
 have:=h.pos
 refine⟨by omega,by have:=h.num;simp;omega,?_⟩
 rw[h.eq,drop_at hk,locL.eq_def]
 simp only
 rw[if_neg h1,if_neg h2,h3,if_neg Bool.false_ne_true]
 exact lmap _ (l[k]:: ·) bs (bs++[l[k]]) 1 (k-1) (k+1-1) (by omega) fun x=>by simp
theorem QoI.esc{l:List UInt8}{k:Nat}{bs:List UInt8}(h:QoI l k bs)(hk:k+1<l.length)(h2:l[k]=92)(h3:oddB l[k+1]=false):QoI l (k+2) (bs++[l[k+1]]):=by
 have:=h.pos
 refine⟨by omega,by have:=h.num;simp;omega,?_⟩
 rw[h.eq,drop_at (by omega:k<l.length),drop_at hk,locL.eq_def]
 simp only
 rw[if_neg (by rw[h2];decide),if_pos h2,h3,if_neg Bool.false_ne_true]
 exact lmap _ (l[k+1]:: ·) bs (bs++[l[k+1]]) 2 (k-1) (k+2-1) (by omega) fun x=>by simp
theorem QoI.done{l:List UInt8}{k:Nat}{bs:List UInt8}(h:QoI l k bs)(hk:k<l.length)(h1:l[k]=34):locL (l.drop 1)=some (bs,k):=by
 have:=h.pos
 rw[h.eq,drop_at hk,locL.eq_def]
 simp only
 rw[if_pos h1]
 show some (bs++[],1+(k-1))=_
 rw[List.append_nil]
 congr 2;omega
theorem QoI.end_{l:List UInt8}{k:Nat}{bs:List UInt8}(h:QoI l k bs)(hk:l.length≤k):locL (l.drop 1)=none:=by
 rw[h.eq,List.drop_eq_nil_of_le hk];rfl
theorem QoI.odd{l:List UInt8}{k:Nat}{bs:List UInt8}(h:QoI l k bs)(hk:k<l.length)(h1:l[k]≠34)(h2:l[k]≠92)(h3:oddB l[k]=true):locL (l.drop 1)=none:=by
 rw[h.eq,drop_at hk,locL.eq_def]
 simp only
 rw[if_neg h1,if_neg h2,h3,if_pos rfl];rfl
theorem QoI.cut{l:List UInt8}{k:Nat}{bs:List UInt8}(h:QoI l k bs)(hk:k<l.length)(h2:l[k]=92)(h3:l.length≤k+1):locL (l.drop 1)=none:=by
 rw[h.eq,drop_at hk,List.drop_eq_nil_of_le h3,locL.eq_def]
 simp only
 rw[if_neg (by rw[h2];decide),if_pos h2];rfl
theorem QoI.eodd{l:List UInt8}{k:Nat}{bs:List UInt8}(h:QoI l k bs)(hk:k+1<l.length)(h2:l[k]=92)(h3:oddB l[k+1]=true):locL (l.drop 1)=none:=by
 rw[h.eq,drop_at (by omega:k<l.length),drop_at hk,locL.eq_def]
 simp only
 rw[if_neg (by rw[h2];decide),if_pos h2,h3,if_pos rfl];rfl
theorem quo_none{l:List UInt8}(h:locL (l.drop 1)=none):quotedP l=([],0):=by unfold quotedP;rw[h]
theorem quo_some{l b:List UInt8}{n:Nat}(h:locL (l.drop 1)=some (b,n)):quotedP l=if b=[]then([],0)else(b,n+1):=by unfold quotedP;rw[h]
structure QoW (s:List UInt8) (w wr:World) (k:Nat) (bs:List UInt8):Prop where
 bel:Bel w wr
 bd:Lib.IsBuilder 127 5 w.heap.size w.heap.size (Lib.byteCells bs) wr
 qi:QoI s k bs
def RefJ(s:ByteArray)(w:World)(a:Act)(w':World):Prop:=a.defers=[]∧a.tmps.getD 0 undef=.string s∧a.tmps.size=55∧quotedP s.data.toList=([],0)∧Bel w w'
theorem quoted_run(s:ByteArray)(w:World)(hs:s.size≤4194304):Calls Tryz.prog 219 #[.string s] w fun e w'=>e=.returned (.tuple #[.string ⟨(quotedP s.data.toList).1.toArray⟩,.int .i64 (quotedP s.data.toList).2])∧Bel w w':=by
 have HZ:=hid (Lib.size_eq s)
 have H0:=hid (show QoI s.data.toList 1 []from⟨Nat.le_refl _,Nat.zero_le _,by cases locL (s.data.toList.drop 1)<;>rfl⟩)
 go_enter Tryz.func219,Tryz.ntmps219
 go_wp2_with fail
 refine wp_scope_jumps 0 (RefJ s w) (fun _ _=>0) rfl ?_ ?_
 ·go_wp2_with fail
  go_loopg [5] (s.size+2) (fun gg v5 wr=>∃(k:Nat) (bs:List UInt8),v5=.int .i64 k∧k+gg=s.size+3∧k≤s.size+1∧Hid (QoW s.data.toList w wr k bs))
  case atStart=>exact⟨1,[],rfl,by omega,by omega,hid ⟨(Bel.refl w).alloc _,builder_new w,H0.out⟩⟩
  case round=>
   clear H0
   obtain⟨k,bs,rfl,hk,hk2,H⟩:=hrel
   have Hk:=hid hk
   have hp:=H.out.qi.pos
   have hnum:=H.out.qi.num
   clear hk
   by_cases hlt:k<s.size
   ·have hlt':k<s.data.toList.length:=by have:=HZ.out;omega
    have HC:=hid (show s.data.toList[k]'hlt'=s[k]from rfl)
    by_cases h1:s[k]=34
    ·have b1:(((s[k]'hlt).toNat:Int)==34)=true:=byte_eq (n:=34) (by decide) h1
     have b1n:((s[k]'hlt).toNat:Int)=34:=by simpa using b1
     have HD:=hid (quo_some (H.out.qi.done hlt' (by rw[HC.out];exact h1)))
     have HB:=hid H.out.bel
     have HBD:=hid H.out.bd
     have HLn:=(show Hid (Calls Tryz.prog 105 #[.pointer (some ⟨w.heap.size,0,none⟩)] wr fun e w'=>e=.returned (.int .i64 bs.length)∧w'=wr)from by
      have:=Tryz.Builder_Len w.heap.size w.heap.size _ wr H.out.bd
      rw[show(Lib.byteCells bs).length=bs.length by simp[Lib.byteCells]]at this
      exact this)
     have HSt:=(show Hid (Calls Tryz.prog 76 #[.pointer (some ⟨w.heap.size,0,none⟩)] wr fun e w'=>e=.returned (.string ⟨bs.toArray⟩)∧Below w.heap.size wr w')from Tryz.Builder_String_any w.heap.size w.heap.size bs wr H.out.bd H.out.bel.size)
     clear h1 H
     cases bs with
     |nil=>
      have HX:=hid (show quotedP s.data.toList=([],0)from HD.out)
      have HLn:=(show Hid (Calls Tryz.prog 105 #[.pointer (some ⟨w.heap.size,0,none⟩)] wr fun e w'=>e=.returned (.int .i64 0)∧w'=wr)from HLn.out)
      clear HD HSt HBD
      go_wp2_with (first|(go_at_call 105;refine HLn.out.mono ?_;rintro e w8 ⟨rfl,rfl⟩))
      go_step3
      go_wp2_with fail
      simp+zetaDelta only[Exit.jump]
      go_ret2
      exact⟨by rw[HX.out];rfl,HB.out⟩
     |cons c bs=>
      have HX:=hid (show quotedP s.data.toList=(c::bs,k+1)from HD.out)
      have d0:decide ((0:Int)<((c::bs).length:Int))=true:=decide_eq_true (by simp only[List.length_cons];omega)
      have d0n:0<(c::bs).length:=by simp
      generalize (c::bs).length=n at HLn d0 d0n hnum
      generalize c::bs=T at HX HSt
      clear HD HBD
      go_wp2_with (first|(go_at_call 105;refine HLn.out.mono ?_;rintro e w8 ⟨rfl,rfl⟩)|(go_at_call 76;refine HSt.out.mono ?_;rintro e w9 ⟨rfl,hb9⟩))
      simp+zetaDelta only[Exit.jump]
      go_ret2
      exact⟨by rw[HX.out];rfl,Below.trans HB.out hb9⟩
    ·have b1:(((s[k]'hlt).toNat:Int)==34)=false:=byte_ne (n:=34) (by decide) h1
     have b1n:¬(((s[k]'hlt).toNat:Int)=34):=by simpa using b1
     have hks:¬k=s.size:=by omega
     have hksb:((k:Int)==(s.size:Int))=false:=by rw[beq_eq_false_iff_ne];omega
     by_cases h2:s[k]=92
     ·have b2:(((s[k]'hlt).toNat:Int)==92)=true:=byte_eq (n:=92) (by decide) h2
      by_cases hl2:k+1<s.size
      ·have hl2':k+1<s.data.toList.length:=by have:=HZ.out;omega
       have HC2:=hid (show s.data.toList[k+1]'hl2'=s[k+1]from rfl)
       have hks2:(((k:Int)+1)==(s.size:Int))=false:=by rw[beq_eq_false_iff_ne];omega
       have hks2n:¬((k:Int)+1=(s.size:Int)):=by omega
       by_cases h3:oddB s[k+1]=true
       ·have HX:=hid (quo_none (H.out.qi.eodd hl2' (by rw[HC.out];exact h2) (by rw[HC2.out];exact h3)))
        have HB:=hid H.out.bel
        unfold oddB at h3
        simp only[Bool.or_eq_true,decide_eq_true_eq]at h3
        by_cases g1:s[k+1].toNat<32
        ·have d1:decide (((s[k+1]).toNat:Int)<32)=true:=decide_eq_true (by omega)
         clear h1 h2 h3 g1 H
         go_wp2_with fail
         go_step3
         simp+zetaDelta only[Exit.inBlock,Exit.then,Exit.jump]
         exact⟨trivial,rfl,rfl,rfl,HX.out,HB.out⟩
        ·have d1:decide (((s[k+1]).toNat:Int)<32)=false:=decide_eq_false (by omega)
         have d2:decide ((126:Int)<((s[k+1]).toNat:Int))=true:=decide_eq_true (by omega)
         clear h1 h2 h3 g1 H
         go_wp2_with fail
         go_step3
         simp+zetaDelta only[Exit.inBlock,Exit.then,Exit.jump]
         exact⟨trivial,rfl,rfl,rfl,HX.out,HB.out⟩
       ·have HQ:=hid (H.out.qi.esc hl2' (by rw[HC.out];exact h2) (by rw[HC2.out];simpa using h3))
        have hno:¬(s[k+1].toNat<32)∧¬(126<s[k+1].toNat):=by
         unfold oddB at h3
         simp only[Bool.or_eq_true,decide_eq_true_eq,not_or]at h3
         exact h3
        have d1:decide (((s[k+1]).toNat:Int)<32)=false:=decide_eq_false (by omega)
        have d2:decide ((126:Int)<((s[k+1]).toNat:Int))=false:=decide_eq_false (by omega)
        have HWB:=hid (writeByte_run w.heap.size w.heap.size bs s[k+1] wr H.out.bd (by omega) H.out.bel.size)
        have HBW:=hid H.out.bel
        clear h1 h2 h3 hno H
        go_wp2_with (first|(go_at_call 75;refine HWB.out.mono ?_;rintro e w7 ⟨rfl,hbd7,hb7⟩))
        go_roundg (gk-2)
        case measure=>have:=Hk.out;omega
        case rel=>exact⟨k+2,bs++[s[k+1]],by go_num,by have:=Hk.out;omega,by omega,hid ⟨Below.trans HBW.out hb7,hbd7,HQ.out⟩⟩
      ·have HX:=hid (quo_none (H.out.qi.cut hlt' (by rw[HC.out];exact h2) (by have:=HZ.out;omega)))
       have HB:=hid H.out.bel
       have hke:k+1=s.size:=by omega
       have hks2:(((k:Int)+1)==(s.size:Int))=true:=by rw[beq_iff_eq];omega
       have hks2n:((k:Int)+1=(s.size:Int)):=by omega
       clear h1 h2 H hke
       go_wp2_with fail
       go_step3
       simp+zetaDelta only[Exit.inBlock,Exit.then,Exit.jump]
       exact⟨trivial,rfl,rfl,rfl,HX.out,HB.out⟩
     ·have b2:(((s[k]'hlt).toNat:Int)==92)=false:=byte_ne (n:=92) (by decide) h2
      by_cases h3:oddB s[k]=true
      ·have HX:=hid (quo_none (H.out.qi.odd hlt' (by rw[HC.out];exact h1) (by rw[HC.out];exact h2) (by rw[HC.out];exact h3)))
       have HB:=hid H.out.bel
       unfold oddB at h3
       simp only[Bool.or_eq_true,decide_eq_true_eq]at h3
       by_cases g1:s[k].toNat<32
       ·have d1:decide (((s[k]).toNat:Int)<32)=true:=decide_eq_true (by omega)
        clear h1 h2 h3 g1 H
        go_wp2_with fail
        go_step3
        simp+zetaDelta only[Exit.inBlock,Exit.then,Exit.jump]
        exact⟨trivial,rfl,rfl,rfl,HX.out,HB.out⟩
       ·have d1:decide (((s[k]).toNat:Int)<32)=false:=decide_eq_false (by omega)
        have d2:decide ((126:Int)<((s[k]).toNat:Int))=true:=decide_eq_true (by omega)
        clear h1 h2 h3 g1 H
        go_wp2_with fail
        go_step3
        simp+zetaDelta only[Exit.inBlock,Exit.then,Exit.jump]
        exact⟨trivial,rfl,rfl,rfl,HX.out,HB.out⟩
      ·have HQ:=hid (H.out.qi.plain hlt' (by rw[HC.out];exact h1) (by rw[HC.out];exact h2) (by rw[HC.out];simpa using h3))
       have hno:¬(s[k].toNat<32)∧¬(126<s[k].toNat):=by
        unfold oddB at h3
        simp only[Bool.or_eq_true,decide_eq_true_eq,not_or]at h3
        exact h3
       have d1:decide (((s[k]).toNat:Int)<32)=false:=decide_eq_false (by omega)
       have d2:decide ((126:Int)<((s[k]).toNat:Int))=false:=decide_eq_false (by omega)
       have HWB:=hid (writeByte_run w.heap.size w.heap.size bs s[k] wr H.out.bd (by omega) H.out.bel.size)
       have HBW:=hid H.out.bel
       clear h1 h2 h3 hno H
       go_wp2_with (first|(go_at_call 75;refine HWB.out.mono ?_;rintro e w7 ⟨rfl,hbd7,hb7⟩))
       go_roundg (gk-1)
       case measure=>have:=Hk.out;omega
       case rel=>exact⟨k+1,bs++[s[k]],by go_num,by have:=Hk.out;omega,by omega,hid ⟨Below.trans HBW.out hb7,hbd7,HQ.out⟩⟩
   ·have HX:=hid (quo_none (H.out.qi.end_ (by have:=HZ.out;omega)))
    have HB:=hid H.out.bel
    clear H
    go_wp2_with fail
    go_step3
    go_wp2_with fail
    simp+zetaDelta only[Exit.jump]
    go_ret2
    exact⟨by rw[HX.out];rfl,HB.out⟩
 ·rintro a0 w0 ⟨h1,h2,h3,h4,h5⟩
  obtain⟨A,ds⟩:=a0
  dsimp only at h1 h2 h3
  subst h1
  obtain⟨u,hu⟩:∃u:Nat→Value,u=fun i=>A.getD i undef:=⟨_,rfl⟩
  have hA:A=#[u 0,u 1,u 2,u 3,u 4,u 5,u 6,u 7,u 8,u 9,u 10,u 11,u 12,u 13,u 14,u 15,u 16,u 17,u 18,u 19,u 20,u 21,u 22,u 23,u 24,u 25,u 26,u 27,u 28,u 29,u 30,u 31,u 32,u 33,u 34,u 35,u 36,u 37,u 38,u 39,u 40,u 41,u 42,u 43,u 44,u 45,u 46,u 47,u 48,u 49,u 50,u 51,u 52,u 53,u 54]:=by
   rw[hu]
   exact(arr_lit A 55 h3).trans rfl
  rw[show A.getD 0 undef=u 0 by rw[hu]]at h2
  rw[h2]at hA
  clear hu h3
  subst hA
  clear h2
  have HX:=hid h4
  have HB:=hid h5
  clear h4 h5
  generalize u 1=u1
  generalize u 2=u2
  generalize u 3=u3
  generalize u 4=u4
  generalize u 5=u5
  generalize u 6=u6
  generalize u 7=u7
  generalize u 8=u8
  generalize u 9=u9
  generalize u 10=u10
  generalize u 11=u11
  generalize u 12=u12
  generalize u 13=u13
  generalize u 14=u14
  generalize u 15=u15
  generalize u 16=u16
  generalize u 17=u17
  generalize u 18=u18
  generalize u 19=u19
  generalize u 20=u20
  generalize u 21=u21
  generalize u 22=u22
  generalize u 23=u23
  generalize u 24=u24
  generalize u 25=u25
  generalize u 26=u26
  generalize u 27=u27
  generalize u 28=u28
  generalize u 29=u29
  generalize u 30=u30
  generalize u 31=u31
  generalize u 32=u32
  generalize u 33=u33
  generalize u 34=u34
  generalize u 35=u35
  generalize u 36=u36
  generalize u 37=u37
  generalize u 38=u38
  generalize u 39=u39
  generalize u 40=u40
  generalize u 41=u41
  generalize u 42=u42
  generalize u 43=u43
  generalize u 44=u44
  generalize u 45=u45
  generalize u 46=u46
  generalize u 47=u47
  generalize u 48=u48
  generalize u 49=u49
  generalize u 50=u50
  generalize u 51=u51
  generalize u 52=u52
  generalize u 53=u53
  generalize u 54=u54
  go_wp2_with fail
  simp+zetaDelta only[Exit.jump]
  go_ret2
  exact⟨by rw[HX.out];rfl,HB.out⟩
end Go.Proofs.YtmlmkmhkmifnkaaGreatDoor.Ma
namespace Go.Proofs.YtmlmkmhkmifnkaaGreatDoor.Ma
open Go.RowKit
open Ci (Bel Lay)
theorem front_one(s:ByteArray)(c:UInt8)(h:1≤s.size):((s.extract 0 1).toList==[c])=(s.data.toList.head?==some c):=by
 rw[ByteArray.toList_eq,ext_front]
 have hs:=Lib.size_eq s
 cases hl:s.data.toList with
 |nil=>rw[hl]at hs;simp only[List.length_nil]at hs;omega
 |cons b l=>
  simp only[List.take_succ_cons,List.take_zero,List.head?_cons]
  by_cases h:b=c
  ·subst h;simp
  ·have h1:(b==c)=false:=by simpa using h
   rw[Bool.eq_iff_iff]
   simp[h]
theorem hasPre_in(s:ByteArray)(c:UInt8)(w:World)(hs:s.size<9223372036854775807):Calls Tryz.prog 217 #[.string s,.string ⟨#[c]⟩] w fun e w'=>e=.returned (.bool (s.data.toList.head?==some c))∧Bel w w':=by
 by_cases h1:1≤s.size
 ·have HF:=hid (front_one s c h1)
  have b1:decide ((1:Int)≤(s.size:Int))=true:=decide_eq_true (by omega)
  go_enter Tryz.func217,Tryz.ntmps217
  go_wp2_with fail
  go_ret
  exact⟨by rw[←HF.out];rfl,Bel.refl w⟩
 ·have b1:decide ((1:Int)≤(s.size:Int))=false:=decide_eq_false (by omega)
  have HX:=hid (show(s.data.toList.head?==some c)=false by
   have hs:=Lib.size_eq s
   have:s.data.toList=[]:=List.eq_nil_of_length_eq_zero (by omega)
   rw[this];rfl)
  go_enter Tryz.func217,Tryz.ntmps217
  go_wp2_with fail
  go_ret
  exact⟨by rw[HX.out];rfl,Bel.refl w⟩
theorem hasPre_run(s:ByteArray)(c:UInt8)(w:World)(hs:s.size<9223372036854775807):Calls Tryz.prog 218 #[.string s,.string ⟨#[c]⟩] w fun e w'=>e=.returned (.bool (s.data.toList.head?==some c))∧Bel w w':=by
 have HI:=hid (hasPre_in s c w hs)
 generalize (s.data.toList.head?==some c)=b at HI⊢
 go_enter Tryz.func218,Tryz.ntmps218
 go_wp2_with (first|(go_at_call 217;refine HI.out.mono ?_;rintro e w1 ⟨rfl,hb1⟩))
 go_ret
 exact⟨rfl,hb1⟩
def dmL:List UInt8:=[97,98,99,100,101,102,103,104,105,106,107,108,109,110,111,112,113,114,115,116,117,118,119,120,121,122,65,66,67,68,69,70,71,72,73,74,75,76,77,78,79,80,81,82,83,84,85,86,87,88,89,90,48,49,50,51,52,53,54,55,56,57,45,46]
theorem dm_has:∀b:UInt8,dmL.contains b=(ldhB b||b==46):=u8_forall (by decide)
theorem whN_dm(l:List UInt8):whN dmL l=(l.takeWhile fun b=>ldhB b||b==46).length:=by
 unfold whN
 congr 2
 funext b
 exact dm_has b
theorem front_str(s:ByteArray)(n:Nat):s.extract 0 n=⟨(s.data.toList.take n).toArray⟩:=Ci.ext_bytes (by rw[ext_front])
theorem domText_run(s:ByteArray)(w:World)(hs:s.size≤4194304):Calls Tryz.prog 220 #[.string s] w fun e w'=>e=.returned (.string ⟨(domTextP s.data.toList).toArray⟩)∧Bel w w':=by
 have HH:=(show Hid (∀W,Calls Tryz.prog 218 #[.string s,.string ⟨#[91]⟩] W fun e w'=>e=.returned (.bool (s.data.toList.head?==some 91))∧Bel W w')from fun W=>hasPre_run s 91 W (by omega))
 have hsz:=Lib.size_eq s
 cases hb:(s.data.toList.head?==some 91)with
 |true=>
  rw[hb]at HH
  have HI:=(show Hid (∀W,Calls Tryz.prog 168 #[.string s,.int .u8 93] W fun e w'=>e=.returned (.int .i64 (Lib.indexByte s.data.toList 93))∧w'=W)from fun W=>ib_run s 93 W)
  have HD:=hid (show domTextP s.data.toList=s.data.toList.take (if 0≤Lib.indexByte s.data.toList 93 then(Lib.indexByte s.data.toList 93).toNat+1 else 0) by unfold domTextP;rw[hb,if_pos rfl])
  by_cases h0:0≤Lib.indexByte s.data.toList 93
  ·have hl:=index_lt 93 s.data.toList h0
   rw[if_pos h0]at HD
   obtain⟨i,hi⟩:∃i:Nat,Lib.indexByte s.data.toList 93=(i:Int):=⟨_,(Int.toNat_of_nonneg h0).symm⟩
   rw[hi]at HI HD hl
   rw[Int.toNat_natCast]at HD hl
   have hi2:i+1≤s.size:=by omega
   have HF:=hid (front_str s (i+1))
   clear hb h0 hi hl hsz
   go_enter Tryz.func220,Tryz.ntmps220
   go_wp2_with (first|(go_at_call 218;refine(HH.out _).mono ?_;rintro e w1 ⟨rfl,hb1⟩)|(go_at_call 168;refine(HI.out _).mono ?_;rintro e w2 ⟨rfl,rfl⟩))
   go_ret
   exact⟨by rw[HD.out,←HF.out];rfl,hb1⟩
  ·have hm:Lib.indexByte s.data.toList 93= -1:=by have:=Lib.indexByte_ge s.data.toList 93;omega
   rw[if_neg h0]at HD
   rw[hm]at HI
   clear hb h0 hm hsz
   go_enter Tryz.func220,Tryz.ntmps220
   go_wp2_with (first|(go_at_call 218;refine(HH.out _).mono ?_;rintro e w1 ⟨rfl,hb1⟩)|(go_at_call 168;refine(HI.out _).mono ?_;rintro e w2 ⟨rfl,rfl⟩))
   go_ret
   exact⟨by rw[HD.out,List.take_zero];rfl,hb1⟩
 |false=>
  rw[hb]at HH
  have HWh:=(show Hid (∀W,Calls Tryz.prog 201 #[.string s,.string ⟨dmL.toArray⟩] W fun e w'=>e=.returned (.int .i64 (whN dmL s.data.toList:Nat))∧w'=W)from fun W=>while_run s ⟨dmL.toArray⟩ W (by omega))
  have HD:=hid (show domTextP s.data.toList=s.data.toList.take (whN dmL s.data.toList) by unfold domTextP;rw[hb,if_neg Bool.false_ne_true,whN_dm])
  have hle:=whN_le dmL s.data.toList
  generalize whN dmL s.data.toList=n at HWh HD hle
  have hn:n≤s.size:=by omega
  have HF:=hid (front_str s n)
  clear hb hle hsz
  go_enter Tryz.func220,Tryz.ntmps220
  go_wp2_with (first|(go_at_call 218;refine(HH.out _).mono ?_;rintro e w1 ⟨rfl,hb1⟩)|(go_at_call 201;refine(HWh.out _).mono ?_;rintro e w2 ⟨rfl,rfl⟩))
  go_ret
  exact⟨by rw[HD.out,←HF.out];rfl,hb1⟩
end Go.Proofs.YtmlmkmhkmifnkaaGreatDoor.Ma
namespace Go.Proofs.YtmlmkmhkmifnkaaGreatDoor.Ma
open Go.RowKit
open Ci (Bel Lay)
def atdL:List UInt8:=[97,98,99,100,101,102,103,104,105,106,107,108,109,110,111,112,113,114,115,116,117,118,119,120,121,122,65,66,67,68,69,70,71,72,73,74,75,76,77,78,79,80,81,82,83,84,85,86,87,88,89,90,48,49,50,51,52,53,54,55,56,57,33,35,36,37,38,39,42,43,45,47,61,63,94,95,96,123,124,125,126,46]
def zeroP:Pt:=⟨false,[],[],false⟩
def lpP(s:List UInt8):List UInt8×Nat:=
 if s.head?==some 34 then quotedP s else if dottedQ (s.take (whN atdL s))then(s.take (whN atdL s),whN atdL s)else([],0)
def tailP(s loc:List UInt8)(n:Nat):Pt×Nat×Int:=
 if n=0 then(zeroP,0,90)
 else if(s.drop n).head?==some 64 then
  ((⟨false,loc,(domainQ (domTextP (s.drop (n+1)))).1,(domainQ (domTextP (s.drop (n+1)))).2.1⟩:Pt),n+1+(domTextP (s.drop (n+1))).length,
    if(domainQ (domTextP (s.drop (n+1)))).2.2=0 then rightP ⟨false,loc,(domainQ (domTextP (s.drop (n+1)))).1,(domainQ (domTextP (s.drop (n+1)))).2.1⟩else(domainQ (domTextP (s.drop (n+1)))).2.2)
 else if lowL (s.take n)==pmL then(⟨false,pmL,[],false⟩,n,0)else(zeroP,0,90)
def mailP(s:List UInt8):Pt×Nat×Int:=tailP s (lpP s).1 (lpP s).2
theorem locL_len:∀(l b:List UInt8) (n:Nat),locL l=some (b,n)→b.length+1≤n∧n≤l.length
 |[],_,_,h=>by cases h
 |c::t,b,n,h=>by
  unfold locL at h
  split at h
  ·obtain⟨rfl,rfl⟩:=Prod.mk.inj (Option.some.inj h)
   simp
  ·split at h
   ·match t,h with
    |[],h=>cases h
    |d::t',h=>
     simp only at h
     split at h
     ·cases h
     ·obtain⟨⟨b',n'⟩,h1,h2⟩:=Option.map_eq_some_iff.1 h
      obtain⟨rfl,rfl⟩:=Prod.mk.inj h2
      have:=locL_len t' b' n' h1
      simp only[List.length_cons]
      omega
   ·split at h
    ·cases h
    ·obtain⟨⟨b',n'⟩,h1,h2⟩:=Option.map_eq_some_iff.1 h
     obtain⟨rfl,rfl⟩:=Prod.mk.inj h2
     have:=locL_len t b' n' h1
     simp only[List.length_cons]
     omega
theorem quotedP_len(s:List UInt8):(quotedP s).1.length≤s.length∧(quotedP s).2≤s.length:=by
 unfold quotedP
 cases h:locL (s.drop 1)with
 |none=>simp
 |some x=>
  obtain⟨b,n⟩:=x
  have:=locL_len _ _ _ h
  rw[List.length_drop]at this
  simp only
  split
  ·simp
  ·simp only;omega
theorem domText_len(s:List UInt8):(domTextP s).length≤s.length:=by
 unfold domTextP
 split
 ·exact List.length_take_le' _ _
 ·exact List.length_take_le' _ _
def MbI(w W:World):Prop:=Bel w W∧W.heap[w.heap.size]?=some (.cells (ptC zeroP).toArray 26 (0,0))
theorem MbI.next{w W W':World}(h:MbI w W)(hb:Bel W W'):MbI w W':=⟨h.1.trans hb,hb.heap h.2⟩
theorem mbI_new(w:World):MbI w (w.alloc (.cells (ptC zeroP).toArray 26)):=⟨(Bel.refl w).alloc _,heap_alloc_new w _⟩
theorem load_pt{w:World}{b:Nat}{cs:List Value}{T:TypeId}(hc:w.heap[b]?=some (.cells cs.toArray T (0,0)))(hl:cs.length=4):(loadVar 26 ⟨b,0,none⟩).run Tryz.prog w=.ok (.agg cs.toArray) w:=
 run_loadVar_mid w b 0 26 cs _ (Ci.range_of hc fun j v hv=>by rw[Nat.zero_add];simpa using hv) Tryz.underlying26 rfl (by rw[hl];exact pt_size)
end Go.Proofs.YtmlmkmhkmifnkaaGreatDoor.Ma