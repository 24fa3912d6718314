import Derived.Test.YtmlmkmhkmifnkaaGreatDoorK26
import Derived.Lib.SlBytesConst
set_option maxHeartbeats 16000000
set_option maxRecDepth 1000000
namespace Go.Proofs.YtmlmkmhkmifnkaaGreatDoor.Ma
open Go.RowKit
open Ci (Bel Lay)
def mapK(g:UInt8→UInt8)(l:List UInt8)(k:Nat):List UInt8:=(l.take k).map g++l.drop k
theorem mapK_zero(g:UInt8→UInt8)(l:List UInt8):mapK g l 0=l:=by simp[mapK]
theorem mapK_len(g:UInt8→UInt8)(l:List UInt8)(k:Nat):(mapK g l k).length=l.length:=by simp[mapK];omega
theorem mapK_at(g:UInt8→UInt8)(l:List UInt8)(k:Nat)(hk:k<l.length):(mapK g l k)[k]'(by rw[mapK_len];exact hk)=l[k]:=by
 unfold mapK
 rw[List.getElem_append_right (by simp;omega)]
 simp[Nat.min_eq_left (Nat.le_of_lt hk)]
theorem mapK_next(g:UInt8→UInt8)(l:List UInt8)(k:Nat)(hk:k<l.length):mapK g l (k+1)=(mapK g l k).set k (g l[k]):=by
 unfold mapK
 refine List.ext_getElem (by simp;omega) fun i h1 h2=> ?_
 rw[List.getElem_set]
 by_cases e:k=i
 ·subst e
  rw[if_pos rfl,List.getElem_append_left (by simp;omega)]
  simp
 ·rw[if_neg e]
  rw[List.getElem_append,List.getElem_append]
  simp only[List.length_map,List.length_take]
  split<;>split<;>first|omega|(simp;done)|(simp;congr 1;omega)
theorem mapK_all(g:UInt8→UInt8)(l:List UInt8):mapK g l l.length=l.map g:=by simp[mapK]
theorem low_val{x:UInt8}(h:65≤x.toNat∧x.toNat≤90):((lowB x).toNat:Int)=(x.toNat:Int)+32:=by
 unfold lowB
 rw[if_pos h,UInt8.toNat_add]
 have e:(32:UInt8).toNat=32:=rfl
 rw[e]
 omega
theorem rlower_run(s:ByteArray)(w:World)(hs:s.size<9223372036854775807):
 Calls Tryz.prog 38 #[.string s] w fun e w'=>e=.returned (.string ⟨(lowL s.data.toList).toArray⟩)∧Bel w w':=by
 have hcv:=Lib.run_convert_string_bytes (P:=Tryz.prog) w 9 48 5 s (u:=.string) Tryz.underlying9 Tryz.underlying48 Tryz.underlying5
 have hLn:s.data.toList.length=s.size:=by rw[Lib.size_eq]
 have H0:=hid (show TuI w (Lib.bytesWorld w 5 s) (mapK lowB s.data.toList 0) 0 from by
  refine⟨Ci.bel_bytes w s,List.replicate (grownCap w s.size 0 5-s.size) (.int .u8 0),?_⟩
  rw[Lib.bytesWorld_at_new,mapK_zero]
  have e:Lib.bytesCells w 5 s=((s.data.toList.map fun(b:UInt8)=>Value.int .u8 (b.toNat:Int))++List.replicate (grownCap w s.size 0 5-s.size) (Value.int .u8 0)).toArray:=by
   unfold Lib.bytesCells
   simp
  rw[e]
  simp)
 generalize grownCap w s.size 0 5=cap at hcv H0
 obtain⟨W1,hW1⟩:∃W1,W1=Lib.bytesWorld w 5 s:=⟨_,rfl⟩
 rw[←hW1]at hcv H0
 have HLn:=hid hLn
 clear hW1 hLn
 go_enter Tryz.func38,Tryz.ntmps38
 go_wp2_with fail
 go_loopg [4] s.size (fun gg v4 wr=>∃k:Nat,v4=.int .i64 k∧k+gg=s.size∧Hid (TuI w wr (mapK lowB s.data.toList k) 0))
 case atStart=>exact⟨0,rfl,by omega,H0⟩
 case round=>
  clear H0
  obtain⟨k,rfl,hk,H⟩:=hrel
  have hkn:k≤s.size:=by omega
  by_cases hlt:k<s.size
  ·have hlt':k<s.data.toList.length:=by rw[HLn.out];exact hlt
   have hkl:k<(mapK lowB s.data.toList k).length:=by rw[mapK_len];exact hlt'
   have c0:=H.out.cell hkl
   rw[mapK_at _ _ _ hlt']at c0
   have f0:=H.out.free hkl
   have HN:=hid (mapK_next lowB s.data.toList k hlt')
   have HS:=(show Hid (∀x,TuI w (wr.setCell ⟨w.heap.size,k,none⟩ (.int .u8 ((x:UInt8).toNat:Int))) ((mapK lowB s.data.toList k).set k x) 0)from fun x=>H.out.set k hkl x)
   have HA:=hid (show(mapK lowB s.data.toList k).set k s.data.toList[k]=mapK lowB s.data.toList k from by
    have e:=mapK_at lowB s.data.toList k hlt'
    rw[←e]
    exact List.set_getElem_self hkl)
   clear hkl
   generalize s.data.toList[k]=x at c0 HN HA
   by_cases h65:65≤x.toNat
   ·have b1:decide ((65:Int)≤(x.toNat:Int))=true:=decide_eq_true (by omega)
    by_cases h90:x.toNat≤90
    ·have b2:decide ((x.toNat:Int)≤90)=true:=decide_eq_true (by omega)
     have hv:=low_val ⟨h65,h90⟩
     have HS1:=(show Hid (TuI w (wr.setCell ⟨w.heap.size,k,none⟩ (.int .u8 ((x.toNat:Int)+32))) ((mapK lowB s.data.toList k).set k (lowB x)) 0)from by rw[←hv];exact HS.out _)
     have hw8:((x.toNat:Int)+32)%256=(x.toNat:Int)+32:=by omega
     clear hv
     go_wp2_with fail
     go_roundg (gk-1)
     case measure=>omega
     case rel=>exact⟨k+1,by go_num,by omega,hid (by rw[HN.out];exact HS1.out)⟩
    ·have b2:decide ((x.toNat:Int)≤90)=false:=decide_eq_false (by omega)
     have HE:=hid (show lowB x=x by unfold lowB;rw[if_neg (by omega)])
     go_wp2_with fail
     go_roundg (gk-1)
     case measure=>omega
     case rel=>exact⟨k+1,by go_num,by omega,hid (by rw[HN.out,HE.out,HA.out];exact H.out)⟩
   ·have b1:decide ((65:Int)≤(x.toNat:Int))=false:=decide_eq_false (by omega)
    have HE:=hid (show lowB x=x by unfold lowB;rw[if_neg (by omega)])
    go_wp2_with fail
    go_roundg (gk-1)
    case measure=>omega
    case rel=>exact⟨k+1,by go_num,by omega,hid (by rw[HN.out,HE.out,HA.out];exact H.out)⟩
  ·obtain rfl:k=s.size:=by omega
   have HF:=hid (show mapK lowB s.data.toList s.size=lowL s.data.toList by rw[←HLn.out];exact mapK_all _ _)
   have hcb:(convert 48 9 (.slice (some ⟨w.heap.size,0,none⟩) s.size cap)).run Tryz.prog wr=.ok (.string ⟨(lowL s.data.toList).toArray⟩) wr:=by
    have hl:(lowL s.data.toList).length=s.size:=by unfold lowL;rw[List.length_map,HLn.out]
    rw[←hl]
    refine run_convert_bytes_back wr 48 9 5 ⟨w.heap.size,0,none⟩ cap _ Tryz.underlying48 Tryz.underlying5 Tryz.underlying9 fun j hj=> ?_
    have H2:=H.out
    rw[HF.out]at H2
    rw[Ci.addr_add,Nat.zero_add]
    exact H2.cell hj
   go_wp2_with fail
   go_ret
   exact⟨rfl,H.out.bel⟩
def digB(b:UInt8):Bool:=decide ((48:Int)≤(b.toNat:Int))&&decide ((b.toNat:Int)≤57)
end Go.Proofs.YtmlmkmhkmifnkaaGreatDoor.Ma
namespace Go.Proofs.YtmlmkmhkmifnkaaGreatDoor.Tb
open Go.RowKit
open Ci (Bel hid)
open Ma (lowL lowB)
def isA(nm:List UInt8):Bool:=nmsL.any fun n=>decide (lowL n=lowL nm)
theorem look_any(f:Nat→ByteArray)(v:Value)(s:ByteArray):∀ks:List Nat,lookS (ks.map fun i=>(f i,v)) s=if(ks.any fun i=>decide (f i=s))=true then some v else none
 |[]=>rfl
 |k::ks=>by
  have ih:=look_any f v s ks
  unfold lookS at ih⊢
  rw[List.map_cons,List.find?_cons,List.any_cons]
  by_cases h:f k=s
  ·simp[h]
  ·simp only[h,decide_false,Bool.false_or]
   exact ih
theorem low_same:∀b:UInt8,b.toNat<128→Lib.lowerB b=lowB b:=Ma.u8_forall (by decide+kernel)
theorem low_ascii{l:List UInt8}(h:∀b∈l,b.toNat<128):Lib.toLowerA l=lowL l:=by
 unfold Lib.toLowerA lowL
 exact List.map_congr_left fun b hb=>low_same b (h b hb)
theorem fld_is(nm:List UInt8):lookS (fldL 12) ⟨(lowL nm).toArray⟩=if isA nm=true then some (.bool true)else none:=by
 have e:nmsL=(List.range 12).map fun k=>(nmsL[k]?).getD []:=by decide+kernel
 have e2:isA nm=(List.range 12).any fun k=>decide (lowN k=⟨(lowL nm).toArray⟩):=by
  unfold isA
  conv=>lhs;rw[e]
  rw[List.any_map]
  apply Bool.eq_iff_iff.2
  rw[List.any_eq_true,List.any_eq_true]
  have hk:∀k,k<12→lowN k=⟨(lowL ((nmsL[k]?).getD [])).toArray⟩:=fun k hk=>by
   unfold lowN
   rw[low_ascii (nms_ascii k hk)]
  have key:∀k∈List.range 12,((fun n=>decide (lowL n=lowL nm))∘fun k=>(nmsL[k]?).getD []) k=decide (lowN k=⟨(lowL nm).toArray⟩):=fun k hkr=>by
   rw[hk k (List.mem_range.1 hkr)]
   show decide _=decide _
   rw[decide_eq_decide]
   exact⟨fun e=>by rw[e],fun e=>by have:=congrArg (fun z:ByteArray=>z.data.toList) e;simpa using this⟩
  exact⟨fun⟨k,h1,h2⟩=>⟨k,h1,by rw[←key k h1];exact h2⟩,fun⟨k,h1,h2⟩=>⟨k,h1,by rw[key k h1];exact h2⟩⟩
 rw[e2]
 exact look_any lowN (.bool true) _ _
theorem tolow_run(s:ByteArray)(hs:s.size<35184372088832)(ha:∀b∈s.data.toList,b.toNat<128)(w:World):Calls Tryz.prog 31 #[.string s] w fun e w'=>e=.returned (.string ⟨(lowL s.data.toList).toArray⟩)∧Bel w w':=by
 have:=Tryz.strings_ToLower_ascii s w (by omega) (fun j b hb=>ha b (List.mem_of_getElem? hb))
 rw[low_ascii ha]at this
 exact this
theorem same_run(a b:ByteArray)(w:World)(ha:a.size<9223372036854775807)(hb:b.size<9223372036854775807):Calls Tryz.prog 62 #[.string a,.string b] w fun e w'=>e=.returned (.bool (decide (lowL a.data.toList=lowL b.data.toList)))∧Bel w w':=by
 have H1:=(show Hid (∀W,Calls Tryz.prog 38 #[.string a] W fun e w'=>e=.returned (.string ⟨(lowL a.data.toList).toArray⟩)∧Bel W w')from hid fun W=>Ma.rlower_run a W ha)
 have H2:=(show Hid (∀W,Calls Tryz.prog 38 #[.string b] W fun e w'=>e=.returned (.string ⟨(lowL b.data.toList).toArray⟩)∧Bel W w')from hid fun W=>Ma.rlower_run b W hb)
 obtain⟨x,hx⟩:∃x:ByteArray,x=⟨(lowL a.data.toList).toArray⟩:=⟨_,rfl⟩
 obtain⟨y,hy⟩:∃y:ByteArray,y=⟨(lowL b.data.toList).toArray⟩:=⟨_,rfl⟩
 have HE:=hid (show(x.toList==y.toList)=decide (lowL a.data.toList=lowL b.data.toList) by
  rw[Lib.toList_data,Lib.toList_data,hx,hy]
  apply Bool.eq_iff_iff.2
  rw[decide_eq_true_iff]
  exact beq_iff_eq)
 rw[←hx]at H1
 rw[←hy]at H2
 clear hx hy
 go_enter Tryz.func62,Tryz.ntmps62
 go_wp2_with (first|(go_at_call 38;with_reducible refine(H1.out _).mono ?_;rintro _ w1 ⟨rfl,hb1⟩;have HB1:=hid hb1;clear hb1 H1)|(go_at_call 38;with_reducible refine(H2.out _).mono ?_;rintro _ w2 ⟨rfl,hb2⟩;have HB2:=hid hb2;clear hb2))
 go_ret
 exact⟨by rw[←HE.out];rfl,HB1.out.trans HB2.out⟩
theorem isaddr_run(s:ByteArray)(w:World)(hs:s.size<9223372036854775807):Calls Tryz.prog 24 #[.string s] w fun e w'=>e=.returned (.bool (isA s.data.toList))∧Bel w w':=by
 have HN:=hid (rnames_run w)
 obtain⟨r,hr⟩:∃r,r=isA s.data.toList:=⟨_,rfl⟩
 have HR:=hid hr
 rw[←hr]
 clear hr
 obtain⟨W1,hW1⟩:∃W1,W1=w.alloc (.cells nmsV.toArray 9):=⟨_,rfl⟩
 have HB1:=hid (show Bel w W1 by rw[hW1];exact(Bel.refl w).alloc _)
 have HC1:=hid (show W1.heap[w.heap.size]?=some (.cells nmsV.toArray 9 (0,0)) by rw[hW1];exact heap_alloc_new w _)
 rw[←hW1]at HN
 clear hW1
 go_enter Tryz.func24,Tryz.ntmps24
 go_wp2_with (first|(go_at_call 16;with_reducible refine HN.out.mono ?_;rintro _ w1 ⟨rfl,rfl⟩))
 go_loopg [4] 12 (fun gg v4 wr=>∃k:Nat,v4=.int .i64 k∧k+gg=12∧Hid (Bel w1 wr∧((nmsL.take k).any fun n=>decide (lowL n=lowL s.data.toList))=false))
 case atStart=>exact⟨0,rfl,by omega,hid ⟨Bel.refl _,rfl⟩⟩
 case round=>
  obtain⟨k,rfl,hk,H⟩:=hrel
  have HK:=hid hk
  have hk12:k≤12:=by omega
  clear hk
  by_cases hlt:k<12
  ·have i1:(k:Int)<12:=by omega
   have hl:k<nmsL.length:=hlt
   obtain⟨n,hn⟩:∃n:ByteArray,n=⟨((nmsL[k]?).getD []).toArray⟩:=⟨_,rfl⟩
   have hnd:n.data.toList=nmsL[k]'hl:=by rw[hn,List.getElem?_eq_getElem hl];rfl
   have c0:wr.cell? ⟨w.heap.size,k,none⟩=some (.string n):=by
    rw[Lib.cell_of_heap (H.out.1.heap HC1.out),hn]
    exact nms_at k hlt
   have hnz:n.size<9223372036854775807:=by
    have:∀k,k<12→((nmsL[k]?).getD []).length≤20:=by decide+kernel
    have:=this k hlt
    rw[hn]
    show((nmsL[k]?).getD []).toArray.size<_
    rw[List.size_toArray];omega
   have HS:=hid (same_run n s wr hnz hs)
   have HT:=hid (show nmsL.take (k+1)=nmsL.take k++[n.data.toList] by rw[hnd];exact List.take_succ_eq_append_getElem hl)
   have HMem:=hid (show n.data.toList∈nmsL by rw[hnd];exact List.getElem_mem hl)
   clear hn hnd hnz
   by_cases he:lowL n.data.toList=lowL s.data.toList
   ·have HF:=hid (show r=true by rw[HR.out];unfold isA;rw[List.any_eq_true];exact⟨_,HMem.out,decide_eq_true he⟩)
    rw[decide_eq_true he]at HS
    clear he
    go_wp2_with (first|(go_at_call 62;with_reducible refine HS.out.mono ?_;rintro _ w3 ⟨rfl,hb3⟩;have HB3:=hid hb3;clear hb3))
    go_ret
    exact⟨by rw[HF.out];rfl,HB1.out.trans (H.out.1.trans HB3.out)⟩
   ·have HA:=hid (show((nmsL.take (k+1)).any fun n=>decide (lowL n=lowL s.data.toList))=false by rw[HT.out,List.any_append,H.out.2];simp[he])
    rw[decide_eq_false he]at HS
    clear he
    go_wp2_with (first|(go_at_call 62;with_reducible refine HS.out.mono ?_;rintro _ w3 ⟨rfl,hb3⟩;have HB3:=hid hb3;clear hb3))
    go_roundg (gk-1)
    case measure=>have:=HK.out;omega
    case rel=>exact⟨k+1,by go_num,by have:=HK.out;omega,hid ⟨H.out.1.trans HB3.out,HA.out⟩⟩
  ·obtain rfl:k=12:=by omega
   have HF:=hid (show r=false by rw[HR.out];exact H.out.2)
   go_wp2_with fail
   go_ret
   exact⟨by rw[HF.out];rfl,HB1.out.trans H.out.1⟩
end Go.Proofs.YtmlmkmhkmifnkaaGreatDoor.Tb
namespace Go.Proofs.YtmlmkmhkmifnkaaGreatDoor.Hs
open Go.RowKit
open Ci (hid Bel own_bel own_base row_shape addr_add Lay)
theorem concat_run (b:Nat) (p1 p2 p3:Option Addr) (c1 c2 c3:Nat) (l1 l2 l3:List UInt8) (T:TypeId) (w:World) (hc:w.heap[b]?=some (.cells #[.slice p1 l1.length c1,.slice p2 l2.length c2,.slice p3 l3.length c3] T (0,0)))
 (h1:Br w p1 c1 l1) (h2:Br w p2 c2 l2) (h3:Br w p3 c3 l3) (h0:0<l1.length) (hs:l1.length+l2.length+l3.length≤1099511627776):
 Calls Tryz.prog 54 #[.slice (some ⟨b,0,none⟩) 3 3] w fun e w'=>∃q d,e=.returned (.slice q (l1++l2++l3).length d)∧Bel w w'∧Br w' q d (l1++l2++l3):=by
 have hx:∀W:World,Bel w W→W.cell? ⟨b,0,none⟩=some (.slice p1 l1.length c1)∧W.cell? ⟨b,1,none⟩=some (.slice p2 l2.length c2)∧W.cell? ⟨b,2,none⟩=some (.slice p3 l3.length c3):=fun W hW=>by
  have:=hW.heap hc
  simp[World.cell?,this]
 have HX:=hid hx
 have H1:=hid h1
 have H2:=hid h2
 have H3:=hid h3
 obtain⟨n1,hn1⟩:∃n1,n1=l1.length:=⟨_,rfl⟩
 obtain⟨n2,hn2⟩:∃n2,n2=l2.length:=⟨_,rfl⟩
 obtain⟨n3,hn3⟩:∃n3,n3=l3.length:=⟨_,rfl⟩
 have HN:=hid (And.intro hn1 (And.intro hn2 hn3))
 rw[←hn1,←hn2,←hn3]at HX hs
 rw[←hn1]at h0
 have e1:=h1.le;have e2:=h2.le;have e3:=h3.le
 have f1:=h1.lt;have f2:=h2.lt;have f3:=h3.lt
 rw[←hn1]at e1
 rw[←hn2]at e2
 rw[←hn3]at e3
 obtain⟨M,hM⟩:∃M,M=n1+n2:=⟨_,rfl⟩
 obtain⟨S,hS⟩:∃S,S=M+n3:=⟨_,rfl⟩
 have HG:=hid (show∀W,Calls Tryz.prog 114 #[.slice none 0 0,.int .i64 S] W fun e w'=>∃v,e=.returned v∧Bel W w'∧Ob W w' v []from fun W=>grow0_run S W (by omega) (by omega))
 have g1:(n1:Int)+(n2:Int)=(M:Int):=by omega
 have g2:(M:Int)+(n3:Int)=(S:Int):=by omega
 have g3:IntKind.i64.wrap (M:Int)=(M:Int):=IntWalk.i64_in _ (by omega)
 have g4:IntKind.i64.wrap (S:Int)=(S:Int):=IntWalk.i64_in _ (by omega)
 have g5:IntKind.i64.wrap (n1:Int)=(n1:Int):=IntWalk.i64_in _ (by omega)
 have hS63:S≤1099511627776:=by omega
 obtain⟨c0,c1',c2'⟩:=HX.out w (Bel.refl w)
 clear hc hx h1 h2 h3 hn1 hn2 hn3 hS hM
 go_enter Tryz.func54,Tryz.ntmps54
 go_wp2_with fail
 go_loopg [3,11] 3 (fun gg v3 v11 wr=>∃(k:Nat) (j z:Int),v11=.int .i64 j∧v3=.int .i64 z∧k+gg=3∧j=(k:Int)∧Hid (wr=w∧(z:Int)=(if k=0 then 0 else if k=1 then(n1:Int)else if k=2 then(M:Int)else(S:Int))))
 case atStart=>exact⟨0,0,0,rfl,rfl,rfl,rfl,hid ⟨rfl,rfl⟩⟩
 case round=>
  obtain⟨k,j,z,rfl,rfl,hk,hj,H⟩:=hrel
  have ew:=H.out.1.symm
  have hz:=H.out.2
  clear H
  subst ew
  have hk3:k≤3:=by omega
  rcases(show k=0∨k=1∨k=2∨k=3 by omega)with rfl|rfl|rfl|rfl
  ·have hz2:z=0:=hz
   have hj2:j=0:=hj
   clear hz hj
   subst hz2
   subst hj2
   have HK:=hid hk
   clear hk hk3
   go_wp2_with fail
   go_roundg (gk-1)
   case measure=>have:=HK.out;omega
   case rel=>exact⟨1,1,(n1:Int),by rfl,by first|rfl|go_num,by have:=HK.out;omega,rfl,hid ⟨rfl,rfl⟩⟩
  ·have hz2:z=(n1:Int):=hz
   have hj2:j=1:=hj
   clear hz hj
   subst hz2
   subst hj2
   have HK:=hid hk
   clear hk hk3
   go_wp2_with fail
   go_roundg (gk-1)
   case measure=>have:=HK.out;omega
   case rel=>exact⟨2,2,(M:Int),by rfl,by first|rfl|go_num,by have:=HK.out;omega,rfl,hid ⟨rfl,rfl⟩⟩
  ·have hz2:z=(M:Int):=hz
   have hj2:j=2:=hj
   clear hz hj
   subst hz2
   subst hj2
   have HK:=hid hk
   clear hk hk3
   go_wp2_with fail
   go_roundg (gk-1)
   case measure=>have:=HK.out;omega
   case rel=>exact⟨3,3,(S:Int),by rfl,by first|rfl|go_num,by have:=HK.out;omega,rfl,hid ⟨rfl,rfl⟩⟩
  ·have hz2:z=(S:Int):=hz
   have hj2:j=3:=hj
   clear hz hj
   subst hz2
   subst hj2
   clear hk hk3
   go_wp2_with (first|(go_at_call 114;with_reducible refine(HG.out _).mono ?_;rintro _ w2 ⟨v2,rfl,hb2,ho2⟩;have HB2:=hid hb2;have HO2:=hid ho2;clear hb2 ho2))
   go_loopg [6,27] 3 (fun gg v6 v27 wr=>∃(k:Nat) (j:Int),v27=.int .i64 j∧k+gg=3∧j=(k:Int)∧Hid (Bel w wr∧Ob w wr v6 (if k=0 then[]else if k=1 then l1 else if k=2 then l1++l2 else l1++l2++l3)))
   case atStart=>exact⟨0,0,rfl,rfl,rfl,hid ⟨HB2.out,HO2.out⟩⟩
   case round=>
    obtain⟨k,j,rfl,hk,hj,H⟩:=hrel
    have hk3:k≤3:=by omega
    rcases(show k=0∨k=1∨k=2∨k=3 by omega)with rfl|rfl|rfl|rfl
    ·have hj2:j=0:=hj
     have HK:=hid hk
     clear hj hk hk3
     subst hj2
     have HB:=hid H.out.1
     have HO:=hid (show Ob w wr u6 []from H.out.2)
     obtain⟨d0,d1,d2⟩:=HX.out wr HB.out
     clear H
     go_wp2_with (first|(at_builtin;refine wpList_append_bs (a0:=w) (W:=wr) rfl (.tmp 31) (.tmp 32) rfl u6 [] l1 p1 c1 rfl HO.out HB.out (by show Value.slice p1 n1 c1=_;rw[HN.out.1]) (H1.out.next HB.out) (by have h1:=HN.out.1;have h2:=HN.out.2.1;have h3:=HN.out.2.2;(try simp only[List.length_nil]);omega) ?_;intro v9 w9 ho9 hb9 hg9;have HO9:=hid ho9;have HB9:=hid hb9;clear ho9 hb9 hg9))
     go_roundg (gk-1)
     case measure=>have:=HK.out;omega
     case rel=>exact⟨1,1,by rfl,by have:=HK.out;omega,rfl,hid ⟨HB9.out,HO9.out⟩⟩
    ·have hj2:j=1:=hj
     have HK:=hid hk
     clear hj hk hk3
     subst hj2
     have HB:=hid H.out.1
     have HO:=hid (show Ob w wr u6 l1 from H.out.2)
     obtain⟨d0,d1,d2⟩:=HX.out wr HB.out
     clear H
     go_wp2_with (first|(at_builtin;refine wpList_append_bs (a0:=w) (W:=wr) rfl (.tmp 31) (.tmp 32) rfl u6 l1 l2 p2 c2 rfl HO.out HB.out (by show Value.slice p2 n2 c2=_;rw[HN.out.2.1]) (H2.out.next HB.out) (by have h1:=HN.out.1;have h2:=HN.out.2.1;have h3:=HN.out.2.2;(try simp only[List.length_append,List.length_nil]);omega) ?_;intro v9 w9 ho9 hb9 hg9;have HO9:=hid ho9;have HB9:=hid hb9;clear ho9 hb9 hg9))
     go_roundg (gk-1)
     case measure=>have:=HK.out;omega
     case rel=>exact⟨2,2,by rfl,by have:=HK.out;omega,rfl,hid ⟨HB9.out,HO9.out⟩⟩
    ·have hj2:j=2:=hj
     have HK:=hid hk
     clear hj hk hk3
     subst hj2
     have HB:=hid H.out.1
     have HO:=hid (show Ob w wr u6 (l1++l2)from H.out.2)
     obtain⟨d0,d1,d2⟩:=HX.out wr HB.out
     clear H
     go_wp2_with (first|(at_builtin;refine wpList_append_bs (a0:=w) (W:=wr) rfl (.tmp 31) (.tmp 32) rfl u6 (l1++l2) l3 p3 c3 rfl HO.out HB.out (by show Value.slice p3 n3 c3=_;rw[HN.out.2.2]) (H3.out.next HB.out) (by have h1:=HN.out.1;have h2:=HN.out.2.1;have h3:=HN.out.2.2;(try simp only[List.length_append]);omega) ?_;intro v9 w9 ho9 hb9 hg9;have HO9:=hid ho9;have HB9:=hid hb9;clear ho9 hb9 hg9))
     go_roundg (gk-1)
     case measure=>have:=HK.out;omega
     case rel=>exact⟨3,3,by rfl,by have:=HK.out;omega,rfl,hid ⟨HB9.out,HO9.out⟩⟩
    ·have hj2:j=3:=hj
     clear hj hk hk3
     subst hj2
     have HB:=hid H.out.1
     have HO:=hid (show Ob w wr u6 (l1++l2++l3)from H.out.2)
     clear H
     go_wp2_with fail
     go_ret
     obtain⟨q,d,hv,-,-⟩:=row_shape HO.out
     subst hv
     exact⟨q,d,rfl,HB.out,HO.out.read.2⟩
end Go.Proofs.YtmlmkmhkmifnkaaGreatDoor.Hs
namespace Go.Proofs.YtmlmkmhkmifnkaaGreatDoor.Hs
open Go.RowKit
open Ci (hid Bel own_bel own_base row_shape addr_add Lay)
open Ma (step_append_run)
theorem clip_run(x:Option Addr)(n c:Nat)(w:World)(h:n≤c)(_hc:c≤9223372036854775807):Calls Tryz.prog 113 #[.slice x n c] w fun e w'=>e=.returned (.slice x n n)∧w'=w:=by
 go_enter Tryz.func113,Tryz.ntmps113
 have i1:(n:Int)≤(c:Int):=by omega
 cases x with
 |none=>
  go_wp2_with fail
  go_ret
  exact⟨rfl,rfl⟩
 |some a=>
  go_wp2_with fail
  go_ret
  exact⟨rfl,rfl⟩
def FdR(W:World)(v:Value)(L:List Fd):Prop:=∃x c,v=.slice x L.length c∧L.length≤c∧c≤9223372036854775807∧(L≠[]→∃g,x=some ⟨g,0,none⟩∧∀j u,(fdCs L)[j]?=some u→W.cell? ⟨g,j,none⟩=some u)
theorem Fds.read{a W:World}{v:Value}{L:List Fd}(h:Fds a W v L):FdR W v L:=by
 obtain⟨x,c,rfl,h1,h2⟩:=row_shape h
 refine⟨x,c,rfl,h1,h2,fun hne=> ?_⟩
 obtain⟨g,cp,e,h3,h4⟩:=fds_at h hne
 cases e
 refine⟨g,rfl,fun j u hu=> ?_⟩
 have hj:j<L.length*4:=by rw[←fdCs_len];exact(List.getElem?_eq_some_iff.1 hu).1
 rw[World.ownsRow.cellAt h j hj];exact hu
theorem FdR.clip{W:World}{x:Option Addr}{n c:Nat}{L:List Fd}(h:FdR W (.slice x n c) L):FdR W (.slice x n n) L:=by
 obtain⟨x',c',e,h1,h2,h3⟩:=h
 cases e
 exact⟨x,_,rfl,Nat.le_refl _,by omega,h3⟩
theorem bs_drop{W:World}{b o:Nat}{l:List UInt8}(hc:∀i (h:i<l.length),W.cell? ⟨b,o+i,none⟩=some (.int .u8 (l[i].toNat:Int)))(k:Nat):Bs W (some ⟨b,o+k,none⟩) (l.drop k):=by
 have:=bs_sub hc k (l.length-k)
 rwa[List.take_of_length_le (by rw[List.length_drop];omega)]at this
theorem bs_two(W:World):Bs (W.alloc (.cells #[.int .u8 13,.int .u8 10] 5 (2,3))) (some ⟨W.heap.size,0,none⟩) [13,10]:=fun _=>⟨_,0,rfl,fun i hi=>by
 have e:=heap_alloc_new W (.cells #[.int .u8 13,.int .u8 10] 5 (2,3))
 simp only[World.cell?,e]
 match i,hi with
 |0,_=>rfl
 |1,_=>rfl⟩
theorem bs_one(W:World):Bs (W.alloc (.cells #[.int .u8 58] 5 (1,2))) (some ⟨W.heap.size,0,none⟩) [58]:=fun _=>⟨_,0,rfl,fun i hi=>by
 have e:=heap_alloc_new W (.cells #[.int .u8 58] 5 (1,2))
 simp only[World.cell?,e]
 match i,hi with
 |0,_=>rfl⟩
theorem fromV_eq(b o n c j:Nat):Lib.fromV (some ⟨b,o,none⟩) n c j=.slice (some ⟨b,if c=j then o else o+j,none⟩) (n-j) (c-j):=by
 unfold Lib.fromV
 split
 ·rfl
 ·simp[addr_add]
theorem fds_ext2{a W:World}{g cp n:Nat}{A:List Fd}{f:Fd}(h:Fds a W (.slice (some ⟨g,0,none⟩) (n+1) cp) (A++[f]))(hn:A.length=n)(X:Nat)(s:List UInt8):
 Fds a ((W.setCell ⟨g,n*4+1,none⟩ (.string ⟨s.toArray⟩)).setCell ⟨g,n*4+3,none⟩ (.int .i64 X)).drew (.slice (some ⟨g,0,none⟩) (n+1) cp) (A++[⟨f.nm,s,f.fr,X⟩]):=by
 have hl:(A++[f]).length=n+1:=by simp[hn]
 have hl2:(A++[(⟨f.nm,s,f.fr,X⟩:Fd)]).length=n+1:=by simp[hn]
 unfold Fds at h⊢
 rw[hl]at h
 rw[hl2]
 have h2:=(World.ownsRow.stored (World.ownsRow.stored h (n*4+1) (.string ⟨s.toArray⟩)).1 (n*4+3) (.int .i64 X)).1
 have e:((fdCs (A++[f])).set (n*4+1) (.string ⟨s.toArray⟩)).set (n*4+3) (.int .i64 X)=fdCs (A++[⟨f.nm,s,f.fr,X⟩]):=by
  have hA:(fdCs A).length=n*4:=by rw[fdCs_len,hn]
  have e1:∀x:Fd,fdCs [x]=fdC x:=fun x=>by simp[fdCs]
  rw[fdCs_app,fdCs_app,e1,e1,List.set_append,if_neg (by omega),List.set_append,if_neg (by omega),hA]
  have e2:n*4+3-n*4=3:=by omega
  have e3:n*4+1-n*4=1:=by omega
  rw[e2,e3]
  rfl
 rw[e]at h2
 exact h2.drew
theorem nameN_eq(T:List UInt8):nameN T=if colN T<T.length∧nameQ (T.take (colN T))=true then some (colN T)else none:=by
 by_cases h:colN T<T.length
 ·have e:=nameQ_take h rfl
  by_cases h2:nameQ (T.take (colN T))=true
  ·rw[if_pos ⟨h,h2⟩]
   rw[if_pos h2]at e
   unfold colI at e
   cases hn:nameN T with
   |none=>rw[hn]at e;simp only at e;omega
   |some c=>rw[hn]at e;simp only at e;congr 1;omega
  ·rw[if_neg (fun hh=>h2 hh.2)]
   rw[if_neg h2]at e
   exact colI_not (by rw[e];decide)
 ·rw[if_neg (fun hh=>h hh.1)]
  unfold nameN
  rw[if_neg (fun hh=>h hh.1)]
theorem cut_line(b o c:Nat)(d:List UInt8)(W:World)(hw:Lay W)(hb:Bs W (some ⟨b,o,none⟩) d)(hc:d.length≤c)(hs:d.length<4294967281):
 Calls Tryz.prog 110 #[.slice (some ⟨b,o,none⟩) d.length c,.slice (some ⟨W.heap.size,0,none⟩) 2 2] (W.alloc (.cells #[.int .u8 13,.int .u8 10] 5 (2,3))) fun e w'=>(∃v,e=.returned (.tuple #[.slice (some ⟨b,o,none⟩) (lineN d) c,v,.bool (decide (lineN d<d.length))]))∧Bel W w':=by
 have hbl:=(Bel.refl W).alloc (.cells #[.int .u8 13,.int .u8 10] 5 (2,3))
 refine(cut_bytes_run _ _ d [13,10] c 2 _ (hw.next hbl) (hb.next hbl) (bs_two W) (fun e=>by cases e) hc hs (by decide)).mono ?_
 rintro e w' ⟨rfl,h⟩
 refine⟨?_,hbl.trans h⟩
 rw[index_line]
 unfold Lib.cutV
 by_cases hl:lineN d<d.length
 ·rw[if_pos hl,if_pos (by omega),decide_eq_true hl]
  exact⟨_,rfl⟩
 ·have:lineN d=d.length:=by have:=lineN_le d;omega
  rw[if_neg hl,if_neg (by decide),decide_eq_false hl,this]
  exact⟨_,rfl⟩
theorem cut_col(b o c:Nat)(d:List UInt8)(W:World)(hw:Lay W)(hb:Bs W (some ⟨b,o,none⟩) d)(hc:d.length≤c)(hs:d.length<4294967281):
 Calls Tryz.prog 110 #[.slice (some ⟨b,o,none⟩) d.length c,.slice (some ⟨W.heap.size,0,none⟩) 1 1] (W.alloc (.cells #[.int .u8 58] 5 (1,2))) fun e w'=>(∃v1 v2,e=.returned (.tuple #[v1,v2,.bool (decide (colN d<d.length))])∧(colN d<d.length→v1=.slice (some ⟨b,o,none⟩) (colN d) c∧v2=.slice (some ⟨b,if c=colN d+1 then o else o+(colN d+1),none⟩) (d.length-(colN d+1)) (c-(colN d+1))))∧Bel W w':=by
 have hbl:=(Bel.refl W).alloc (.cells #[.int .u8 58] 5 (1,2))
 refine(cut_bytes_run _ _ d [58] c 1 _ (hw.next hbl) (hb.next hbl) (bs_one W) (fun e=>by cases e) hc hs (by decide)).mono ?_
 rintro e w' ⟨rfl,h⟩
 refine⟨?_,hbl.trans h⟩
 rw[index_col]
 unfold Lib.cutV
 by_cases hl:colN d<d.length
 ·rw[if_pos hl,if_pos (by omega),decide_eq_true hl]
  exact⟨_,_,rfl,fun _=>⟨rfl,fromV_eq _ _ _ _ _⟩⟩
 ·rw[if_neg hl,if_neg (by decide),decide_eq_false hl]
  exact⟨_,_,rfl,fun h=>absurd h hl⟩
theorem hsplit_run(p:Option Addr)(l:List UInt8)(c:Nat)(w:World)(hw:Lay w)(hb:Bs w p l)(hs:l.length<4294967281)(hcap:l.length≤c)(hc63:c≤9223372036854775807):
 Calls Tryz.prog 52 #[.slice p l.length c] w fun e w'=>∃v,e=.returned (if tooI (spl l (l.length+1) 0 []).1=0 then .tuple #[v,.int .i64 ((spl l (l.length+1) 0 []).2:Int),.int .i64 0]else .tuple #[.slice none 0 0,.int .i64 0,.int .i64 (tooI (spl l (l.length+1) 0 []).1)])∧Bel w w'∧FdR w' v (spl l (l.length+1) 0 []).1:=by
 have HB:=hid hb
 have HW:=hid hw
 have HF:=hid (show∀S r,Dec l S r→spl l (l.length+1) 0 []=(fds 0 S,(fl S).length+stopAt r)from fun S r h=>splits_of h)
 obtain⟨F,hF⟩:∃F,F=(spl l (l.length+1) 0 []).1:=⟨_,rfl⟩
 obtain⟨B,hB⟩:∃B,B=(spl l (l.length+1) 0 []).2:=⟨_,rfl⟩
 have HG:=hid (show∀S r,Dec l S r→F=fds 0 S∧B=(fl S).length+stopAt r from fun S r h=>by rw[hF,hB,HF.out S r h];exact⟨rfl,rfl⟩)
 rw[←hF,←hB]
 clear hF hB HF hb hw
 obtain⟨R,hR⟩:∃R:Value→Value,∀v,R v=(if tooI F=0 then .tuple #[v,.int .i64 (B:Int),.int .i64 0]else .tuple #[.slice none 0 0,.int .i64 0,.int .i64 (tooI F)]):=⟨_,fun _=>rfl⟩
 have HR:=hid hR
 refine Calls.mono (R:=fun e w'=>∃v,e=.returned (R v)∧Bel w w'∧FdR w' v F) ?_ fun e w' ⟨v,he,h⟩=>⟨v,by rw[he,hR],h⟩
 clear hR
 go_enter Tryz.func52,Tryz.ntmps52
 go_wp2_with fail
 go_loopg [5,6,7] (l.length+1) (fun gg v5 v6 v7 wr=>∃(at_:Nat) (bd:Int),v6=.int .i64 at_∧v7=.int .i64 bd∧at_≤l.length∧((bd= -1∧at_+gg=l.length+1∧Hid (∃out S r,Bel w wr∧Fds w wr v5 out∧Inv l at_ out S r))∨(bd=(B:Int)∧gg=0∧Hid (Bel w wr∧Fds w wr v5 F))))
 case atStart=>exact⟨0,-1,rfl,rfl,Nat.zero_le _,.inl ⟨rfl,by omega,hid ⟨[],[],l,Bel.refl w,fds_nil _ _,Inv.zero l⟩⟩⟩
 case round=>
  obtain⟨at_,bd,rfl,rfl,hatl,hrel⟩:=hrel
  by_cases hgo:bd= -1∧at_<l.length
  ·obtain⟨rfl,hlt⟩:=hgo
   obtain⟨hk,H⟩:at_+gk=l.length+1∧Hid (∃out S r,Bel w wr∧Fds w wr u5 out∧Inv l at_ out S r):=by
    rcases hrel with⟨-,h1,h2⟩|⟨h1,-⟩
    ·exact⟨h1,h2⟩
    ·exact absurd h1 (by omega)
   clear hrel
   have HK:=hid hk
   clear hk
   obtain⟨out,S,r,hbel,hfd,hinv⟩:=H.out
   have HBel:=hid hbel
   have HFd:=hid hfd
   have HI:=hid hinv
   have hol:out.length≤at_:=by rw[hinv.out,fds_len,hinv.at_];exact fl_len_le S
   obtain⟨xo,co,hvo,hco,hco63⟩:=row_shape hfd
   clear hbel hfd hinv H
   subst hvo
   have b0:decide ((at_:Int)<(l.length:Int))=true:=decide_eq_true (by omega)
   obtain⟨b,o,rfl,hc⟩:=(HB.out.next HBel.out) (by omega)
   have h0:=hc at_ hlt
   obtain⟨n,hn⟩:∃n,n=lineN (l.drop at_):=⟨_,rfl⟩
   obtain⟨N,hN⟩:∃N,N=at_+n:=⟨_,rfl⟩
   obtain⟨X,hX⟩:∃X,X=at_+nextN (l.drop at_):=⟨_,rfl⟩
   have hdl:(l.drop at_).length=l.length-at_:=List.length_drop
   have hne:l.drop at_≠[]:=fun e=>by have:=congrArg List.length e;rw[hdl]at this;simp at this;omega
   have hNl:N≤l.length:=by have:=lineN_le (l.drop at_);omega
   have hXl:X≤l.length:=by have:=next_le (l.drop at_);omega
   have hX1:at_<X:=by have:=next_pos hne;omega
   have hlt2:((l.drop at_).take n).length=n:=by rw[List.length_take];omega
   have hcl:=cut_line b (o+at_) (c-at_) (l.drop at_) wr (HW.out.next HBel.out) (bs_drop hc at_) (by omega) (by omega)
   rw[hdl,←hn]at hcl
   obtain⟨q0,hq0⟩:∃q0,q0=decide (n<l.length-at_):=⟨_,rfl⟩
   rw[←hq0]at hcl
   have HX2:=hid (show X=if q0=true then N+2 else N by
    rw[hX,next_of (by omega),←hn,←hN,hq0]
    by_cases h:N<l.length
    ·rw[if_pos h,if_pos (decide_eq_true (by omega))]
    ·rw[if_neg h,if_neg (by simp;omega)])
   have HCl:=hid hcl
   have HC:=hid hc
   obtain⟨k,hk⟩:∃k,k=colN ((l.drop at_).take n):=⟨_,rfl⟩
   obtain⟨q1,hq1⟩:∃q1,q1=decide (k<n):=⟨_,rfl⟩
   have HC2:=(show Hid (∀W,Bel w W→Calls Tryz.prog 110 #[.slice (some ⟨b,o+at_,none⟩) n (c-at_),.slice (some ⟨W.heap.size,0,none⟩) 1 1] (W.alloc (.cells #[.int .u8 58] 5 (1,2))) fun e w'=>(∃v1 v2,e=.returned (.tuple #[v1,v2,.bool q1])∧Hid (k<n→v1=.slice (some ⟨b,o+at_,none⟩) k (c-at_)∧v2=.slice (some ⟨b,if c-at_=k+1 then o+at_ else o+at_+(k+1),none⟩) (n-(k+1)) (c-at_-(k+1))))∧Bel W w')from hid fun W hW=>by
    obtain⟨b',o',e,hc'⟩:=(HB.out.next hW) (by omega)
    cases e
    have:=cut_col b (o+at_) (c-at_) ((l.drop at_).take n) W (HW.out.next hW) (bs_sub hc' at_ n) (by omega) (by omega)
    rw[hlt2,←hk,←hq1]at this
    refine this.mono ?_
    rintro e w' ⟨⟨v1,v2,rfl,h⟩,hb⟩
    exact⟨⟨v1,v2,rfl,hid h⟩,hb⟩)
   have HX:=hid (And.intro hn (And.intro hN (And.intro hX (And.intro hk hq1))))
   have HNE:=hid hne
   have i1:(at_:Int)+(n:Int)=(N:Int):=by omega
   have hNc:N≤c:=by omega
   have hnN:n≤N:=by omega
   clear hcl hc hn hX hdl hne hlt2 hk hq1 hq0 hN
   have i2:¬c=at_:=by omega
   have hcs:=fun(w:World) (C:Array Value) (n c:Nat)=>Lib.run_convert_bytes_const (P:=Tryz.prog) w 48 5 C n c Tryz.underlying48 Tryz.underlying5
   have i3:IntKind.i64.wrap (N:Int)=(N:Int):=IntWalk.i64_in _ (by omega)
   go_upto_if 40 with(go_at_call 110;with_reducible refine HCl.out.mono ?_;rintro _ w1 ⟨⟨vx,rfl⟩,hb1⟩)
   have HB1:=hid hb1
   have HBel1:=hid (HBel.out.trans hb1)
   clear hb1
   go_cut [11]from 18 to 119 (fun v11 wx=>v11=.int .i64 X∧wx=w1)
   case first=>
    cases q0 with
    |true=>
     have HX3:=hid (show X=N+2 from HX2.out)
     have i4:IntKind.i64.wrap ((N:Int)+2)=(X:Int):=by rw[IntWalk.i64_in _ (by omega)];have:=HX3.out;omega
     have hv:=hid (show(Value.int .i64 ((N:Int)+2))=.int .i64 X by have:=HX3.out;rw[this];rfl)
     go_wp2_with fail
     go_meet
     case rel=>first|exact⟨rfl,rfl⟩|exact⟨hv.out,rfl⟩
    |false=>
     have HX3:=hid (show X=N from HX2.out)
     go_wp2_with fail
     go_meet
     case rel=>exact⟨by rw[HX3.out],rfl⟩
   case rest=>
    obtain⟨rfl,hw⟩:=hcut
    have hw:=hw.symm
    subst hw
    go_upto_region 11 with(go_at_call 110;with_reducible refine(HC2.out _ HBel1.out).mono ?_;rintro _ w2 ⟨⟨v12,v13,rfl,hv12⟩,hb2⟩)
    have HB12:=hid (HB1.out.trans hb2)
    have HBel2:=hid (HBel.out.trans HB12.out)
    have HFd2:=hid (HFd.out.next HB12.out)
    have HV:=hid hv12.out
    have hc2:∀i (h:i<l.length),w2.cell? ⟨b,o+i,none⟩=some (.int .u8 (l[i].toNat:Int)):=by
     obtain⟨b',o',e,hc'⟩:=(HB.out.next HBel2.out) (by omega)
     cases e;exact hc'
    clear hb2 hv12 h0
    have h0:=hc2 at_ hlt
    have HC3:=hid hc2
    clear hc2
    obtain⟨x,hx⟩:∃x,x=l[at_]'hlt:=⟨_,rfl⟩
    rw[←hx]at h0
    have HXX:=hid (show x=(l.drop at_).headD 0 by rw[drop_at hlt];exact hx)
    clear hx
    have HBl:=hid (hblank_run x w2)
    obtain⟨q,hq⟩:∃q,q=decide (out≠[]∧0<n∧blk x=true):=⟨_,rfl⟩
    have HQ:=hid hq
    clear hq
    go_cut [55]from 18 to 119 (fun v55 wx=>v55=.bool q∧wx=w2)
    case first=>
     by_cases h2:out=[]
     ·have b2:decide (1≤(out.length:Int))=false:=decide_eq_false (by rw[h2];decide)
      have HV2:=hid (show q=false by rw[HQ.out];simp[h2])
      have b3:decide ((out.length:Int)-1≥0)=false:=decide_eq_false (by rw[h2];decide)
      have b4:¬1≤(out.length:Int):=by rw[h2];decide
      clear h2
      go_wp2_with fail
      go_meet
      case rel=>exact⟨by rw[HV2.out],rfl⟩
     ·have hpos:0<out.length:=List.length_pos_iff.mpr h2
      have b4:1≤(out.length:Int):=by omega
      by_cases h1:0<n
      ·obtain⟨y,hy⟩:∃y,y=blk x:=⟨_,rfl⟩
       rw[←hy]at HBl HQ
       have HV2:=hid (show q=y by rw[HQ.out];simp[h2,h1])
       clear hy h2
       have b5:(0:Int)<(n:Int):=by omega
       go_wp2_with (go_at_call 111;refine HBl.out.mono ?_;rintro _ w3 ⟨rfl,hw⟩;have hw:=hw.symm;subst hw)
       go_meet
       case rel=>exact⟨by rw[HV2.out],rfl⟩
      ·have HV2:=hid (show q=false by rw[HQ.out];simp[h1])
       clear h2
       go_wp2_with fail
       go_meet
       case rel=>exact⟨by rw[HV2.out],rfl⟩
    case rest=>
     obtain⟨rfl,hw⟩:=hcut
     have hw:=hw.symm
     subst hw
     cases q with
     |true=>
      have hq:=of_decide_eq_true HQ.out.symm
      have hfd:=HFd2.out
      obtain⟨g,cp,hv,-,hg⟩:=fds_at hfd hq.1
      cases hv
      obtain⟨A,f,hout⟩:∃A f,out=A++[f]:=by
       rcases List.eq_nil_or_concat out with e|⟨A,f,e⟩
       ·exact absurd e hq.1
       ·exact⟨A,f,by rw[e,List.concat_eq_append]⟩
      obtain⟨n',hn'⟩:∃n',n'=A.length:=⟨_,rfl⟩
      have hol2:out.length=n'+1:=by rw[hout,hn'];simp
      have hI:=HI.out
      have hdr:=hI.drop
      have hxn:=HX.out.1
      have hxN:=HX.out.2.1
      obtain⟨S',r',hi'⟩:=hI.cont (by rw[←hdr];exact HNE.out) hq.1 (by rw[←hdr,←hxn];exact hq.2.1) (by rw[←hdr,←HXX.out];exact hq.2.2)
      rw[←hdr,←hxn,←hxN,←HX.out.2.2.1,hout,extl_snoc]at hi'
      rw[hout]at hI hfd
      have hlast:=hI.last
      have c2:=fds_cell hfd 2 _ rfl
      have c0:=fds_cell hfd 0 _ rfl
      have c1:=fds_cell hfd 1 _ rfl
      have c3:=fds_cell hfd 3 _ rfl
      have HFd3:=hid (fds_ext2 (n:=n') (by rw[←hol2,hout];exact hfd) hn'.symm X ((l.drop (f.fr+f.nm.length+1)).take (N-(f.fr+f.nm.length+1))))
      have HI2:=hid hi'
      have HBe:Hid (∀u v,Bel w ((w2.setCell ⟨g,n'*4+1,none⟩ u).setCell ⟨g,n'*4+3,none⟩ v).drew):=hid fun u v=>((HBel2.out.setCell hg u).setCell hg v).drew
      rw[←hn']at c2 c0 c1 c3
      obtain⟨nb,hnb⟩:∃nb:ByteArray,nb=⟨f.nm.toArray⟩:=⟨_,rfl⟩
      have hnz:nb.size=f.nm.length:=by rw[hnb];exact List.size_toArray ..
      obtain⟨m,hm⟩:∃m,m=f.fr+f.nm.length+1:=⟨_,rfl⟩
      obtain⟨fr,hfr⟩:∃fr,fr=f.fr:=⟨_,rfl⟩
      have hme:m=fr+nb.size+1:=by rw[hm,hfr,hnz]
      rw[←hnb]at c0
      have c0:w2.cell? ⟨g,n'*4,none⟩=some (.string nb):=c0
      rw[←hfr]at c2
      rw[←hm]at HFd3 HI2
      have hmN:m≤N:=by omega
      have hlen2:((l.drop m).take (N-m)).length=N-m:=by rw[List.length_take,List.length_drop];omega
      have hcv1:(convert 48 9 (.slice (some ⟨b,o+m,none⟩) (N-m) (c-m))).run Tryz.prog w2.drew=.ok (.string ⟨((l.drop m).take (N-m)).toArray⟩) w2.drew:=by
       have:=conv_bs (W:=w2.drew) (bs_sub (W:=w2.drew) HC3.out m (N-m)) (c-m)
       rw[hlen2]at this
       exact this
      obtain⟨sb,hsb⟩:∃sb:ByteArray,sb=⟨((l.drop m).take (N-m)).toArray⟩:=⟨_,rfl⟩
      rw[←hsb]at hcv1 HFd3
      have hmc:m<c:=by omega
      have hol3:=hid hol2.symm
      rw[hol2]
      have hgf:∀j,w2.frozen? ⟨g,j,none⟩=false:=fun j=>World.ownsRow.frozenAt HFd2.out j
      have hXm:=hid hX1
      have j1:(n':Int)<(n':Int)+1:=by omega
      have j2:(fr:Int)+(nb.size:Int)+1=(m:Int):=by omega
      have j3:(m:Int)≤(N:Int):=by omega
      have j4:(N:Int)≤(c:Int):=by omega
      have j5:IntKind.i64.wrap ((fr:Int)+(nb.size:Int))=(fr:Int)+(nb.size:Int):=IntWalk.i64_in _ (by omega)
      have j6:IntKind.i64.wrap (m:Int)=(m:Int):=IntWalk.i64_in _ (by omega)
      have j7:¬c=m:=by omega
      clear hnz hlen2 hm hfr hnb hsb hi' hI hdr hfd hq hlast hn' hme hxn hxN
      go_upto_region 13 with fail
      go_region_law (fail)
      all_goals
       go_wp2_with fail
       go_roundg (l.length+1-X)
       case measure=>have:=HK.out;have:=hXm.out;omega
       case rel=>exact⟨X,-1,by go_num,rfl,hXl,.inl ⟨rfl,by omega,hid ⟨_,S',r',HBe.out _ _,hol3.out▸HFd3.out,HI2.out⟩⟩⟩
     |false=>
      have hq:=of_decide_eq_false HQ.out.symm
      have hxn:=HX.out.1
      have hkk:=HX.out.2.2.2.1
      have hq1:=HX.out.2.2.2.2
      obtain⟨T,hT⟩:∃T,T=(l.drop at_).take n:=⟨_,rfl⟩
      have hTl:T.length=n:=by
       rw[hT,List.length_take,List.length_drop]
       have:=lineN_le (l.drop at_)
       rw[List.length_drop]at this;omega
      rw[←hT]at hkk
      have hNN:=nameN_eq T
      rw[←hkk,hTl]at hNN
      obtain⟨q2,hq2⟩:∃q2,q2=decide (k<n∧nameQ (T.take k)=true):=⟨_,rfl⟩
      have hcvn:k<n→(convert 48 9 (.slice (some ⟨b,o+at_,none⟩) k (c-at_))).run Tryz.prog w2=.ok (.string ⟨(T.take k).toArray⟩) w2:=fun h=>by
       have:=conv_bs (bs_sub HC3.out at_ k) (c-at_)
       have e1:((l.drop at_).take k).length=k:=by rw[←hTl,hT]at h;rw[List.length_take]at h⊢;omega
       rw[e1]at this
       have e2:T.take k=(l.drop at_).take k:=by rw[hT,List.take_take,Nat.min_eq_left (by omega)]
       rw[e2];exact this
      have HCvn:=hid hcvn
      have HT:=hid (And.intro hT (And.intro hTl (And.intro hNN hq2)))
      clear hcvn hNN hkk hT hTl hxn hq2
      go_upto_region 14 with fail
      go_cut [97]from 18 to 119 (fun v97 wx=>v97=.bool q2∧wx=w2)
      case first=>
       cases q1 with
       |true=>
        have hkn:=of_decide_eq_true hq1.symm
        obtain⟨e12,-⟩:=HV.out hkn
        subst e12
        have hcv:=HCvn.out hkn
        have hq2:=HT.out.2.2.2
        have hr:=hname_run ⟨(T.take k).toArray⟩ w2 (by show(T.take k).toArray.size<_;rw[List.size_toArray,List.length_take,HT.out.2.1];omega)
        have hr:=(show Hid (Calls Tryz.prog 112 #[.string ⟨(T.take k).toArray⟩] w2 fun e w'=>e=.returned (.bool (nameQ (T.take k)))∧w'=w2)from hid (by simpa using hr))
        have hq3:nameQ (T.take k)=q2:=by
         rw[hq2]
         cases hh:nameQ (T.take k)with
         |true=>rw[decide_eq_true ⟨hkn,rfl⟩]
         |false=>rw[decide_eq_false (fun h=>by cases h.2)]
        rw[hq3]at hr
        obtain⟨s,hs'⟩:∃s:ByteArray,s=⟨(T.take k).toArray⟩:=⟨_,rfl⟩
        rw[←hs']at hcv hr
        clear hs' hq2 hq3 hq hq1 hkn
        go_wp2_with (go_at_call 112;with_reducible refine hr.out.mono ?_;rintro _ w3 ⟨rfl,hw⟩;have hw:=hw.symm;subst hw)
        go_meet
        case rel=>exact⟨rfl,rfl⟩
       |false=>
        have hkn:=of_decide_eq_false hq1.symm
        have hq3:=hid (show q2=false by rw[HT.out.2.2.2];exact decide_eq_false fun h=>hkn h.1)
        clear hq hq1 hkn
        go_wp2_with fail
        go_meet
        case rel=>exact⟨by rw[hq3.out],rfl⟩
      case rest=>
       obtain⟨rfl,hw⟩:=hcut
       have hw:=hw.symm
       subst hw
       cases q2 with
       |true=>
        obtain⟨hkn,hnq⟩:=of_decide_eq_true HT.out.2.2.2.symm
        obtain⟨e12,e13⟩:=HV.out hkn
        subst e12
        obtain⟨oo,hoo⟩:∃oo,oo=if c-at_=k+1 then o+at_ else o+at_+(k+1):=⟨_,rfl⟩
        rw[←hoo]at e13
        subst e13
        have hcv:=HCvn.out hkn
        have hT:=HT.out.1
        have hI:=HI.out
        have hdr:=hI.drop
        have hnm:nameN T=some k:=by rw[HT.out.2.2.1,if_pos ⟨hkn,hnq⟩]
        obtain⟨s,r',hi'⟩:=hI.field (c:=k) (by rw[←hdr];exact HNE.out) (by rw[←hdr,←HX.out.1,←hT];exact hnm)
        rw[←hdr,←HX.out.1,←hT,←HX.out.2.2.1]at hi'
        have e2:(l.drop at_).take k=T.take k:=by rw[hT,List.take_take,Nat.min_eq_left (by omega)]
        rw[e2]at hi'
        have HI2:=hid hi'
        have l2:(T.drop (k+1)).length=n-(k+1):=by rw[List.length_drop,HT.out.2.1]
        have e3:T.drop (k+1)=(l.drop (at_+(k+1))).take (n-(k+1)):=by rw[hT,List.drop_take,List.drop_drop]
        have hcv2:(convert 48 9 (.slice (some ⟨b,oo,none⟩) (n-(k+1)) (c-at_-(k+1)))).run Tryz.prog w2=.ok (.string ⟨(T.drop (k+1)).toArray⟩) w2:=by
         have hbs:Bs w2 (some ⟨b,oo,none⟩) (T.drop (k+1)):=by
          by_cases hcc:c-at_=k+1
          ·intro h0;rw[l2]at h0;exact absurd h0 (by omega)
          ·rw[if_neg hcc]at hoo
           rw[hoo,e3,Nat.add_assoc]
           exact bs_sub HC3.out (at_+(k+1)) (n-(k+1))
         have:=conv_bs hbs (c-at_-(k+1))
         rw[l2]at this
         exact this
        obtain⟨nb,hnb⟩:∃nb:ByteArray,nb=⟨(T.take k).toArray⟩:=⟨_,rfl⟩
        obtain⟨bb,hbb⟩:∃bb:ByteArray,bb=⟨(T.drop (k+1)).toArray⟩:=⟨_,rfl⟩
        rw[←hnb]at hcv
        rw[←hbb]at hcv2
        have HNB:=hid (And.intro hnb hbb)
        have hXm:=hid hX1
        clear hnb hbb e2 e3 l2 hnm hI hdr hT hi' hoo hnq hkn hq hq1
        go_wp2_with (refine Ci.wpList_push (a0:=w) (W:=w2) rfl (.tmp 104) (.tmp 112) 51 rfl 55 (.agg #[.string ⟨#[]⟩,.string ⟨#[]⟩,.int .i64 0,.int .i64 0]) 4 48 Tryz.underlying51 fd_infos rfl (by decide) (.slice xo out.length co) out.length (fdCs out) rfl HFd2.out HBel2.out _ rfl rfl (by intro u hu;simp at hu;rcases hu with rfl|rfl|rfl|rfl<;>rfl) (by unfold maxLen;omega) (by omega) ?_;intro x' p' w9 hown9 hb9)
        have HFd3:Hid (Fds w w9 (.slice x' (out.length+1) p') (out++[⟨T.take k,T.drop (k+1),at_,X⟩])):=hid (by
         have e:fdCs (out++[(⟨T.take k,T.drop (k+1),at_,X⟩:Fd)])=fdCs out++[.string nb,.string bb,.int .i64 at_,.int .i64 X]:=by
          rw[fdCs_app,HNB.out.1,HNB.out.2];simp[fdCs,fdC]
         unfold Fds
         rw[e,List.length_append]
         exact hown9)
        have HB9:=hid hb9
        clear hown9 hb9
        go_wp2_with fail
        go_roundg (l.length+1-X)
        case measure=>have:=HK.out;have:=hXm.out;omega
        case rel=>exact⟨X,-1,by go_num,rfl,hXl,.inl ⟨rfl,by omega,hid ⟨_,_,r',HB9.out,HFd3.out,HI2.out⟩⟩⟩
       |false=>
        have hnm:nameN T=none:=by rw[HT.out.2.2.1,if_neg (of_decide_eq_false HT.out.2.2.2.symm)]
        have hI:=HI.out
        have hdr:=hI.drop
        have hdec:Dec l S (l.drop at_):=⟨by rw[hdr];exact hI.eq,hI.ok,by rw[hdr];exact hI.ends,.inr ⟨by rw[←HX.out.1,←HT.out.1];exact hnm,fun hh=>hq ⟨fun e=>hh.1 (by have:=fds_len S 0;rw[←hI.out,e]at this;exact List.length_eq_zero_iff.mp this.symm),by have:=hh.2.1;rw[←HX.out.1]at this;exact this,by rw[HXX.out];exact hh.2.2⟩⟩⟩
        obtain⟨hF1,hB1⟩:=HG.out S _ hdec
        rw[←hI.out]at hF1
        rw[←hI.at_]at hB1
        have HB2:Hid (B=if n=0 then X else at_):=hid (by
         rw[hB1];unfold stopAt
         rw[if_neg HNE.out,←HX.out.1,HX.out.2.2.1]
         by_cases e:n=0
         ·rw[if_pos e,if_pos e]
         ·rw[if_neg e,if_neg e];rfl)
        have HFd3:Hid (Fds w w2 (.slice xo out.length co) F):=hid (by rw[hF1];exact HFd2.out)
        clear hF1 hB1 hdec hdr hI hnm hq hq1
        by_cases e:n=0
        ·have HV2:=hid (show B=X by rw[HB2.out,if_pos e])
         subst e
         go_wp2_with fail
         go_roundg 0
         case measure=>have:=HK.out;omega
         case rel=>exact⟨X,B,by go_num,by rw[HV2.out],hXl,.inr ⟨rfl,rfl,hid ⟨HBel2.out,HFd3.out⟩⟩⟩
        ·have b2:((n:Int)==0)=false:=by rw[beq_eq_false_iff_ne];omega
         have HV2:=hid (show B=at_ by rw[HB2.out,if_neg e])
         go_wp2_with fail
         go_roundg 0
         case measure=>have:=HK.out;omega
         case rel=>exact⟨X,B,by go_num,by rw[HV2.out],hXl,.inr ⟨rfl,rfl,hid ⟨HBel2.out,HFd3.out⟩⟩⟩
  ·have key:(bd= -1∧at_=l.length∧B=at_∧Hid (Bel w wr∧Fds w wr u5 F))∨(bd=(B:Int)∧Hid (Bel w wr∧Fds w wr u5 F)):=by
    rcases hrel with⟨h1,h2,h3⟩|⟨h1,h2,h3⟩
    ·left
     obtain⟨out,S,r,hb,hf,hI⟩:=h3.out
     have hat:at_=l.length:=by
      rcases Nat.lt_or_ge at_ l.length with h|h
      ·exact absurd ⟨h1,h⟩ hgo
      ·omega
     have hr0:r=[]:=by rw[←hI.drop];exact List.drop_eq_nil_of_le (by omega)
     subst hr0
     obtain⟨hF1,hB1⟩:=HG.out S [] ⟨hI.eq,hI.ok,hI.ends,.inl rfl⟩
     rw[←hI.out]at hF1
     rw[←hI.at_]at hB1
     exact⟨h1,hat,hB1,hid ⟨hb,by rw[hF1];exact hf⟩⟩
    ·exact .inr ⟨h1,h3⟩
   clear hrel
   have hcl:=clip_run
   have HRd:=(show Hid (∀(v:Value),Fds w wr v F→FdR wr v F)from hid fun v h=>h.read)
   rcases key with⟨rfl,hat,rfl,H⟩|⟨rfl,H⟩
   case' inl=>
    have b0:decide ((B:Int)<(l.length:Int))=false:=decide_eq_false (by omega)
    have HBel:=hid H.out.1
    have HFd:=hid H.out.2
    obtain⟨xo,co,hvo,hco,hco63⟩:=row_shape H.out.2
    clear H hgo
    subst hvo
    have hge:¬B<l.length:=by omega
    clear hat
    go_upto_region 21 with fail
   case' inr=>
    have HBel:=hid H.out.1
    have HFd:=hid H.out.2
    obtain⟨xo,co,hvo,hco,hco63⟩:=row_shape H.out.2
    have b2:¬(B:Int)<0:=by omega
    clear H hgo
    subst hvo
    by_cases hlt:at_<l.length
    case' pos=>
     have b0:decide ((at_:Int)<(l.length:Int))=true:=decide_eq_true (by omega)
     go_upto_region 21 with fail
    case' neg=>
     have b0:decide ((at_:Int)<(l.length:Int))=false:=decide_eq_false (by omega)
     go_upto_region 21 with fail
   all_goals
    by_cases hF0:F=[]
    ·have hF1:F.length=0:=by rw[hF0];rfl
     have HV:=hid (show tooI F=0 by rw[hF0];rfl)
     clear hF0
     rw[hF1]at hco⊢
     have HFd2:=hid (HRd.out _ HFd.out).clip
     rw[hF1]at HFd2
     have HCl:=hid (hcl xo 0 co wr hco hco63)
     clear hF1 hcl
     go_wp2_with (go_at_call 113;with_reducible refine HCl.out.mono ?_;rintro _ w9 ⟨rfl,hw⟩;have hw:=hw.symm;subst hw)
     go_ret3
     exact⟨.slice xo 0 0,by rw[HR.out,if_pos HV.out];rfl,HBel.out,HFd2.out⟩
    ·obtain⟨A,f,hFA⟩:∃A f,F=A++[f]:=by
      rcases List.eq_nil_or_concat F with e|⟨A,f,e⟩
      ·exact absurd e hF0
      ·exact⟨A,f,by rw[e,List.concat_eq_append]⟩
     have hfd:=HFd.out
     obtain⟨g,cp,hv,-,-⟩:=fds_at hfd hF0
     cases hv
     have hn1:F.length=A.length+1:=by rw[hFA];simp
     obtain⟨n',hn'⟩:∃n',n'=A.length:=⟨_,rfl⟩
     have c3:wr.cell? ⟨g,n'*4+3,none⟩=some (.int .i64 f.tt):=by
      have:=hfd
      rw[hFA]at this
      rw[hn']
      exact fds_cell this 3 _ rfl
     have HFd2:=hid (HRd.out _ HFd.out).clip
     have hlt4:F.length≤4294967296:=by
      obtain⟨S,r,hdec,-⟩:=splits l
      obtain⟨hF1,-⟩:=HG.out S r hdec
      rw[hF1,fds_len]
      have h1:=fl_len_le S
      have h2:=congrArg List.length hdec.eq
      rw[List.length_append]at h2
      omega
     have HLT:=hid (show lastTo F=f.tt by rw[hFA];exact lastTo_snoc A f)
     have HLN:=hid hn1
     rw[hn1,←hn']at hco hlt4 HFd2⊢
     rw[←hn']at HLN
     obtain⟨tt,htt⟩:∃tt,tt=f.tt:=⟨_,rfl⟩
     rw[←htt]at c3 HLT
     have HCl:=hid (hcl (some ⟨g,0,none⟩) (n'+1) co wr hco hco63)
     have i1:(n':Int)<(n':Int)+1:=by omega
     clear hn1 hn' htt hfd hF0 hcl hFA
     by_cases h1:65536<tt
     ·have HV:=hid (show tooI F=111 by unfold tooI;rw[HLT.out,if_pos h1])
      have d1:decide ((tt:Int)>65536)=true:=decide_eq_true (by omega)
      go_wp2_with fail
      go_ret3
      exact⟨.slice (some ⟨g,0,none⟩) (n'+1) (n'+1),by rw[HR.out,if_neg (by rw[HV.out];decide),HV.out];rfl,HBel.out,HFd2.out⟩
     ·have d1:decide ((tt:Int)>65536)=false:=decide_eq_false (by omega)
      by_cases h2:1000<n'+1
      ·have HV:=hid (show tooI F=112 by unfold tooI;rw[HLT.out,if_neg h1,HLN.out,if_pos h2])
       have d2:decide (((n':Int)+1)>1000)=true:=decide_eq_true (by omega)
       go_wp2_with fail
       go_ret3
       exact⟨.slice (some ⟨g,0,none⟩) (n'+1) (n'+1),by rw[HR.out,if_neg (by rw[HV.out];decide),HV.out];rfl,HBel.out,HFd2.out⟩
      ·have HV:=hid (show tooI F=0 by unfold tooI;rw[HLT.out,if_neg h1,HLN.out,if_neg h2])
       have d2:decide (((n':Int)+1)>1000)=false:=decide_eq_false (by omega)
       go_wp2_with (go_at_call 113;with_reducible refine HCl.out.mono ?_;rintro _ w9 ⟨rfl,hw⟩;have hw:=hw.symm;subst hw)
       go_ret3
       exact⟨.slice (some ⟨g,0,none⟩) (n'+1) (n'+1),by rw[HR.out,if_pos HV.out];rfl,HBel.out,HFd2.out⟩
end Go.Proofs.YtmlmkmhkmifnkaaGreatDoor.Hs