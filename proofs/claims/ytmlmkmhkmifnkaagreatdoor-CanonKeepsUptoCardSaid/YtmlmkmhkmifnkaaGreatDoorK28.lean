import Derived.Test.YtmlmkmhkmifnkaaGreatDoorK27
import Derived.Lib.SlBytesConst
import Derived.Lib.AsciiSet
import Derived.Ground.Names7Prog
import Derived.Shelf.Spec.DecodeRune
set_option maxHeartbeats 16000000
set_option maxRecDepth 1000000
namespace Go.Proofs.YtmlmkmhkmifnkaaGreatDoor.Hs
open Go.RowKit
open Ci (hid Bel own_bel own_base row_shape addr_add Lay splitL splitL_len)
theorem replall_run(b o c:Nat)(l:List UInt8)(b1 o1 d1 b2 o2 d2:Nat)(w:World)(hw:Lay w)(hl:Br w (some ⟨b,o,none⟩) c l)(hs:l.length<4294967281)(h1:Bs w (some ⟨b1,o1,none⟩) [13,10])(h2:Bs w (some ⟨b2,o2,none⟩) [10]):
 Calls Tryz.prog 115 #[.slice (some ⟨b,o,none⟩) l.length c,.slice (some ⟨b1,o1,none⟩) 2 d1,.slice (some ⟨b2,o2,none⟩) 1 d2] w fun e w'=>∃q d,e=.returned (.slice q (repK (crN l) l).length d)∧Bel w w'∧Br w' q d (repK (crN l) l):=by
 have HR:=hid (replace_run b o c l b1 o1 d1 b2 o2 d2 w hw hl hs h1 h2)
 go_enter Tryz.func115,Tryz.ntmps115
 go_wp2_with (first|(go_at_call 190;with_reducible refine HR.out.mono ?_;rintro _ w2 ⟨q,d,rfl,hb2,hr2⟩;have HB2:=hid hb2;have HR2:=hid hr2;clear hb2 hr2))
 go_ret
 exact⟨q,d,rfl,HB2.out,HR2.out⟩
theorem split_run(b o c b2 o2 d:Nat)(l:List UInt8)(w:World)(hw:Lay w)(h1:Br w (some ⟨b,o,none⟩) c l)(h2:Bs w (some ⟨b2,o2,none⟩) [10])(hs:l.length<4294967281):
 Calls Tryz.prog 116 #[.slice (some ⟨b,o,none⟩) l.length c,.slice (some ⟨b2,o2,none⟩) 1 d] w fun e w'=>e=.returned (.slice (some ⟨w.heap.size,0,none⟩) (splitL 10 l).length (splitL 10 l).length)∧Bel w w'∧∀j (hj:j<(splitL 10 l).length),∃p cp,w'.cell? ⟨w.heap.size,j,none⟩=some (.slice p (splitL 10 l)[j].length cp):=by
 obtain⟨m,hm⟩:=hw.most
 have hcell:∀{b o:Nat} {l:List UInt8},Bs w (some ⟨b,o,none⟩) l→∀i,i<(l.map fun x=>(x.toNat:Int)).length→w.cell? ((⟨b,o,none⟩:Addr).add i)=some (.int .u8 ((l.map fun x=>(x.toNat:Int)).getD i 0)):=fun {b o l} h i hi=>by
  rw[List.length_map]at hi
  obtain⟨b',o',e,hc⟩:=h (by omega)
  cases e
  rw[addr_add]
  exact Bs.nums hc i hi
 have:=Tryz.bytes_Split ⟨b,o,none⟩ ⟨b2,o2,none⟩ l.length c 1 d (l.map fun x=>(x.toNat:Int)) (([10]:List UInt8).map fun x=>(x.toNat:Int)) m w (by simp) (by simp) (nums_byte l) (nums_byte [10]) (fun i hi=>hcell h1.bs i (by simpa using hi)) (fun i hi=>hcell h2 i (by simpa using hi)) h1.le hs (by decide) h1.lt (by decide) hm
 rw[bytes_nums,bytes_nums,Lib.count_one]at this
 have hn:(splitL 10 l).length=l.count 10+1:=splitL_len 10 l
 refine this.mono ?_
 rintro e w' ⟨rfl,q,rfl⟩
 rw[←hn]
 refine⟨rfl,((Bel.refl w).alloc _).drewN q,fun j hj=> ?_⟩
 have hK:=Ci.splitK_one 10 (l.count 10) l rfl
 have hlen:=Lib.splitV_length [10] 0 (l.count 10) ⟨b,o,none⟩ c l
 rw[hK]at hlen
 obtain⟨v,hv⟩:∃v,(Lib.splitV [10] 0 (l.count 10) ⟨b,o,none⟩ c l)[j]?=some v:=⟨_,List.getElem?_eq_getElem (by omega)⟩
 obtain⟨a',off,len,cp,e,h3,h4,h5,-⟩:=Lib.splitV_spec [10] 0 (by simp) (by simp) (l.count 10) ⟨b,o,none⟩ c l h1.le j v hv
 rw[hK,List.getElem?_eq_getElem hj]at h5
 have h6:=congrArg List.length (Option.some.inj h5)
 rw[List.length_take,List.length_drop]at h6
 refine⟨some a',cp,?_⟩
 have hh:=heap_alloc_new w (.cells (Lib.splitV [10] 0 (l.count 10) ⟨b,o,none⟩ c l).toArray 48)
 show((w.alloc _).drewN q).cell? _=_
 rw[Lib.cell_of_heap (show((w.alloc (.cells (Lib.splitV [10] 0 (l.count 10) ⟨b,o,none⟩ c l).toArray 48)).drewN q).heap[w.heap.size]?=_ from((Bel.refl _).drewN q).heap hh)]
 rw[List.getElem?_toArray,hv,e,h6]
 congr 2
 omega
def AnyRun:Prop:=∀(b o c:Nat) (l:List UInt8) (w:World),Tb.Lat w→Br w (some ⟨b,o,none⟩) c l→l.length<4294967281→Calls Tryz.prog 117 #[.slice (some ⟨b,o,none⟩) l.length c,.string ⟨#[13,0]⟩] w fun e w'=>e=.returned (.bool (l.any fun x=>x==13||x==0))∧Bel w w'
theorem bs_cr(W:World):Bs (W.alloc (.cells #[.int .u8 13,.int .u8 10] 5 (2,3))) (some ⟨W.heap.size,0,none⟩) [13,10]:=fun _=>⟨_,0,rfl,fun i hi=>by
 have e:=heap_alloc_new W (.cells #[.int .u8 13,.int .u8 10] 5 (2,3))
 simp only[World.cell?,e]
 match i,hi with
 |0,_=>rfl
 |1,_=>rfl⟩
theorem bs_lf(W:World):Bs (W.alloc (.cells #[.int .u8 10] 5 (1,2))) (some ⟨W.heap.size,0,none⟩) [10]:=fun _=>⟨_,0,rfl,fun i hi=>by
 have e:=heap_alloc_new W (.cells #[.int .u8 10] 5 (1,2))
 simp only[World.cell?,e]
 match i,hi with
 |0,_=>rfl⟩
theorem repK_ne{l:List UInt8}(h:l≠[]):∀k,repK k l≠[]
 |0=>h
 |k+1=>by
  show l.take (lineN l)++10::_≠[]
  simp
theorem may_run(hA:AnyRun)(b o c:Nat)(l:List UInt8)(w:World)(hw:Tb.Lat w)(hl:Br w (some ⟨b,o,none⟩) c l)(hs:l.length<4294967281)(hne:l≠[]):
 Calls Tryz.prog 55 #[.slice (some ⟨b,o,none⟩) l.length c] w fun e w'=>e=.returned (.bool (mayQ l))∧Bel w w':=by
 have HW:=hid hw
 have HL:=hid hl
 have HAny:=hid hA
 have hcs:=fun(w:World) (C:Array Value) (n c:Nat)=>Lib.run_convert_bytes_const (P:=Tryz.prog) w 48 5 C n c Tryz.underlying48 Tryz.underlying5
 have hcs2:∀(w:World) (A:Obj) (C:Array Value) (n c:Nat),(convert 48 48 (.slice (some ⟨w.heap.size+1,0,none⟩) n c)).run Tryz.prog ((w.alloc A).alloc (.cells C 5))=.ok (.slice (some ⟨w.heap.size+1,0,none⟩) n c) ((w.alloc A).alloc (.cells C 5 (C.size,C.size+1))):=fun w A C n c=>by
  have:=hcs (w.alloc A) C n c
  rwa[World.size_alloc]at this
 obtain⟨r,hr⟩:∃r,r=mayQ l:=⟨_,rfl⟩
 have HR:=hid hr
 rw[←hr]
 obtain⟨T,hT⟩:∃T,T=repK (crN l) l:=⟨_,rfl⟩
 have HT:=hid hT
 have HTn:=hid (show T≠[] by rw[hT];exact repK_ne hne _)
 have hTl:T.length≤l.length:=by have:=repK_len (crN l) l rfl;rw[←hT]at this;omega
 have HRep:=(show Hid (Calls Tryz.prog 115 #[.slice (some ⟨b,o,none⟩) l.length c,.slice (some ⟨w.heap.size,0,none⟩) 2 2,.slice (some ⟨w.heap.size+1,0,none⟩) 1 1] ((w.alloc (.cells #[.int .u8 13,.int .u8 10] 5 (2,3))).alloc (.cells #[.int .u8 10] 5 (1,2))) fun e w'=>∃b3 o3 d,e=.returned (.slice (some ⟨b3,o3,none⟩) T.length d)∧Bel w w'∧Br w' (some ⟨b3,o3,none⟩) d T)from hid (by
  have hb1:=(Bel.refl w).alloc (.cells #[.int .u8 13,.int .u8 10] 5 (2,3))
  have hb2:=hb1.alloc (.cells #[.int .u8 10] 5 (1,2))
  have e1:w.heap.size+1=(w.alloc (.cells #[.int .u8 13,.int .u8 10] 5 (2,3))).heap.size:=by rw[World.size_alloc]
  have:=replall_run b o c l w.heap.size 0 2 (w.heap.size+1) 0 1 _ (hw.lay.next hb2) (hl.next hb2) hs ((bs_cr w).next ((Bel.refl _).alloc (.cells #[.int .u8 10] 5 (1,2)))) (by rw[e1];exact bs_lf _)
  refine this.mono ?_
  rintro e w' ⟨q,d,rfl,hb,hbr⟩
  rw[←hT]at hbr⊢
  have h0:0<T.length:=List.length_pos_iff.mpr HTn.out
  obtain⟨b3,o3,hq,-⟩:=hbr.bs h0
  subst hq
  exact⟨b3,o3,d,rfl,hb2.trans hb,hbr⟩))
 clear hw hl hA hr hT hne
 go_enter Tryz.func55,Tryz.ntmps55
 go_upto_region 2 with(first|(go_at_call 115;with_reducible refine HRep.out.mono ?_;rintro _ w2 ⟨b3,o3,d3,rfl,hb2,hbr⟩;have HB2:=hid hb2;have HBr:=hid hbr;clear hb2 hbr))
 have HSp:=(show Hid (Calls Tryz.prog 116 #[.slice (some ⟨b3,o3,none⟩) T.length d3,.slice (some ⟨w2.heap.size,0,none⟩) 1 1] (w2.alloc (.cells #[.int .u8 10] 5 (1,2))) fun e w'=>∃g,e=.returned (.slice (some ⟨g,0,none⟩) (splitL 10 T).length (splitL 10 T).length)∧Bel w2 w'∧∀j (hj:j<(splitL 10 T).length),∃p cp,w'.cell? ⟨g,j,none⟩=some (.slice p (splitL 10 T)[j].length cp))from hid (by
  have hb:=(Bel.refl w2).alloc (.cells #[.int .u8 10] 5 (1,2))
  refine(split_run b3 o3 d3 w2.heap.size 0 1 T _ ((HW.out.lay.next HB2.out).next hb) (HBr.out.next hb) (bs_lf w2) (by omega)).mono ?_
  rintro e w' ⟨rfl,h1,h2⟩
  exact⟨_,rfl,hb.trans h1,h2⟩))
 have HC1:=(show Hid (∀W,Bel w W→Calls Tryz.prog 118 #[.slice (some ⟨b,o,none⟩) l.length c,.slice (some ⟨W.heap.size,0,none⟩) 1 1] (W.alloc (.cells #[.int .u8 10] 5 (1,2))) fun e w'=>e=.returned (.int .i64 (l.count 10:Nat))∧Bel W w')from hid fun W hW=>by
  have hb:=(Bel.refl W).alloc (.cells #[.int .u8 10] 5 (1,2))
  have hl:=HL.out.next (hW.trans hb)
  have:=count_run b o c W.heap.size 0 1 l [10] _ (HW.out.lay.next (hW.trans hb)) hl.bs (bs_lf W) hl.le hs (by decide) (by decide)
  rw[Lib.count_one]at this
  exact this.mono fun e w' ⟨h1,h2⟩=>⟨h1,hb.trans h2⟩)
 have HC2:=(show Hid (∀W,Bel w W→Calls Tryz.prog 118 #[.slice (some ⟨b,o,none⟩) l.length c,.slice (some ⟨W.heap.size,0,none⟩) 2 2] (W.alloc (.cells #[.int .u8 13,.int .u8 10] 5 (2,3))) fun e w'=>e=.returned (.int .i64 (crN l:Nat))∧Bel W w')from hid fun W hW=>by
  have hb:=(Bel.refl W).alloc (.cells #[.int .u8 13,.int .u8 10] 5 (2,3))
  have hl:=HL.out.next (hW.trans hb)
  exact(count_run b o c W.heap.size 0 2 l [13,10] _ (HW.out.lay.next (hW.trans hb)) hl.bs (bs_cr W) hl.le hs (by decide) (by decide)).mono fun e w' ⟨h1,h2⟩=>⟨h1,hb.trans h2⟩)
 obtain⟨L,hL⟩:∃L,L=splitL 10 T:=⟨_,rfl⟩
 have HLL:=hid hL
 rw[←hL]at HSp
 clear hL
 have HLn:=hid (show L.length≤l.length+1 by
  rw[HLL.out,splitL_len]
  have:=List.count_le_length (a:=(10:UInt8)) (l:=T)
  omega)
 obtain⟨n,hn⟩:∃n,n=L.length:=⟨_,rfl⟩
 have HNl:=hid hn
 have HSp2:=(show Hid (Calls Tryz.prog 116 #[.slice (some ⟨b3,o3,none⟩) T.length d3,.slice (some ⟨w2.heap.size,0,none⟩) 1 1] (w2.alloc (.cells #[.int .u8 10] 5 (1,2))) fun e w'=>∃g,e=.returned (.slice (some ⟨g,0,none⟩) n n)∧Bel w2 w'∧∀j (hj:j<L.length),∃p cp,w'.cell? ⟨g,j,none⟩=some (.slice p L[j].length cp))from hid (by rw[hn];exact HSp.out))
 have hnb:n≤l.length+1:=by rw[hn];exact HLn.out
 clear HSp hn HLn
 go_wp2_with (first|(go_at_call 116;with_reducible refine HSp2.out.mono ?_;rintro _ w3 ⟨g,rfl,hb3,hpc⟩;have HB3:=hid hb3;have HPc:=hid hpc;clear hb3 hpc))
 go_loopg [17] n (fun gg v17 wr=>∃k:Nat,v17=.int .i64 k∧k+gg=n∧Hid (wr=w3∧(L.take k).all (fun q=>decide (q.length≤998))=true))
 case atStart=>exact⟨0,rfl,by omega,hid ⟨rfl,rfl⟩⟩
 case round=>
  obtain⟨k,rfl,hk,H⟩:=hrel
  have HK:=hid hk
  have hkn:k≤n:=by omega
  clear hk
  have ew:=H.out.1.symm
  have HAll:=hid H.out.2
  clear H
  subst ew
  by_cases hlt:k<n
  ·have b0:decide ((k:Int)<(n:Int))=true:=decide_eq_true (by omega)
   have i0:(k:Int)<(n:Int):=by omega
   have hkL:k<L.length:=by rw[←HNl.out];exact hlt
   obtain⟨pp,cp,hcell⟩:=HPc.out k hkL
   obtain⟨z,hz⟩:∃z,z=L[k].length:=⟨_,rfl⟩
   rw[←hz]at hcell
   have HT1:=hid (show L.take (k+1)=L.take k++[L[k]]from List.take_succ_eq_append_getElem hkL)
   have HMem:=hid (show L[k]∈L from List.getElem_mem hkL)
   have HZ:=hid hz
   clear hz
   by_cases h9:z≤998
   ·have b1:decide ((z:Int)>998)=false:=decide_eq_false (by omega)
    have HA2:=hid (show(L.take (k+1)).all (fun q=>decide (q.length≤998))=true by rw[HT1.out,List.all_append,HAll.out];simp;rw[←HZ.out];exact h9)
    go_wp2_with fail
    go_roundg (gk-1)
    case measure=>have:=HK.out;omega
    case rel=>exact⟨k+1,by go_num,by have:=HK.out;omega,hid ⟨rfl,HA2.out⟩⟩
   ·have b1:decide ((z:Int)>998)=true:=decide_eq_true (by omega)
    have HF:=hid (show r=false by
     rw[HR.out];unfold mayQ
     rw[←HT.out,←HLL.out]
     have:L.all (fun q=>decide (q.length≤998))=false:=by
      rw[List.all_eq_false]
      exact⟨_,HMem.out,by rw[←HZ.out];simpa using h9⟩
     rw[this];rfl)
    go_wp2_with fail
    go_ret
    exact⟨by rw[HF.out];rfl,HB2.out.trans HB3.out⟩
  ·have b0:decide ((k:Int)<(n:Int))=false:=decide_eq_false (by omega)
   have HRa:=hid (show r=(!(T.any fun x=>x==13||x==0)&&decide (l.count 10=crN l)) by
    rw[HR.out];unfold mayQ
    rw[←HT.out,←HLL.out]
    have:=HAll.out
    rw[List.take_of_length_le (by rw[←HNl.out];omega)]at this
    rw[this];rfl)
   obtain⟨A,hA2⟩:∃A,A=(T.any fun x=>x==13||x==0):=⟨_,rfl⟩
   have HA3:=hid (HAny.out b3 o3 d3 T w3 (HW.out.next (HB2.out.trans HB3.out)) (HBr.out.next HB3.out) (by omega))
   rw[←hA2]at HA3 HRa
   clear hA2
   cases A with
   |true=>
    have HF:=hid (show r=false from HRa.out)
    go_wp2_with (first|(go_at_call 117;with_reducible refine HA3.out.mono ?_;rintro _ w4 ⟨rfl,hb4⟩;have HB4:=hid hb4;clear hb4))
    go_ret
    exact⟨by rw[HF.out];rfl,HB2.out.trans (HB3.out.trans HB4.out)⟩
   |false=>
    have HF:=hid (show r=((l.count 10:Int)==(crN l:Int)) by
     rw[HRa.out]
     show decide _=_
     by_cases e:l.count 10=crN l
     ·rw[decide_eq_true e,e];simp
     ·rw[decide_eq_false e,eq_comm,beq_eq_false_iff_ne];omega)
    go_wp2_with (first|(go_at_call 117;with_reducible refine HA3.out.mono ?_;rintro _ w4 ⟨rfl,hb4⟩;have HB4:=hid (HB2.out.trans (HB3.out.trans hb4));clear hb4)|(go_at_call 118;with_reducible refine(HC1.out w4 HB4.out).mono ?_;rintro _ w5 ⟨rfl,hb5⟩;have HB5:=hid (HB4.out.trans hb5);clear hb5)|(go_at_call 118;with_reducible refine(HC2.out w5 HB5.out).mono ?_;rintro _ w6 ⟨rfl,hb6⟩;have HB6:=hid (HB5.out.trans hb6);clear hb6))
    go_ret
    exact⟨by rw[HF.out];rfl,HB6.out⟩
end Go.Proofs.YtmlmkmhkmifnkaaGreatDoor.Hs
namespace Go.Proofs.YtmlmkmhkmifnkaaGreatDoor.Hs
open Go.RowKit
open Ci (hid Bel own_bel own_base row_shape addr_add Lay splitL splitL_len)
theorem bshould_run(n:Int)(w:World):Calls Tryz.prog 245 #[.int .i64 n] w fun e w'=>e=.returned (.bool (decide (8<n)))∧w'=w:=by
 go_enter Tryz.func245,Tryz.ntmps245
 go_wp2_with fail
 go_ret
 exact⟨rfl,rfl⟩
theorem bcontains_run(b:Nat)(x:UInt8)(v:Bool)(w:World)(hc:w.cell? ⟨b,x.toNat,none⟩=some (.bool v)):
 Calls Tryz.prog 247 #[.pointer (some ⟨b,0,none⟩),.int .u8 x.toNat] w fun e w'=>e=.returned (.bool v)∧w'=w:=by
 have hx256:(x.toNat:Int)<256:=by have:=UInt8.toNat_lt x;omega
 go_enter Tryz.func247,Tryz.ntmps247
 go_wp2_with fail
 go_ret
 exact⟨rfl,rfl⟩
theorem wpl_load {P:Program} {ops:Array Oper} {rest:List Oper} {op:Oper} {a:Act} {w:World} {Q:Exit→Act→World→Prop} (hgd:op.guard=none) (ty:TypeId) (x:Operand) (ho:op.op=.load ty x) (c:Array Value) (hx:a.eval x=.pointer (some ⟨w.heap.size,0,none⟩))
 (n:Nat) (e:TypeId) (hu:P.underlying ty=some (.array n e)) (hi:(P.info? ty).map (·.size)=some c.size) (h:wpList P ops Q rest (a.put op.dst (.agg c)) (w.alloc (.cells c ty))):wpList P ops Q (op::rest) a (w.alloc (.cells c ty)):=
 wpList_plain hgd fun _ hK=>by
  unfold Oper.wp execOp
  simp only[ho,hx,Sem.run_bind,run_loadAt_new w ty c n e hu hi,Result.andThen_ok,Sem.run_pure]
  exact hK _ _ h
theorem wpl_store {P:Program} {ops:Array Oper} {rest:List Oper} {op:Oper} {a:Act} {w:World} {Q:Exit→Act→World→Prop} (hgd:op.guard=none) (ty:TypeId) (x y:Operand) (ho:op.op=.store ty x y) (c d:Array Value) (hx:a.eval x=.pointer (some ⟨w.heap.size,0,none⟩)) (hy:a.eval y=.agg d)
 (hi:(P.info? ty).map (·.size)=some d.size) (hs:c.size=d.size) (h1:d.all (·.oneCell')=true) (h:wpList P ops Q rest (a.put op.dst undef) (w.alloc (.cells d ty))):wpList P ops Q (op::rest) a (w.alloc (.cells c ty)):=
 wpList_plain hgd fun _ hK=>by
  unfold Oper.wp execOp
  simp only[ho,hx,hy,Sem.run_bind,run_storeAt_new w ty c d hi hs h1,Result.andThen_ok,Sem.run_pure]
  exact hK _ _ h
def crn:ByteArray:=⟨#[13,0]⟩
theorem mkset_run(w:World):Calls Tryz.prog 246 #[.string crn] w fun e w'=>e=.returned (.tuple #[.agg (Lib.setCells crn.data.toList),.bool true])∧w'=w.alloc (.cells (Lib.setCells crn.data.toList) 270):=by
 have hz:Tryz.zeroCells270=Lib.setCells []:=by kernel_rfl
 have HA:=hid (show∀(j:Nat) b,crn.data.toList[j]?=some b→b.toNat<128 from fun j b h=>ascii_of_all (by decide) j b h)
 have h2:crn.size=2:=rfl
 generalize crn=C at HA h2⊢
 have hl:=hid (show C.data.toList.length=C.size from(Lib.size_eq C).symm)
 go_enter Tryz.func246,Tryz.ntmps246
 go_upto_region 2 with(fail)
 go_loopg [4] C.size (fun g s4 wx=>∃i:Nat,i+g=C.size∧s4=.int .i64 i∧wx=w.alloc (.cells (Lib.setCells (C.data.toList.take i)) 270))
 case atStart=>exact⟨0,by omega,rfl,rfl⟩
 case round=>
  obtain⟨i,hig,rfl,rfl⟩:=hrel
  cases gk with
  |zero=>
   have hi:i=C.size:=by omega
   have hiz:¬((i:Int)<(C.size:Int)):=by omega
   have he:=hid (show C.data.toList.take i=C.data.toList from List.take_of_length_le (by rw[hl.out];omega))
   rw[he.out]
   clear hi hig
   have hld:=run_loadVar_new (P:=Tryz.prog) w 270 (Lib.setCells C.data.toList) 256 4 Tryz.underlying270 (by rw[Lib.setCells_size];kernel_rfl)
   have hsz:=Lib.setCells_size C.data.toList
   have h1:=Lib.setCells_one C.data.toList
   obtain⟨S,hS⟩:∃S,S=Lib.setCells C.data.toList:=⟨_,rfl⟩
   rw[←hS]at hld hsz h1⊢
   have HS:=hid hS
   clear hS
   have hi:(Tryz.prog.info? 270).map (·.size)=some S.size:=by rw[hsz];kernel_rfl
   go_upto_region 8 with(fail)
   clear hz
   refine wp_region_lit ?_
   refine wpl_load rfl _ _ rfl _ rfl 256 _ Tryz.underlying270 hi ?_
   refine wpl_store rfl _ _ _ rfl _ _ rfl rfl hi rfl h1 ?_
   go_wp2_with fail
   (try simp only[Exit.inBlock,Exit.then])
   refine bodyPost_ret (v:=.tuple #[.agg S,.bool true]) ?_ rfl ⟨by rw[HS.out],by rw[HS.out]⟩
   rw[results_cell_tmp rfl]
   simp[asAddr,Result.andThen,hld]
  |succ g=>
   have hi:i<C.size:=by omega
   have hiz:(i:Int)<(C.size:Int):=by omega
   obtain⟨x,hx⟩:∃x:UInt8,C[i]'hi=x:=⟨_,rfl⟩
   have hxl:C.data.toList[i]?=some x:=by rw[←hx];exact Lib.data_getElem? C i hi
   have hx128:¬((128:Int)≤(x.toNat:Int)):=by have:=HA.out i x hxl;omega
   have hx256:(x.toNat:Int)<256:=by have:=HA.out i x hxl;omega
   have hcell:=Lib.setCells_at (C.data.toList.take i) x
   have Hx:=hid hxl
   clear hxl
   go_wp2_with fail
   go_roundg g
   case measure=>omega
   case rel=>exact⟨i+1,by omega,by first|rfl|simp,by rw[List.take_add_one,Hx.out];simp only[Option.toList];rw[Lib.setCells_snoc]⟩
end Go.Proofs.YtmlmkmhkmifnkaaGreatDoor.Hs
/-
 DERIVED:THE SHELF's CONTRACTS AT THIS DUMP,IN PLAIN WORDS (tools/lay-plain.mjs out of 'TrydShelf.lean',which tools/lay-shelf.mjs wrote):THE SAME DECLARATIONS UNDER THE SAME NAMES:'import','namespace','open','def','theorem' AND NOTHING ELSE:no command of the shelf's:FOR A HAND-IN. Each laying:the table of numbers ('.._ren') and one theorem,a field a fact of the dump's own or the kernel's comparison;each contract:ONE APPLICATION.
-/
namespace Go.Proofs
open Go.Shelf
def Tryz.lays732_ren:Go.Shelf.Ren:=⟨fun|32=>241|49=>272|n=>n,fun|30=>48|21=>21|3=>3|0=>0|5=>5|4=>4|33=>206|66=>279|25=>242|69=>282|68=>281|n=>n,fun|2=>2|3=>3|n=>n⟩
theorem Tryz.lays732:Go.Proofs.Lays7.n32 Tryz.prog Tryz.lays732_ren:={
 mixed:=by kernel_rfl
 f32:=Tryz.func241.trans (congrArg some (by kernel_rfl))
 f49:=Tryz.func272.trans (congrArg some (by kernel_rfl))
 t0:=Tryz.underlying0
 a0:=Tryz.isAgg0
 z0:=Tryz.sizeOf0
 v0:=Tryz.zeroValue0
 i0:=by kernel_rfl
 t3:=Tryz.underlying3
 a3:=Tryz.isAgg3
 z3:=Tryz.sizeOf3
 v3:=Tryz.zeroValue3
 i3:=by kernel_rfl
 t4:=Tryz.underlying4
 a4:=Tryz.isAgg4
 z4:=Tryz.sizeOf4
 v4:=Tryz.zeroValue4
 i4:=by kernel_rfl
 t5:=Tryz.underlying5
 a5:=Tryz.isAgg5
 z5:=Tryz.sizeOf5
 v5:=Tryz.zeroValue5
 i5:=by kernel_rfl
 t21:=Tryz.underlying21
 a21:=Tryz.isAgg21
 z21:=Tryz.sizeOf21
 v21:=Tryz.zeroValue21
 i21:=by kernel_rfl
 t25:=Tryz.underlying242
 a25:=Tryz.isAgg242
 z25:=Tryz.sizeOf242
 v25:=Tryz.zeroValue242
 i25:=by kernel_rfl
 t30:=Tryz.underlying48
 a30:=Tryz.isAgg48
 z30:=Tryz.sizeOf48
 v30:=Tryz.zeroValue48
 i30:=by kernel_rfl
 t33:=Tryz.underlying206
 a33:=Tryz.isAgg206
 z33:=Tryz.sizeOf206
 v33:=Tryz.zeroValue206
 i33:=by kernel_rfl
 t66:=Tryz.underlying279
 a66:=Tryz.isAgg279
 z66:=Tryz.sizeOf279
 t68:=Tryz.underlying281
 a68:=Tryz.isAgg281
 z68:=Tryz.sizeOf281
 v68:=Tryz.zeroValue281
 i68:=by kernel_rfl
 t69:=Tryz.underlying282
 a69:=Tryz.isAgg282
 z69:=Tryz.sizeOf282
 v69:=Tryz.zeroValue282
 i69:=by kernel_rfl
 g2:=by kernel_rfl
 g3:=by kernel_rfl}
end Go.Proofs
namespace Go.Proofs.YtmlmkmhkmifnkaaGreatDoor.Hs
open Go.RowKit
open Ci (hid Bel own_bel own_base row_shape addr_add Lay splitL splitL_len dec_big decode_asc)
def ask(x:UInt8):Bool:=x==13||x==0
theorem ask_big{b:UInt8}(h:128≤b.toNat):ask b=false:=by
 unfold ask
 rw[Bool.or_eq_false_iff,beq_eq_false_iff_ne,beq_eq_false_iff_ne]
 constructor<;>(rintro rfl;revert h;decide)
theorem ask_index(x:UInt8):decide (0≤Lib.indexByte crn.data.toList (((x.toNat:Nat):Int).toNat.toUInt8))=ask x:=by
 have e:((x.toNat:Nat):Int).toNat.toUInt8=x:=by simp
 rw[e]
 by_cases h1:x=13
 ·subst h1;rw[show crn.data.toList=[13,0]from rfl];simp[Lib.indexByte,ask]
 by_cases h2:x=0
 ·subst h2;rw[show crn.data.toList=[13,0]from rfl];simp[Lib.indexByte,ask]
 have h:ask x=false:=by unfold ask;rw[Bool.or_eq_false_iff,beq_eq_false_iff_ne,beq_eq_false_iff_ne];exact⟨h1,h2⟩
 rw[h,Ci.indexByte_no x crn.data.toList (by rw[show crn.data.toList=[13,0]from rfl];simp[h1,h2])]
 rfl
theorem ask_none{l:List UInt8}(h:∀j,j<l.length→ask (l.getD j 0)=false):l.any ask=false:=by
 rw[List.any_eq_false]
 intro x hx
 obtain⟨j,hj,rfl⟩:=List.getElem_of_mem hx
 have:=h j hj
 rw[List.getD_eq_getElem?_getD,List.getElem?_eq_getElem hj]at this
 simpa using this
theorem ask_at{l:List UInt8}{k:Nat}(hk:k<l.length)(hb:ask (l.getD k 0)=true):l.any ask=true:=by
 rw[List.any_eq_true]
 refine⟨l[k],List.getElem_mem hk,?_⟩
 rwa[List.getD_eq_getElem?_getD,List.getElem?_eq_getElem hk]at hb
theorem enc_head(r:Nat)(h:128≤r):∃x t,(Utf8.encode (r:Int)).data.toList=x::t∧128≤x.toNat:=by
 have c1:¬r<128:=by omega
 by_cases hv:Utf8.valid (r:Int)=true
 ·have hr:r≤1114111:=by unfold Utf8.valid at hv;simp at hv;omega
  by_cases c2:r<2048
  ·refine⟨UInt8.ofNat (192+r/64),[UInt8.ofNat (128+r%64)],by simp[Utf8.encode,hv,c1,c2],?_⟩
   simp;omega
  ·by_cases c3:r<65536
   ·refine⟨UInt8.ofNat (224+r/4096),[UInt8.ofNat (128+r/64%64),UInt8.ofNat (128+r%64)],by simp[Utf8.encode,hv,c1,c2,c3],?_⟩
    simp;omega
   ·refine⟨UInt8.ofNat (240+r/262144),[UInt8.ofNat (128+r/4096%64),UInt8.ofNat (128+r/64%64),UInt8.ofNat (128+r%64)],by simp[Utf8.encode,hv,c1,c2,c3],?_⟩
    simp;omega
 ·exact⟨239,[191,189],by simp[Utf8.encode,hv,Utf8.runeError],by decide⟩
theorem enc_s2(r:Nat)(h1:128≤r)(h2:r<2048):(Utf8.encode (r:Int)).size=2:=by
 have hv:Utf8.valid (r:Int)=true:=by unfold Utf8.valid;simp;omega
 unfold Utf8.encode
 simp only[hv,if_true]
 rw[if_neg (by omega),if_pos (by omega)];rfl
theorem enc_s3(r:Nat)(h1:2048≤r)(h2:r<65536)(h3:r<55296∨57344≤r):(Utf8.encode (r:Int)).size=3:=by
 have hv:Utf8.valid (r:Int)=true:=by unfold Utf8.valid;simp;omega
 unfold Utf8.encode
 simp only[hv,if_true]
 rw[if_neg (by omega),if_neg (by omega),if_pos (by omega)];rfl
theorem enc_s4(r:Nat)(h1:65536≤r)(h2:r≤1114111):(Utf8.encode (r:Int)).size=4:=by
 have hv:Utf8.valid (r:Int)=true:=by unfold Utf8.valid;simp;omega
 unfold Utf8.encode
 simp only[hv,if_true]
 rw[if_neg (by omega),if_neg (by omega),if_neg (by omega)];rfl
theorem dec_enc(n b0 b1 b2 b3:Nat)(h:¬b0<128):
 (Lib.decodeN n b0 b1 b2 b3).1=65533∨(2≤(Lib.decodeN n b0 b1 b2 b3).2∧(Utf8.encode ((Lib.decodeN n b0 b1 b2 b3).1:Int)).size=(Lib.decodeN n b0 b1 b2 b3).2):=by
 unfold Lib.decodeN
 repeat' split
 all_goals dsimp only
 all_goals first
  |exact absurd ‹b0<128› h
  |exact .inl rfl
  |exact .inr ⟨by omega,enc_s2 _ (by omega) (by omega)⟩
  |exact .inr ⟨by omega,enc_s3 _ (by omega) (by omega) (by omega)⟩
  |exact .inr ⟨by omega,enc_s4 _ (by omega) (by omega)⟩
theorem enc_index(r:Nat)(h:128≤r):Lib.index crn.data.toList (Utf8.encode (r:Int)).data.toList= -1:=by
 obtain⟨x,t,e,hx⟩:=enc_head r h
 have h1:(x==13)=false:=by rw[beq_eq_false_iff_ne];rintro rfl;revert hx;decide
 have h2:(x==0)=false:=by rw[beq_eq_false_iff_ne];rintro rfl;revert hx;decide
 rw[e,show crn.data.toList=[13,0]from rfl]
 simp[Lib.index,List.isPrefixOf,h1,h2]
theorem enc_ne(r:Nat)(h:128≤r):(crn.toList==(Utf8.encode (r:Int)).toList)=false:=by
 obtain⟨x,t,e,hx⟩:=enc_head r h
 have h1:x≠13:=by rintro rfl;revert hx;decide
 have hne:crn.data.toList≠(Utf8.encode (r:Int)).data.toList:=by
  rw[e,show crn.data.toList=[13,0]from rfl]
  intro e2
  injection e2 with e3 _
  exact h1 e3.symm
 rw[beq_eq_false_iff_ne,ByteArray.toList_eq,ByteArray.toList_eq]
 exact hne
theorem u8dec_run(s:ByteArray)(b off cap:Nat)(w:World)(hT:Lib.Utf8Tabs 2 3 w)(hp:∀j,j<s.size→w.cell? ⟨b,off+j,none⟩=some (.int .u8 (s.get! j).toNat)):
 Calls Tryz.prog 241 #[.slice (some ⟨b,off,none⟩) s.size cap] w fun e w'=>e=.returned (.tuple #[.int .i32 (Lib.decodeGo s).1,.int .i64 (Lib.decodeGo s).2])∧Below w.heap.size w w':=Any7.utf8_DecodeRune Tryz.lays732 s b off cap w hT hp
theorem brune_run(b o c k:Nat)(l:List UInt8)(w:World)(hw:Tb.Lat w)(hk:k<l.length)(hc:∀i (h:i<l.length),w.cell? ⟨b,o+i,none⟩=some (.int .u8 (l[i].toNat:Int)))(hb:128≤(l.getD k 0).toNat):
 Calls Tryz.prog 241 #[.slice (some ⟨b,o+k,none⟩) (l.length-k) c] w fun e w'=>∃r n:Nat,e=.returned (.tuple #[.int .i32 (r:Int),.int .i64 (n:Int)])∧Bel w w'∧128≤r∧r≤1114111∧1≤n∧k+n≤l.length∧(∀j,k≤j→j<k+n→ask (l.getD j 0)=false)∧(r=65533∨2≤n∧(Utf8.encode (r:Int)).size=n):=by
 obtain⟨s,hs⟩:∃s:ByteArray,s=⟨(l.drop k).toArray⟩:=⟨_,rfl⟩
 have hsz:s.size=l.length-k:=by rw[hs];show(l.drop k).toArray.size=_;simp
 have hg:∀i,(s.get! i)=l.getD (k+i) 0:=fun i=>by
  rw[Ci.get_at,hs]
  show(l.drop k).getD i 0=_
  rw[List.getD_eq_getElem?_getD,List.getD_eq_getElem?_getD,List.getElem?_drop]
 have hL:∀i (hi:i<l.length),l.getD i 0=l[i]:=fun i hi=>by
  rw[List.getD_eq_getElem?_getD,List.getElem?_eq_getElem hi];rfl
 have hR:=u8dec_run s b (o+k) c w (hw.tabs w (Bel.refl w)) (fun j hj=>by
  rw[hg,Nat.add_assoc,hc (k+j) (by omega),hL (k+j) (by omega)])
 rw[hsz]at hR
 refine hR.mono ?_
 rintro e w' ⟨rfl,hbl⟩
 have hd:Lib.decodeGo s=Lib.decodeN (l.length-k) (l.getD k 0).toNat (l.getD (k+1) 0).toNat (l.getD (k+2) 0).toNat (l.getD (k+3) 0).toNat:=by
  unfold Lib.decodeGo
  rw[if_neg (by omega),Lib.decode_at,hg,hg,hg,hg,hsz]
  rfl
 have g:=dec_big (l.length-k) (l.getD k 0).toNat (l.getD (k+1) 0).toNat (l.getD (k+2) 0).toNat (l.getD (k+3) 0).toNat (by omega) (by omega)
 have g8:=dec_enc (l.length-k) (l.getD k 0).toNat (l.getD (k+1) 0).toNat (l.getD (k+2) 0).toNat (l.getD (k+3) 0).toNat (by omega)
 have g9:(Lib.decodeGo s).1≤1114111:=by
  unfold Lib.decodeGo
  rw[if_neg (by omega)]
  exact Lib.rune_le s 0
 rw[←hd]at g g8
 obtain⟨g1,g2,g3,g4,g5,g6,g7⟩:=g
 refine⟨(Lib.decodeGo s).1,(Lib.decodeGo s).2,rfl,hbl,g1,g9,g2,by omega,fun j h1 h2=>ask_big ?_,g8⟩
 obtain⟨q,rfl⟩:∃q,j=k+q:=⟨j-k,by omega⟩
 have hq:q=0∨q=1∨q=2∨q=3:=by omega
 rcases hq with rfl|rfl|rfl|rfl
 ·exact hb
 ·exact g5 (by omega)
 ·exact g6 (by omega)
 ·exact g7 (by omega)
end Go.Proofs.YtmlmkmhkmifnkaaGreatDoor.Hs
namespace Go.Proofs.YtmlmkmhkmifnkaaGreatDoor.Hs
open Go.RowKit
open Ci (hid Bel own_bel own_base row_shape addr_add Lay splitL splitL_len dec_big decode_asc)
theorem ibs_run(x:UInt8)(W:World):(callFunc 243 #[.string crn,.int .u8 ((x.toNat:Nat):Int)]).run Tryz.prog W=.ok (.value (.int .i64 (Lib.indexByte crn.data.toList (((x.toNat:Nat):Int).toNat.toUInt8)))) W:=by
 rw[run_callFunc_extern Tryz.func243 (by kernel_rfl) (by kernel_rfl) (by kernel_rfl) (e:=Extern.BytealgIndexByte.indexByte) (by kernel_rfl),Lib.run_indexByteString]
 rfl
theorem is_run(T:ByteArray)(m:Int)(W:World)(hm:W.cell? ⟨1,0,none⟩=some (.int .i64 m))(h2:2≤T.size)(h3:(T.size:Int)≤m):(callFunc 248 #[.string crn,.string T]).run Tryz.prog W=.ok (.value (.int .i64 (Lib.index crn.data.toList T.data.toList))) W:=by
 rw[run_callFunc_extern Tryz.func248 (by kernel_rfl) (by kernel_rfl) (by kernel_rfl) (e:=Extern.BytealgIndex.index) (by kernel_rfl),Lib.run_indexString _ _ _ 1 m (by kernel_rfl) hm h2 h3 (by decide)]
 rfl
theorem bidx_one(b o c:Nat)(x:UInt8)(w:World)(hc:w.cell? ⟨b,o,none⟩=some (.int .u8 (x.toNat:Int))):
 Calls Tryz.prog 192 #[.slice (some ⟨b,o,none⟩) 1 c,.string crn] w fun e w'=>∃E:Int,e=.returned (.int .i64 E)∧decide (0≤E)=ask x∧Bel w w':=by
 have hI:=ibs_run x
 have hq:=hid (ask_index x)
 have ha:=hid (show∀b∈crn.data.toList,b.toNat<128 by decide)
 have hemp:crn.toList.isEmpty=false:=by rw[ByteArray.toList_eq];rfl
 have hemp2:(crn.toList==[])=false:=by rw[ByteArray.toList_eq];rfl
 have hn2:crn.size=2:=rfl
 generalize Lib.indexByte crn.data.toList (((x.toNat:Nat):Int).toNat.toUInt8)=q at hI hq
 generalize crn=B at hI hemp hemp2 hn2 ha⊢
 by_cases hx:x.toNat<128
 ·have hx1:¬((128:Int)≤(x.toNat:Int)):=by omega
  by_cases hq0:0≤q
  ·have hA:=hid (show ask x=true by rw[←hq.out];exact decide_eq_true hq0)
   go_enter Tryz.func192,Tryz.ntmps192
   go_wp2_with fail
   go_ret
   exact⟨0,rfl,by rw[hA.out];rfl,Bel.refl _⟩
  ·have hA:=hid (show ask x=false by rw[←hq.out];exact decide_eq_false hq0)
   go_enter Tryz.func192,Tryz.ntmps192
   go_wp2_with fail
   go_ret
   exact⟨-1,rfl,by rw[hA.out];rfl,Bel.refl _⟩
 ·have hA:=hid (show ask x=false from ask_big (by omega))
  have hx1:(128:Int)≤wrap32 (x.toNat:Int):=by
   have:=x.toNat_lt
   unfold wrap32
   omega
  clear hI hx hq
  go_enter Tryz.func192,Tryz.ntmps192
  go_wp2_with fail
  go_loopg [] B.size (fun gf wx=>∃pos:Nat,wx.heap[w.heap.size]?=some (.stringIter B pos)∧Below w.heap.size w wx∧B.size≤pos+gf)
  case atStart=>exact⟨0,World.iter_heap w B 0,(Below.refl _ w).alloc (Nat.le_refl _) _,by omega⟩
  case round=>
   obtain⟨pos,hit,hbw,hfu⟩:=hrel
   by_cases hps:pos<B.size
   ·have hnx:∀ty,(Instr.next (.pointer (some ⟨w.heap.size,0,none⟩)) true ty).run Tryz.prog wr=_:=fun ty=>Lib.run_next_any_at wr w.heap.size B pos ty hit hps
    obtain⟨b,hb,hd⟩:=decode_asc B ha.out pos hps
    rw[hd]at hnx
    have hit2:=Lib.iterAt_heap wr w.heap.size B pos (pos+1) hit
    have hbw2:=Lib.below_iterAt hbw (k:=w.heap.size) (Nat.le_refl _) B (pos+1)
    obtain⟨W,hWd⟩:∃W,wr.iterAt w.heap.size B (pos+1)=W:=⟨_,rfl⟩
    rw[hWd]at hnx hit2 hbw2
    have db:((b:Int)==65533)=false:=by rw[beq_eq_false_iff_ne];omega
    clear hd hWd
    go_wp2_with fail
    go_roundg (gk-1)
    case measure=>omega
    case rel=>exact⟨pos+1,hit2,hbw2,by omega⟩
   ·have hnx:∀ty,(Instr.next (.pointer (some ⟨w.heap.size,0,none⟩)) true ty).run Tryz.prog wr=_:=fun ty=>Lib.run_next_end_at wr w.heap.size B pos ty hit hps
    go_wp2_with fail
    go_ret
    exact⟨-1,rfl,by rw[hA.out];rfl,hbw⟩
theorem bidx_long(b o c:Nat)(l:List UInt8)(w:World)(hc:∀i (h:i<l.length),w.cell? ⟨b,o+i,none⟩=some (.int .u8 (l[i].toNat:Int)))(h8:8<l.length)(hs:l.length<4294967281):
 Calls Tryz.prog 192 #[.slice (some ⟨b,o,none⟩) l.length c,.string crn] w fun e w'=>∃E:Int,e=.returned (.int .i64 E)∧decide (0≤E)=l.any ask∧Bel w w':=by
 have hemp:crn.toList.isEmpty=false:=by rw[ByteArray.toList_eq];rfl
 have hemp2:(crn.toList==[])=false:=by rw[ByteArray.toList_eq];rfl
 have hn2:crn.size=2:=rfl
 have HM:=hid (mkset_run w)
 have hS:=Lib.setCells_at crn.data.toList
 have hsz:=Lib.setCells_size crn.data.toList
 have hS1:=Lib.setCells_one crn.data.toList
 rw[show crn.data.toList=[13,0]from rfl]at hS hsz hS1 HM
 generalize crn=B at HM hemp hemp2 hn2⊢
 obtain⟨S,hSS⟩:∃S,S=Lib.setCells [13,0]:=⟨_,rfl⟩
 rw[←hSS]at hS hsz hS1 HM
 clear hSS
 obtain⟨n,hn⟩:∃n,n=l.length:=⟨_,rfl⟩
 have HC:=hid hc
 have HN:=hid hn
 rw[←hn]
 rw[←hn]at h8 hs
 clear hc hn
 have b1:((n:Int)==1)=false:=by rw[beq_eq_false_iff_ne];omega
 have b8:decide (8<(n:Int))=true:=decide_eq_true (by omega)
 have HS:=(show Hid (∀W,Calls Tryz.prog 245 #[.int .i64 (n:Int)] W fun e w'=>e=.returned (.bool true)∧w'=W)from hid fun W=>by rw[←b8];exact bshould_run _ W)
 clear b8
 go_enter Tryz.func192,Tryz.ntmps192
 go_upto_region 21 with(first|(go_at_call 245;refine(HS.out _).mono ?_;rintro e w1 ⟨rfl,rfl⟩))
 have hz:Tryz.zeroCells270=Lib.setCells []:=by kernel_rfl
 have hi:(Tryz.prog.info? 270).map (·.size)=some S.size:=by rw[hsz];kernel_rfl
 have hz2:Tryz.zeroCells270.size=S.size:=by rw[hz,Lib.setCells_size,hsz]
 clear hz
 refine wp_region_lit ?_
 iterate 3 go_step
 go_step
 go_step
 go_at_call 246
 refine HM.out.mono ?_
 rintro e w2 ⟨rfl,hw2⟩
 have HW2:=hid hw2
 clear hw2
 dsimp only
 go_step
 iterate 12 go_step
 refine wpl_store rfl _ _ _ rfl _ S rfl rfl hi hz2 hS1 ?_
 obtain⟨W,hW⟩:∃W,w2.alloc (.cells S 270)=W:=⟨_,rfl⟩
 rw[hW]
 have HB:=hid (show Bel w1 W by rw[←hW,HW2.out];exact((Bel.refl _).alloc _).alloc _)
 have HC2:=hid (show∀i (h:i<l.length),W.cell? ⟨b,o+i,none⟩=some (.int .u8 (l[i].toNat:Int))from fun i h=>by
  exact(Below.cell HB.out (World.block_lt_of_cell? _ _ (HC.out i h))).trans (HC.out i h))
 have HS2:=hid (show∀x:UInt8,W.cell? ⟨w2.heap.size,x.toNat,none⟩=some (.bool (ask x))from fun x=>by
  have e:=hS x
  rw[←hW,cell_of_row _ _ x.toNat S 270 (0,0) (heap_alloc_last w2 _),e]
  rw[show([13,0]:List UInt8).contains x=ask x by unfold ask;rw[List.contains_cons,List.contains_cons,List.contains_nil,Bool.or_false]])
 obtain⟨g,hg⟩:∃g,w2.heap.size=g:=⟨_,rfl⟩
 rw[hg]at HS2⊢
 clear hW HM HC HW2 hg hS hS1 hsz hi hz2 HS hemp hemp2 hn2
 go_wp2_with fail
 go_loopg [62] n (fun gg v62 wr=>∃k:Nat,v62=.int .i64 k∧k+gg=n∧Hid (wr=W∧∀j,j<k→ask (l.getD j 0)=false))
 case atStart=>exact⟨0,rfl,by omega,hid ⟨rfl,fun j hj=>absurd hj (Nat.not_lt_zero _)⟩⟩
 case round=>
  obtain⟨k,rfl,hk,H⟩:=hrel
  have HK:=hid hk
  have hkn:k≤n:=by omega
  clear hk
  have ew:=H.out.1.symm
  have HNo:=hid H.out.2
  clear H
  subst ew
  by_cases hlt:k<n
  ·have b0:decide ((k:Int)<(n:Int))=true:=decide_eq_true (by omega)
   have i0:(k:Int)<(n:Int):=by omega
   have hkL:k<l.length:=by rw[←HN.out];exact hlt
   obtain⟨x,hx⟩:∃x,x=l[k]:=⟨_,rfl⟩
   have HX:=hid (show l.getD k 0=x by rw[hx,List.getD_eq_getElem?_getD,List.getElem?_eq_getElem hkL];rfl)
   have hcell:=HC2.out k hkL
   rw[←hx]at hcell
   clear hx
   obtain⟨a,ha⟩:∃a,a=ask x:=⟨_,rfl⟩
   have HCo:=hid (bcontains_run g x a W (by rw[ha];exact HS2.out x))
   have HA:=hid ha
   clear ha
   have HL:=hid hkL
   clear hkL
   cases a with
   |true=>
    have HY:=hid (show l.any ask=true from ask_at HL.out (by rw[HX.out];exact HA.out.symm))
    go_wp2_with (first|(go_at_call 247;refine HCo.out.mono ?_;rintro _ _ ⟨rfl,rfl⟩))
    go_ret
    exact⟨_,rfl,by rw[HY.out];exact decide_eq_true (by omega),HB.out⟩
   |false=>
    have HNo2:=hid (show∀j,j<k+1→ask (l.getD j 0)=false from fun j hj=>by
     rcases Nat.lt_succ_iff_lt_or_eq.mp hj with h|rfl
     ·exact HNo.out j h
     ·rw[HX.out];exact HA.out.symm)
    go_wp2_with (first|(go_at_call 247;refine HCo.out.mono ?_;rintro _ _ ⟨rfl,hww⟩;have hww:=hww.symm;subst hww))
    go_roundg (gk-1)
    case measure=>have:=HK.out;omega
    case rel=>exact⟨k+1,by go_num,by have:=HK.out;omega,hid ⟨rfl,HNo2.out⟩⟩
  ·have b0:decide ((k:Int)<(n:Int))=false:=decide_eq_false (by omega)
   have i0:¬((k:Int)<(n:Int)):=by omega
   have HY:=hid (show l.any ask=false from ask_none fun j hj=>HNo.out j (by rw[←HN.out]at hj;omega))
   go_wp2_with fail
   go_ret
   exact⟨_,rfl,by rw[HY.out];rfl,HB.out⟩
end Go.Proofs.YtmlmkmhkmifnkaaGreatDoor.Hs
namespace Go.Proofs.YtmlmkmhkmifnkaaGreatDoor.Hs
open Go.RowKit
open Ci (hid Bel own_bel own_base row_shape addr_add Lay splitL splitL_len dec_big decode_asc)
theorem bidx_short(b o c:Nat)(l:List UInt8)(w:World)(hw:Tb.Lat w)(hc:∀i (h:i<l.length),w.cell? ⟨b,o+i,none⟩=some (.int .u8 (l[i].toNat:Int)))(hlc:l.length≤c)(_hlt:c≤9223372036854775807)(h8:l.length≤8)(h1:l.length≠1):
 Calls Tryz.prog 192 #[.slice (some ⟨b,o,none⟩) l.length c,.string crn] w fun e w'=>∃E:Int,e=.returned (.int .i64 E)∧decide (0≤E)=l.any ask∧Bel w w':=by
 have HI:=(show Hid (∀(x:UInt8) (W:World),(callFunc 243 #[.string crn,.int .u8 ((x.toNat:Nat):Int)]).run Tryz.prog W=.ok (.value (.int .i64 (Lib.indexByte crn.data.toList (((x.toNat:Nat):Int).toNat.toUInt8)))) W)from hid ibs_run)
 have HIS:=(show Hid (∀(r:Nat) (m:Int) (W:World),128≤r→W.cell? ⟨1,0,none⟩=some (.int .i64 m)→2≤(Utf8.encode (r:Int)).size→((Utf8.encode (r:Int)).size:Int)≤m→(callFunc 248 #[.string crn,.string (Utf8.encode (r:Int))]).run Tryz.prog W=.ok (.value (.int .i64 (-1))) W)from hid fun r m W h hm h2 h3=>by
  rw[is_run _ m W hm h2 h3,enc_index r h])
 have HNe:=(show Hid (∀r:Nat,128≤r→(crn.toList==(Utf8.encode (r:Int)).toList)=false)from hid enc_ne)
 have HAsk:=(show Hid (∀x:UInt8,decide (0≤Lib.indexByte crn.data.toList (((x.toNat:Nat):Int).toNat.toUInt8))=ask x)from hid ask_index)
 have ha:=hid (show∀b∈crn.data.toList,b.toNat<128 by decide)
 have hemp:crn.toList.isEmpty=false:=by rw[ByteArray.toList_eq];rfl
 have hemp2:(crn.toList==[])=false:=by rw[ByteArray.toList_eq];rfl
 have hn2:crn.size=2:=rfl
 generalize crn=B at HI HIS HNe HAsk ha hemp hemp2 hn2⊢
 obtain⟨n,hn⟩:∃n,n=l.length:=⟨_,rfl⟩
 have HC:=hid hc
 have HN:=hid hn
 have HW:=hid hw
 rw[←hn]
 rw[←hn]at h8 h1 hlc
 clear hc hn hw
 have b1:((n:Int)==1)=false:=by rw[beq_eq_false_iff_ne];omega
 have b8:decide (8<(n:Int))=false:=decide_eq_false (by omega)
 have HS:=(show Hid (∀W,Calls Tryz.prog 245 #[.int .i64 (n:Int)] W fun e w'=>e=.returned (.bool false)∧w'=W)from hid fun W=>by rw[←b8];exact bshould_run _ W)
 clear b8
 go_enter Tryz.func192,Tryz.ntmps192
 go_wp2_with (first|(go_at_call 245;refine(HS.out _).mono ?_;rintro e w1 ⟨rfl,hw1⟩;have hw1:=hw1.symm;subst hw1))
 clear HS b1 h1
 go_loopg [12] n (fun gg v12 wr=>∃k:Nat,v12=.int .i64 k∧n≤k+gg∧k≤n∧Hid (Bel w wr∧∀j,j<k→ask (l.getD j 0)=false))
 case atStart=>exact⟨0,rfl,by omega,by omega,hid ⟨Bel.refl _,fun j hj=>absurd hj (Nat.not_lt_zero _)⟩⟩
 case round=>
  obtain⟨k,rfl,hk,hkn,H⟩:=hrel
  have HK:=hid hk
  clear hk
  have HB:=hid H.out.1
  have HNo:=hid H.out.2
  clear H
  by_cases hlt2:k<n
  ·have i0:(k:Int)<(n:Int):=by omega
   have hkL:k<l.length:=by rw[←HN.out];exact hlt2
   obtain⟨x,hx⟩:∃x,x=l[k]:=⟨_,rfl⟩
   have HX:=hid (show l.getD k 0=x by rw[hx,List.getD_eq_getElem?_getD,List.getElem?_eq_getElem hkL];rfl)
   have hcell:wr.cell? ⟨b,o+k,none⟩=some (.int .u8 (x.toNat:Int)):=by
    rw[hx];exact(Below.cell HB.out (World.block_lt_of_cell? _ _ (HC.out k hkL))).trans (HC.out k hkL)
   clear hx
   have HL:=hid hkL
   clear hkL
   by_cases hx7:x.toNat<128
   ·have i7:(x.toNat:Int)<128:=by omega
    have hI:=HI.out x
    have hA:=HAsk.out x
    generalize Lib.indexByte B.data.toList (((x.toNat:Nat):Int).toNat.toUInt8)=q at hI hA
    by_cases hq0:0≤q
    ·have HY:=hid (show l.any ask=true from ask_at HL.out (by rw[HX.out,←hA];exact decide_eq_true hq0))
     clear hA
     go_wp2_with fail
     go_ret
     exact⟨_,rfl,by rw[HY.out];exact decide_eq_true (by omega),HB.out⟩
    ·have HNo2:=hid (show∀j,j<k+1→ask (l.getD j 0)=false from fun j hj=>by
      rcases Nat.lt_succ_iff_lt_or_eq.mp hj with h|rfl
      ·exact HNo.out j h
      ·rw[HX.out,←hA];exact decide_eq_false hq0)
     clear hA
     go_wp2_with fail
     go_roundg (gk-1)
     case measure=>have:=HK.out;omega
     case rel=>exact⟨k+1,by go_num,by have:=HK.out;omega,by omega,hid ⟨HB.out,HNo2.out⟩⟩
   ·have i7:¬(wrap32 (x.toNat:Int)<128):=by
     have:=x.toNat_lt
     unfold wrap32
     omega
    have hD:=brune_run b o (c-k) k l wr (HW.out.next HB.out) HL.out (fun i h=>(Below.cell HB.out (World.block_lt_of_cell? _ _ (HC.out i h))).trans (HC.out i h)) (by rw[HX.out];omega)
    rw[←HN.out]at hD
    have HD:=hid hD
    clear hD
    go_upto_region 40 with(first|(go_at_call 241;refine HD.out.mono ?_;rintro e w2 ⟨r,nn,rfl,hb2,hr1,hr2,hn1,hkn2,hno,hen⟩;have HB2:=hid (HB.out.trans hb2);have HNO:=hid hno;have HEN:=hid hen;clear hb2 hno hen))
    have HNo2:=hid (show∀j,j<k+nn→ask (l.getD j 0)=false from fun j hj=>by
     by_cases h:j<k
     ·exact HNo.out j h
     ·exact HNO.out j (by omega) hj)
    obtain⟨m,hm⟩:=((HW.out.next HB2.out).lay).most
    clear hcell HNo HNO i7 hx7 HX HC HAsk HI HD
    have HKn:=hid (show k+nn≤n from hkn2)
    by_cases hA:r≠65533∧nn=2
    ·have d0:((r:Int)==65533)=false:=by rw[beq_eq_false_iff_ne];omega
     have d2:(2:Int)==(nn:Int):=by rw[hA.2];rfl
     have hne:=HNe.out r hr1
     clear hA
     go_wp2_with fail
     go_roundg (gk-nn)
     case measure=>have:=HK.out;omega
     case rel=>exact⟨k+nn,by go_num,by have:=HK.out;omega,by have:=HKn.out;omega,hid ⟨HB2.out,HNo2.out⟩⟩
    ·by_cases hB:r≠65533∧(nn:Int)≤m
     ·have d0:((r:Int)==65533)=false:=by rw[beq_eq_false_iff_ne];omega
      have d2:((2:Int)==(nn:Int))=false:=by rw[beq_eq_false_iff_ne];omega
      have he:2≤nn∧(Utf8.encode (r:Int)).size=nn:=by
       rcases HEN.out with h|h
       ·exact absurd h hB.1
       ·exact h
      have dm:=hB.2
      have hIS:=HIS.out r m w2 hr1 hm (by rw[he.2];exact he.1) (by rw[he.2];exact dm)
      clear hB hA he HEN
      go_wp2_with fail
      go_roundg (gk-nn)
      case measure=>have:=HK.out;omega
      case rel=>exact⟨k+nn,by go_num,by have:=HK.out;omega,by have:=HKn.out;omega,hid ⟨HB2.out,HNo2.out⟩⟩
     ·have hC:r=65533∨r≠65533∧nn≠2∧¬(nn:Int)≤m:=by
       by_cases h0:r=65533
       ·exact .inl h0
       ·by_cases h2:nn=2
        ·exact absurd ⟨h0,h2⟩ hA
        ·exact .inr ⟨h0,h2,fun h=>hB ⟨h0,h⟩⟩
      clear hA hB HEN
      obtain⟨G,hG⟩:∃G,G=gk:=⟨_,rfl⟩
      subst hG
      rcases hC with hC|hC
      ·have d0:((r:Int) !=65533)=false:=by rw[hC];rfl
       clear hC
       go_wp2_with fail
       go_loopg [] B.size (fun gf wx=>∃pos:Nat,wx.heap[w2.heap.size]?=some (.stringIter B pos)∧Hid (Bel w2 wx)∧B.size≤pos+gf)
       case atStart=>exact⟨0,World.iter_heap w2 B 0,hid ((Bel.refl w2).alloc _),by omega⟩
       case round=>
        obtain⟨pos,hit,HBw,hfu⟩:=hrel
        by_cases hps:pos<B.size
        ·have hnx:∀ty,(Instr.next (.pointer (some ⟨w2.heap.size,0,none⟩)) true ty).run Tryz.prog wr=_:=fun ty=>Lib.run_next_any_at wr w2.heap.size B pos ty hit hps
         obtain⟨z,hz,hd⟩:=decode_asc B ha.out pos hps
         rw[hd]at hnx
         have hit2:=Lib.iterAt_heap wr w2.heap.size B pos (pos+1) hit
         have HBw2:=hid (show Bel w2 _ from Lib.below_iterAt HBw.out (k:=w2.heap.size) (Nat.le_refl _) B (pos+1))
         obtain⟨W,hWd⟩:∃W,wr.iterAt w2.heap.size B (pos+1)=W:=⟨_,rfl⟩
         rw[hWd]at hnx hit2 HBw2
         have db:((r:Int)==(z:Int))=false:=by rw[beq_eq_false_iff_ne];omega
         clear hd hWd
         go_wp2_with fail
         go_roundg (gk-1)
         case measure=>omega
         case rel=>exact⟨pos+1,hit2,HBw2,by omega⟩
        ·have hnx:∀ty,(Instr.next (.pointer (some ⟨w2.heap.size,0,none⟩)) true ty).run Tryz.prog wr=_:=fun ty=>Lib.run_next_end_at wr w2.heap.size B pos ty hit hps
         go_wp2_with fail
         go_roundg (G-nn)
         case measure=>have:=HK.out;omega
         case rel=>exact⟨k+nn,by go_num,by have:=HK.out;omega,by have:=HKn.out;omega,hid ⟨HB2.out.trans HBw.out,HNo2.out⟩⟩
      ·have d0:((r:Int) !=65533)=true:=by rw[bne_iff_ne];omega
       have d2:((2:Int)==(nn:Int))=false:=by rw[beq_eq_false_iff_ne];omega
       have dm:decide ((nn:Int)≤m)=false:=decide_eq_false hC.2.2
       clear hC
       go_wp2_with fail
       go_loopg [] B.size (fun gf wx=>∃pos:Nat,wx.heap[w2.heap.size]?=some (.stringIter B pos)∧Hid (Bel w2 wx)∧B.size≤pos+gf)
       case atStart=>exact⟨0,World.iter_heap w2 B 0,hid ((Bel.refl w2).alloc _),by omega⟩
       case round=>
        obtain⟨pos,hit,HBw,hfu⟩:=hrel
        by_cases hps:pos<B.size
        ·have hnx:∀ty,(Instr.next (.pointer (some ⟨w2.heap.size,0,none⟩)) true ty).run Tryz.prog wr=_:=fun ty=>Lib.run_next_any_at wr w2.heap.size B pos ty hit hps
         obtain⟨z,hz,hd⟩:=decode_asc B ha.out pos hps
         rw[hd]at hnx
         have hit2:=Lib.iterAt_heap wr w2.heap.size B pos (pos+1) hit
         have HBw2:=hid (show Bel w2 _ from Lib.below_iterAt HBw.out (k:=w2.heap.size) (Nat.le_refl _) B (pos+1))
         obtain⟨W,hWd⟩:∃W,wr.iterAt w2.heap.size B (pos+1)=W:=⟨_,rfl⟩
         rw[hWd]at hnx hit2 HBw2
         have db:((r:Int)==(z:Int))=false:=by rw[beq_eq_false_iff_ne];omega
         clear hd hWd
         go_wp2_with fail
         go_roundg (gk-1)
         case measure=>omega
         case rel=>exact⟨pos+1,hit2,HBw2,by omega⟩
        ·have hnx:∀ty,(Instr.next (.pointer (some ⟨w2.heap.size,0,none⟩)) true ty).run Tryz.prog wr=_:=fun ty=>Lib.run_next_end_at wr w2.heap.size B pos ty hit hps
         go_wp2_with fail
         go_roundg (G-nn)
         case measure=>have:=HK.out;omega
         case rel=>exact⟨k+nn,by go_num,by have:=HK.out;omega,by have:=HKn.out;omega,hid ⟨HB2.out.trans HBw.out,HNo2.out⟩⟩
  ·have i0:¬((k:Int)<(n:Int)):=by omega
   have HY:=hid (show l.any ask=false from ask_none fun j hj=>HNo.out j (by rw[←HN.out]at hj;omega))
   go_wp2_with fail
   go_ret
   exact⟨_,rfl,by rw[HY.out];rfl,HB.out⟩
theorem bidx_run(b o c:Nat)(l:List UInt8)(w:World)(hw:Tb.Lat w)(hl:Br w (some ⟨b,o,none⟩) c l)(hs:l.length<4294967281):
 Calls Tryz.prog 192 #[.slice (some ⟨b,o,none⟩) l.length c,.string crn] w fun e w'=>∃E:Int,e=.returned (.int .i64 E)∧decide (0≤E)=l.any ask∧Bel w w':=by
 have hc:∀i (h:i<l.length),w.cell? ⟨b,o+i,none⟩=some (.int .u8 (l[i].toNat:Int)):=fun i h=>by
  obtain⟨b',o',e,h2⟩:=hl.bs (by omega)
  cases e
  exact h2 i h
 by_cases h1:l.length=1
 ·obtain⟨x,rfl⟩:∃x,l=[x]:=List.length_eq_one_iff.mp h1
  have:=bidx_one b o c x w (hc 0 (Nat.zero_lt_one))
  simpa using this
 ·by_cases h8:8<l.length
  ·exact bidx_long b o c l w hc h8 hs
  ·exact bidx_short b o c l w hw hc hl.le hl.lt (by omega) h1
theorem any_run:AnyRun:=fun b o c l w hw hl hs=>by
 have HI:=hid (bidx_run b o c l w hw hl hs)
 rw[show(fun x=>x==13||x==0)=ask from rfl]
 rw[show(⟨#[13,0]⟩:ByteArray)=crn from rfl]
 generalize l.any ask=a at HI⊢
 generalize crn=B at HI⊢
 clear hw hl hs
 go_enter Tryz.func117,Tryz.ntmps117
 go_wp2_with (first|(go_at_call 192;refine HI.out.mono ?_;rintro e w2 ⟨E,rfl,hE,hb2⟩;have HE:=hid hE;have HB2:=hid hb2;clear hE hb2))
 go_ret
 exact⟨by rw[←HE.out];rfl,HB2.out⟩
end Go.Proofs.YtmlmkmhkmifnkaaGreatDoor.Hs