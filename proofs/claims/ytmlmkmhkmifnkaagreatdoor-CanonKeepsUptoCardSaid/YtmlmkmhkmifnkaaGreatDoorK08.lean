import Derived.Test.YtmlmkmhkmifnkaaGreatDoorK07
set_option maxHeartbeats 16000000
set_option maxRecDepth 1000000
namespace Go.Proofs.YtmlmkmhkmifnkaaGreatDoor.Ma
open Go.RowKit
open Ci (Bel heap_setCells heap_setCells_other there_of)
theorem cells_one{v:Value}(h1:v.oneCell'=true):v.cells=#[v]:=by
 cases v<;>first|rfl|(simp[Value.oneCell']at h1;done)
theorem run_storeVar_one{P:Program}(w:World)(b o:Nat)(ty:TypeId)(v:Value)(ht:w.there b o 1)(hi:(P.info? ty).map (·.size)=some 1)(h1:v.oneCell'=true):
 (storeVar ty ⟨b,o,none⟩ v).run P w=.ok () (w.setCells b o [v]):=by
 have:=run_storeCells_cells (P:=P) b o [v] 0 w (fun j hj=>by simpa using(ht j (by simpa using hj)).1) (fun j hj=>by simpa using(ht j (by simpa using hj)).2)
  (fun u hu=>by rw[List.mem_singleton.1 hu];exact h1)
 cases hq:P.info? ty with
 |none=>simp[hq]at hi
 |some i=>
  have hs:i.size=1:=by simpa[hq]using hi
  simp only[Nat.add_zero]at this
  simp[storeVar,sizeOf,typeInfo,hq,cells_one h1,hs,this]
theorem wpList_store_one {P:Program} {ops:Array Oper} {rest:List Oper} {op:Oper} {a:Act} {w:World} {Q:Exit→Act→World→Prop} (hgd:op.guard=none) (ty:TypeId) (x y:Operand) (ho:op.op=.store ty x y)
 (b o:Nat) (v:Value) (hx:a.eval x=.pointer (some ⟨b,o,none⟩)) (hy:a.eval y=v) (h1:v.oneCell'=true) (hi:(P.info? ty).map (·.size)=some 1)
 (cs:List Value) (T:TypeId) (hb:w.heap[b]?=some (.cells cs.toArray T (0,0))) (hk:o<cs.length)
 (h:∀w',w'.heap[b]?=some (.cells (cs.take o++v::cs.drop (o+1)).toArray T (0,0))→(∀k,k≠b→w'.heap[k]?=w.heap[k]?)→(∀U:World,Bel U w→U.heap.size≤b→Bel U w')→w'=w.setCells b o [v]→wpList P ops Q rest (a.put op.dst undef) w'):
 wpList P ops Q (op::rest) a w:=by
 have ht:w.there b o 1:=there_of hb (by omega)
 refine wpList_plain hgd fun _ hK=> ?_
 unfold Oper.wp execOp
 simp only[ho,hx,hy,Instr.storeAt,Instr.sureAddr,Sem.run_bind,Sem.run_pure,Result.andThen_ok,run_storeVar_one w b o ty v ht hi h1]
 refine hK _ _ (h _ ?_ (fun k hk=>heap_setCells_other b k hk [v] o w) (fun U hU hs=>Ci.Bel.setCells hs [v] o w hU) rfl)
 rw[heap_setCells b T [v] o w cs hb (by simp;omega)]
 simp
end Go.Proofs.YtmlmkmhkmifnkaaGreatDoor.Ma
namespace Go.Proofs.YtmlmkmhkmifnkaaGreatDoor.Ci
open Go.RowKit
def groupsOf:List Nat→List Nat
 |a::b::r=>(256*a+b)::groupsOf r
 |_=>[]
theorem groupsOf_len:∀(k:Nat) (l:List Nat),l.length=2*k→(groupsOf l).length=k
 |0,l,h=>by rw[List.eq_nil_of_length_eq_zero (l:=l) (by omega)];rfl
 |k+1,l,h=>by
  match l,h with
  |a::b::r,h=>rw[groupsOf,List.length_cons,groupsOf_len k r (by simp at h;omega)]
theorem groupsOf_at:∀(k:Nat) (l:List Nat) (h:l.length=2*k) (i:Nat) (hi:i<k),(groupsOf l)[i]?=some (256*l[2*i]'(by omega)+l[2*i+1]'(by omega))
 |0,l,h,i,hi=>absurd hi (Nat.not_lt_zero _)
 |k+1,l,h,i,hi=>by
  match l,h,i with
  |a::b::r,h,0=>rfl
  |a::b::r,h,i+1=>
   have ih:=groupsOf_at k r (by simp at h;omega) i (by omega)
   simp only[groupsOf,List.getElem?_cons_succ,ih]
   rfl
theorem groupsOf_lt:∀(k:Nat) (l:List Nat),l.length=2*k→(∀x∈l,x<256)→∀g∈groupsOf l,g<65536
 |0,l,h,_,g,hg=>by rw[List.eq_nil_of_length_eq_zero (l:=l) (by omega)]at hg;cases hg
 |k+1,l,h,hx,g,hg=>by
  match l,h,hx,hg with
  |a::b::r,h,hx,hg=>
   have ha:=hx a (by simp)
   have hb:=hx b (by simp)
   rw[groupsOf]at hg
   rcases List.mem_cons.1 hg with rfl|hg
   ·omega
   ·exact groupsOf_lt k r (by simp at h;omega) (fun x hr=>hx x (by simp[hr])) g hg
theorem join8(x y:Nat)(hx:x<256)(hy:y<256):bits .or .u64 ((x:Int)*256) (y:Int)=((256*x+y:Nat):Int):=by
 have:=u64_or_nat (x*256) y (by omega) (by omega)
 rw[nat_join 8 (x*256) y (by omega) (by omega)]at this
 rw[show((x*256:Nat):Int)=(x:Int)*256 by omega]at this
 rw[this]
 omega
def hexT(n:Nat):ByteArray:=⟨(hexL n).toArray⟩
def longC(gs:List Nat)(k:Nat):List Value:=((gs.take k).map fun g=>Value.string (hexT g))++List.replicate (8-k) (.string ByteArray.empty)
theorem longC_set(gs:List Nat)(k:Nat)(hk:k<8)(hl:k<gs.length):(longC gs k).set k (.string (hexT gs[k]))=longC gs (k+1):=by
 unfold longC
 have h1:((gs.take k).map fun g=>Value.string (hexT g)).length=k:=by simp;omega
 rw[List.set_append_right _ _ (by omega),h1,Nat.sub_self,(by omega:8-k=(8-(k+1))+1),List.replicate_succ,List.set_cons_zero,List.take_succ_eq_append_getElem hl,List.map_append,List.append_assoc]
 rfl
structure LongW (w wr:World) (l gs:List Nat) (k:Nat):Prop where
 bel:Bel w wr
 hc:wr.heap[w.heap.size]?=some (.cells (l.map u8V).toArray 84 (0,0))
 hg:wr.heap[w.heap.size+1]?=some (.cells (longC gs k).toArray 239 (0,0))
theorem LongW.next{w wr w':World}{l gs:List Nat}{k:Nat}(h:LongW w wr l gs k)(hx:Bel wr w'):LongW w w' l gs k:=⟨h.bel.trans hx,hx.heap h.hc,hx.heap h.hg⟩
theorem LongW.set{w wr:World}{l gs:List Nat}{k:Nat}(h:LongW w wr l gs k)(hk:k<8)(hl:k<gs.length):LongW w (wr.setCell ⟨w.heap.size+1,k,none⟩ (.string (hexT gs[k]))) l gs (k+1):=by
 refine⟨h.bel.setCell (by omega) _,?_,?_⟩
 ·rw[heap_setCell_other _ _ _ _ (by simp)]
  exact h.hc
 ·rw[heap_setCell_same wr _ _ _ _ _ h.hg,List.setIfInBounds_toArray,longC_set gs k hk hl]
theorem LongW.drew{w wr:World}{l gs:List Nat}{k:Nat}(h:LongW w wr l gs k):LongW w wr.drew l gs k:=⟨h.bel.drew,h.hc,h.hg⟩
theorem LongW.byte{w wr:World}{l gs:List Nat}{k:Nat}(h:LongW w wr l gs k){i x:Nat}(hx:l[i]?=some x):wr.cell? ⟨w.heap.size,i,none⟩=some (.int .u8 (x:Int)):=by simp[World.cell?,h.hc,u8V,hx]
theorem LongW.facts{w W:World}{l gs:List Nat}{k x y j:Nat}(h:LongW w W l gs j)(hj:j=k∨j=k+1)(hx:l[2*k]?=some x)(hy:l[2*k+1]?=some y):W.cell? ⟨w.heap.size,2*k,none⟩=some (.int .u8 (x:Int))∧W.cell? ⟨w.heap.size,2*k+1,none⟩=some (.int .u8 (y:Int))∧(LongW w W l gs k∨LongW w W l gs (k+1)):=
 ⟨h.byte hx,h.byte hy,by rcases hj with rfl|rfl;exact .inl h;exact .inr h⟩
theorem LongW.place{w W:World}{l gs:List Nat}{k:Nat}(h:LongW w W l gs k)(hk:k<8)(hl:k≤gs.length):W.cell? ⟨w.heap.size+1,k,none⟩=some (.string ByteArray.empty)∧W.frozen? ⟨w.heap.size+1,k,none⟩=false:=by
 refine⟨?_,by simp[World.frozen?,h.hg]⟩
 have:(longC gs k)[k]?=some (.string ByteArray.empty):=by
  unfold longC
  rw[List.getElem?_append_right (by simp;omega),List.length_map,List.length_take,Nat.min_eq_left hl,Nat.sub_self]
  exact List.getElem?_replicate_of_lt (by omega)
 simp[World.cell?,h.hg,this]
theorem LongW.text{w W:World}{l gs:List Nat}(h:LongW w W l gs 8)(hl:gs.length=8){j:Nat}(hj:j<8):W.cell? ⟨w.heap.size+1,j,none⟩=some (.string (hexT (gs[j]'(by omega)))):=by
 have:(longC gs 8)[j]?=some (.string (hexT (gs[j]'(by omega)))):=by
  unfold longC
  rw[List.take_of_length_le (by omega),List.getElem?_append_left (by simp;omega)]
  simp[(by omega:j<gs.length)]
 simp[World.cell?,h.hg,this]
theorem takeWhile_step(p:Nat→Bool):∀(l:List Nat) (n:Nat),n≤(l.takeWhile p).length→∀(hl:n<l.length),(p l[n]=true↔n<(l.takeWhile p).length)
 |[],n,_,hl=>absurd hl (Nat.not_lt_zero _)
 |a::l,0,_,_=>by
  rw[List.takeWhile_cons]
  show p a=true↔_
  cases h:p a with
  |true=>simp
  |false=>simp
 |a::l,n+1,h,hl=>by
  rw[List.takeWhile_cons]at h⊢
  cases hp:p a with
  |true=>
   rw[hp]at h
   simp only[if_true,List.length_cons,Nat.add_le_add_iff_right]at h
   have ih:=takeWhile_step p l n h (by simpa using hl)
   simpa using ih
  |false=>rw[hp]at h;cases h
theorem zeros_step(l:List Nat)(i n:Nat)(h:n≤zerosAt l i)(hl:i+n<l.length):(l[i+n]=0↔n<zerosAt l i):=by
 have:=takeWhile_step (· ==0) (l.drop i) n h (by simp;omega)
 rw[List.getElem_drop]at this
 unfold zerosAt
 rw[←this]
 simp
theorem zero_text(n:Nat):((hexT n).toList==[48])=decide (n=0):=by
 rw[Lib.toList_data]
 show(hexL n==[48])=_
 rw[Bool.eq_iff_iff,beq_iff_eq,decide_eq_true_iff]
 exact hexL_zero n
theorem join_small:∀(l:List Nat),(∀g∈l,g<65536)→(Lib.join (l.map hexL) [58]).length≤5*l.length
 |[],_=>Nat.le_refl _
 |g::l,h=>by
  rw[List.map_cons,Lib.join_length]
  have hg:=(hexL_len 3 g (h g (List.mem_cons_self ..))).2
  have ih:∀(m:List Nat),(∀g∈m,g<65536)→Lib.lens (m.map hexL)≤4*m.length:=by
   intro m
   induction m with
   |nil=>intro _;simp[Lib.lens]
   |cons a m ih=>
    intro hm
    have:=ih fun x hx=>hm x (List.mem_cons_of_mem _ hx)
    have ha:=(hexL_len 3 a (hm a (List.mem_cons_self ..))).2
    simp only[Lib.lens,List.map_cons,List.sum_cons,List.length_cons]at this⊢
    omega
  have:=ih l fun x hx=>h x (List.mem_cons_of_mem _ hx)
  simp only[Lib.lens,List.map_cons,List.sum_cons,List.length_cons,List.length_map,List.length_nil]at this⊢
  omega
theorem arr8_len:Tryz.prog.arrayLen 239=8:=by kernel_rfl
theorem arr8_elem:Tryz.prog.elem 239=9:=by kernel_rfl
def jT(l:List Nat):ByteArray:=⟨(Lib.join (l.map hexL) [58]).toArray⟩
theorem jT_size(l:List Nat)(h:∀g∈l,g<65536)(h8:l.length≤8):(jT l).size≤40:=by
 rw[Lib.size_eq]
 have:=join_small l h
 show(Lib.join (l.map hexL) [58]).length≤40
 omega
theorem join_any{w:World}{l gs:List Nat}(hl:gs.length=8)(hg:∀g∈gs,g<65536)(o:Nat)(xs:List Nat)(hx:∀(j:Nat) x,xs[j]?=some x→gs[o+j]?=some x)(c:Nat)(hc:xs.length≤c)(W:World)(h:LongW w W l gs 8):
 Calls Tryz.prog 68 #[.slice (some ⟨w.heap.size+1,o,none⟩) xs.length c,.string ⟨#[58]⟩] W fun e w'=>e=.returned (.string (jT xs))∧Bel W w':=by
 have e1:(xs.map hexT).map (·.data.toList)=xs.map hexL:=by
  rw[List.map_map];rfl
 have hxg:∀x∈xs,x<65536:=fun x hm=>by
  obtain⟨j,hj⟩:=List.getElem?_of_mem hm
  exact hg x (List.mem_of_getElem? (hx j x hj))
 have hx8:xs.length≤8:=by
  rcases Nat.lt_or_ge 8 xs.length with f|f
  ·have:=hx 8 xs[8] (List.getElem?_eq_getElem f)
   rw[List.getElem?_eq_none (by omega)]at this
   cases this
  ·exact f
 have:=Tryz.strings_Join (w.heap.size+1) o c (xs.map hexT) ⟨#[58]⟩ W (fun j x hj=> ?_) (Array.getElem?_eq_some_iff.1 h.hg).1 (by rw[List.length_map];omega) (by rw[List.length_map];exact hc) (by
  rw[e1]
  have:=join_small xs hxg
  show(Lib.join (xs.map hexL) [58]).length≤_
  omega)
 ·rw[e1,List.length_map]at this
  exact this
 ·rw[List.getElem?_map]at hj
  obtain⟨x0,hx0,rfl⟩:=Option.map_eq_some_iff.1 hj
  have hgx:=hx j x0 hx0
  have hlt:=(List.getElem?_eq_some_iff.1 hgx).1
  rw[h.text hl (j:=o+j) (by omega),(List.getElem?_eq_some_iff.1 hgx).2]
theorem long_run(l:List Nat)(hl:l.length=16)(hx:∀x∈l,x<256)(w:World)(hw:Lay w):
 Calls Tryz.prog 124 #[addrV l] w fun e w'=>e=.returned (.string ⟨(formL (groupsOf l)).toArray⟩)∧Bel w w':=by
 have hgl:=groupsOf_len 8 l hl
 have hglt:=groupsOf_lt 8 l hl hx
 have hgat:∀i,i<8→∃x y,l[2*i]?=some x∧l[2*i+1]?=some y∧(groupsOf l)[i]?=some (256*x+y):=fun i hi=>⟨_,_,List.getElem?_eq_getElem (by omega),List.getElem?_eq_getElem (by omega),groupsOf_at 8 l hl i hi⟩
 generalize groupsOf l=gs at hgl hglt hgat⊢
 have HA:=hid (And.intro hl (And.intro hx (And.intro hgl (And.intro hglt hgat))))
 have HW:=hid hw
 unfold addrV
 clear hgat hx hl hgl hglt hw
 go_enter Tryz.func124,Tryz.ntmps124
 go_wp2_with fail
 go_loopg [9] 8 (fun gg v9 wr=>∃k:Nat,v9=.int .i64 k∧k+gg=8∧Hid (LongW w wr l gs k))
 case atStart=>
  refine⟨0,rfl,by omega,hid ⟨((Bel.refl w).alloc _).alloc _,?_,?_⟩⟩
  ·exact(Below.heap_alloc _ _ _ (by simp)).trans (heap_alloc_new w _)
  ·exact alloc_second w _ _
 case round=>
  obtain⟨k,rfl,hk,HF⟩:=hrel
  have Hk:=hid hk
  have hkn:k≤8:=by omega
  clear hk
  by_cases hlt:k<8
  ·obtain⟨hl,hx,hgl,hglt,hgat⟩:=HA.out
   obtain⟨x,y,hlx,hly,hgv⟩:=hgat k hlt
   have hx0:=hx x (List.mem_of_getElem? hlx)
   have hx1:=hx y (List.mem_of_getElem? hly)
   have HFA:=hid (fun W (h:LongW w W l gs k)=>show W.cell? ⟨w.heap.size,2*k,none⟩=some (.int .u8 (x:Int))∧W.cell? ⟨w.heap.size,2*k+1,none⟩=some (.int .u8 (y:Int))∧(LongW w W l gs k∨LongW w W l gs (k+1))from h.facts (.inl rfl) hlx hly)
   have HFB:=hid (fun W (h:LongW w W l gs (k+1))=>show W.cell? ⟨w.heap.size,2*k,none⟩=some (.int .u8 (x:Int))∧W.cell? ⟨w.heap.size,2*k+1,none⟩=some (.int .u8 (y:Int))∧(LongW w W l gs k∨LongW w W l gs (k+1))from h.facts (.inr rfl) hlx hly)
   have HFP:=hid (fun W (h:LongW w W l gs k)=>h.place hlt (by omega))
   have hS0:=HFA.out _ HF.out.drew
   have hj:bits .or .u64 (IntKind.u64.wrap (IntKind.u64.wrap (x:Int)*256)) (IntKind.u64.wrap (y:Int))=((256*x+y:Nat):Int):=by
    rw[←join8 x y hx0 hx1]
    congr 1
    ·rw[IntKind.wrap_u64,IntKind.wrap_u64];omega
    ·rw[IntKind.wrap_u64];omega
   have HFM:=(show Hid (∀W,Lay W→Calls Tryz.prog 198 #[.int .u64 (bits .or .u64 (IntKind.u64.wrap (IntKind.u64.wrap (x:Int)*256)) (IntKind.u64.wrap (y:Int))),.int .i64 16] W fun e w'=>e=.returned (.string (hexT (256*x+y)))∧Bel W w')from fun W hW=>by rw[hj];exact formatUint_run _ (by omega) W hW.bru (by have:=hW.size;omega))
   clear hj
   obtain⟨hlk,hgv⟩:=List.getElem?_eq_some_iff.1 hgv
   have HS:=hid (fun(W:World) (h:LongW w W l gs k)=>h.set hlt hlk)
   rw[hgv]at HS
   clear hgat hgv hx hl hgl hglt hlx hly
   have b0:IntKind.i64.wrap (2*(k:Int))=2*(k:Int):=IntWalk.i64_in _ (by omega)
   have b1:IntKind.i64.wrap (2*(k:Int)+1)=2*(k:Int)+1:=IntWalk.i64_in _ (by omega)
   have b2:(0:Int)≤2*(k:Int):=by omega
   have b3:2*(k:Int)<16:=by omega
   have b4:(0:Int)≤2*(k:Int)+1:=by omega
   have b5:2*(k:Int)+1<16:=by omega
   have b6:(2*(k:Int)).toNat=2*k:=by omega
   have b7:(2*(k:Int)+1).toNat=2*k+1:=by omega
   have b8:(0:Int)≤(k:Int):=by omega
   have b9:(k:Int)<8:=by omega
   go_wp2_with fail
   go_region_held3 (fun W=>W.cell? ⟨w.heap.size,2*k,none⟩=some (.int .u8 (x:Int))∧W.cell? ⟨w.heap.size,2*k+1,none⟩=some (.int .u8 (y:Int))∧(LongW w W l gs k∨LongW w W l gs (k+1))) (assumption)
    ((go_at_call 198;refine(HFM.out _ (HW.out.next HF.out.drew.bel)).mono ?_;rintro e wz ⟨rfl,hbz⟩;have hz:=HF.out.drew.next hbz;have hs1:=HFA.out wz hz;have hs2:=HFB.out _ (HS.out wz hz);have HZ:=hid (HS.out wz hz);obtain⟨cz,fz⟩:=HFP.out wz hz;clear hbz hz))
   clear hS0 HFA HFB HFP HFM HS
   go_wp2_with fail
   go_roundg (gk-1)
   case measure=>have:=Hk.out;omega
   case rel=>exact⟨k+1,by go_num,by have:=Hk.out;omega,HZ⟩
  ·obtain rfl:k=8:=by omega
   rw[show((8:Nat):Int)=8 from rfl]
   go_wp2_with fail
   go_loopg [5,6,29] 8 (fun gg v5 v6 v29 wq=>∃i:Nat,v5=.int .i64 (longest gs i).1∧v6=.int .i64 (longest gs i).2∧v29=.int .i64 i∧i+gg=8∧Hid (LongW w wq l gs 8))
   case atStart=>exact⟨0,rfl,rfl,rfl,by omega,HF⟩
   case round=>
    clear HF Hk hkn hlt
    obtain⟨i,rfl,rfl,rfl,hi,HF⟩:=hrel
    have Hi:=hid hi
    have hin:i≤8:=by omega
    clear hi
    by_cases hlt:i<8
    ·obtain⟨wo,hwo⟩:∃wo,wo=wr:=⟨_,rfl⟩
     rw[←hwo]at HF⊢
     clear hwo
     obtain⟨gq,hgq⟩:∃gq,gq=gk:=⟨gk,rfl⟩
     have HQ:=hid hgq
     clear hgq
     have d8:decide ((i:Int)<8)=true:=decide_eq_true (by omega)
     go_wp2_with fail
     go_loopg [8] (zerosAt gs i) (fun gg v8 wq=>∃n:Nat,v8=.int .i64 n∧n+gg=zerosAt gs i∧wq=wo)
     case atStart=>exact⟨0,rfl,by omega,rfl⟩
     case round=>
      obtain⟨n,rfl,hn,rfl⟩:=hrel
      have hz8:=zeros_le gs i
      have hl8:=HA.out.2.2.1
      have hn8:i+n≤8:=by omega
      have hnz:n≤zerosAt gs i:=by omega
      have Hn:=hid hn
      have hL1:longest gs (i+1)=if(longest gs i).2<zerosAt gs i then(i,zerosAt gs i)else longest gs i:=rfl
      by_cases hz:n<zerosAt gs i
      ·have hin2:i+n<8:=by omega
       have c0:=HF.out.text hl8 hin2
       have d0:((hexT (gs[i+n]'(by omega))).toList==[48])=true:=by
        rw[zero_text]
        exact decide_eq_true ((zeros_step gs i n hnz (by omega)).2 hz)
       generalize gs[i+n]'(by omega)=v at c0 d0
       clear hn hL1 hl8 hz8 hnz
       go_wp2_with fail
       go_roundg (gk-1)
       case measure=>have:=Hn.out;omega
       case rel=>exact⟨n+1,by go_num,by have:=Hn.out;omega,rfl⟩
      ·have hzn:zerosAt gs i=n:=by omega
       rw[hzn]at hL1
       have HL:=hid hL1
       clear hn Hn hz hnz hL1
       by_cases hin2:i+n<8
       ·have c0:=HF.out.text hl8 hin2
        have d0:((hexT (gs[i+n]'(by omega))).toList==[48])=false:=by
         rw[zero_text]
         exact decide_eq_false fun f=>by have:=(zeros_step gs i n (by omega) (by omega)).1 f;omega
        generalize gs[i+n]'(by omega)=v at c0 d0
        clear hl8 hz8 hzn
        by_cases hm:(longest gs i).2<n
        ·have h1:longest gs (i+1)=(i,n):=by rw[HL.out,if_pos hm]
         have HM:=hid h1
         clear h1
         go_wp2_with fail
         go_roundg (gq-1)
         case measure=>have:=Hi.out;have:=HQ.out;omega
         case rel=>exact⟨i+1,by rw[HM.out],by rw[HM.out],by go_num,by have:=Hi.out;have:=HQ.out;omega,HF⟩
        ·have h1:longest gs (i+1)=longest gs i:=by rw[HL.out,if_neg hm]
         have HM:=hid h1
         clear h1
         go_wp2_with fail
         go_roundg (gq-1)
         case measure=>have:=Hi.out;have:=HQ.out;omega
         case rel=>exact⟨i+1,by rw[HM.out],by rw[HM.out],by go_num,by have:=Hi.out;have:=HQ.out;omega,HF⟩
       ·clear hl8 hz8 hzn
        by_cases hm:(longest gs i).2<n
        ·have h1:longest gs (i+1)=(i,n):=by rw[HL.out,if_pos hm]
         have HM:=hid h1
         clear h1
         go_wp2_with fail
         go_roundg (gq-1)
         case measure=>have:=Hi.out;have:=HQ.out;omega
         case rel=>exact⟨i+1,by rw[HM.out],by rw[HM.out],by go_num,by have:=Hi.out;have:=HQ.out;omega,HF⟩
        ·have h1:longest gs (i+1)=longest gs i:=by rw[HL.out,if_neg hm]
         have HM:=hid h1
         clear h1
         go_wp2_with fail
         go_roundg (gq-1)
         case measure=>have:=Hi.out;have:=HQ.out;omega
         case rel=>exact⟨i+1,by rw[HM.out],by rw[HM.out],by go_num,by have:=Hi.out;have:=HQ.out;omega,HF⟩
    ·obtain rfl:i=8:=by omega
     obtain⟨-,-,hl8,hglt,-⟩:=HA.out
     have hrow:=longest_row gs 8
     have hpos:=longest_pos gs 8
     have hfm:(longest gs 8).1+(longest gs 8).2≤8∨(longest gs 8).2=1:=by
      rcases hrow with f|⟨f,f2⟩
      ·exact .inr f
      ·have:=zeros_le gs (longest gs 8).1
       omega
     by_cases h1:(longest gs 8).2=1
     ·have d1:(((longest gs 8).2:Int)==1)=true:=by rw[h1];rfl
      have hq:formL gs=Lib.join (gs.map hexL) [58]:=by unfold formL;rw[if_pos h1]
      have HJ:=hid (join_any (w:=w) (l:=l) hl8 hglt 0 gs (fun j x hj=>by rw[Nat.zero_add];exact hj) 8 (by omega))
      rw[hl8]at HJ
      have HQ:=hid hq
      clear hl8 hglt hrow hpos hfm h1 hq
      go_wp2_with fail
      refine(HJ.out _ HF.out).mono ?_
      rintro e w9 ⟨rfl,hb9⟩
      go_wp2_with fail
      go_ret
      exact⟨by rw[HQ.out];rfl,HF.out.bel.trans hb9⟩
     ·have d1:(((longest gs 8).2:Int)==1)=false:=by rw[beq_eq_false_iff_ne];omega
      have hfm:(longest gs 8).1+(longest gs 8).2≤8:=by omega
      have hq:formL gs=Lib.join ((gs.take (longest gs 8).1).map hexL) [58]++[58,58]++Lib.join ((gs.drop ((longest gs 8).1+(longest gs 8).2)).map hexL) [58]:=by unfold formL;rw[if_neg h1]
      clear hrow hpos h1
      generalize (longest gs 8).1=f at hq hfm⊢
      generalize (longest gs 8).2=m at hq hfm d1⊢
      have HQ:=hid hq
      obtain⟨oo,hoo⟩:∃oo,oo=if f+m=8 then 0 else f+m:=⟨_,rfl⟩
      have HJ1:=hid (join_any (w:=w) (l:=l) hl8 hglt 0 (gs.take f) (fun j x hj=>by
       rw[Nat.zero_add]
       rw[List.getElem?_take]at hj
       split at hj
       ·exact hj
       ·cases hj) 8 (by simp;omega))
      rw[List.length_take,hl8,Nat.min_eq_left (by omega:f≤8)]at HJ1
      have HJ2:=hid (join_any (w:=w) (l:=l) hl8 hglt oo (gs.drop (f+m)) (fun j x hj=>by
       rw[List.getElem?_drop]at hj
       rw[hoo]
       split
       ·rename_i h8
        rw[List.getElem?_eq_none (by omega)]at hj
        cases hj
       ·exact hj) (8-(f+m)) (by simp;omega))
      rw[List.length_drop,hl8]at HJ2
      have sl1:∀W:World,(Instr.sliceAt 239 (.pointer (some ⟨w.heap.size+1,0,none⟩)) none (some (.int .i64 (f:Int))) none).run Tryz.prog W=.ok (.slice (some ⟨w.heap.size+1,0,none⟩) f 8) W:=fun W=>by
       rw[run_sliceAt_array_h W 239 _ (by kernel_rfl) .i64 _ (by omega) (by rw[arr8_len];omega),arr8_len,arr8_elem,Tryz.sizeOf9]
       simp only[Result.andThen_ok,slicedAt,Int.toNat_natCast]
       rfl
      have sl2:∀W:World,(Instr.sliceAt 239 (.pointer (some ⟨w.heap.size+1,0,none⟩)) (some (.int .i64 ((f:Int)+(m:Int)))) none none).run Tryz.prog W=.ok (.slice (some ⟨w.heap.size+1,oo,none⟩) (8-(f+m)) (8-(f+m))) W:=fun W=>by
       rw[run_sliceAt_array_l W 239 _ (by kernel_rfl) .i64 _ (by omega) (by rw[arr8_len];omega),arr8_len,arr8_elem,Tryz.sizeOf9]
       simp only[Result.andThen_ok,slicedAt,(by omega:((f:Int)+(m:Int)).toNat=f+m),addr_add,Nat.mul_one,Nat.zero_add,hoo]
       by_cases h8:f+m=8
       ·rw[if_pos h8.symm,if_pos h8]
       ·rw[if_neg (Ne.symm h8),if_neg h8]
      have sz1:(jT (gs.take f)).size≤40:=jT_size _ (fun x hx=>hglt x (List.mem_of_mem_take hx)) (by simp;omega)
      have sz2:(jT (gs.take f)++⟨#[58,58]⟩).size≤42:=by rw[ByteArray.size_append];show _+2≤42;omega
      have sz3:(jT (gs.drop (f+m))).size≤40:=jT_size _ (fun x hx=>hglt x (List.mem_of_mem_drop hx)) (by simp;omega)
      have ad1:∀W:World,(Op.stringOp .add (jT (gs.take f)) ⟨#[58,58]⟩).run Tryz.prog W=.ok (.string (jT (gs.take f)++⟨#[58,58]⟩)) W:=fun W=>run_string_add_sum W _ _ (by show _+2≤_;omega)
      have ad2:∀W:World,(Op.stringOp .add (jT (gs.take f)++⟨#[58,58]⟩) (jT (gs.drop (f+m)))).run Tryz.prog W=.ok (.string (jT (gs.take f)++⟨#[58,58]⟩++jT (gs.drop (f+m)))) W:=fun W=>run_string_add_sum W _ _ (by omega)
      clear sz1 sz2 sz3
      have w0:IntKind.i64.wrap ((f:Int)+(m:Int))=(f:Int)+(m:Int):=IntWalk.i64_in _ (by omega)
      have hS0:=HF.out.drew
      clear hl8 hglt hq hoo
      go_wp2_with fail
      go_region_held3 (fun W=>LongW w W l gs 8) (assumption)
       (first
         | (go_at_call 68;(with_reducible refine(HJ1.out _ ?_).mono ?_);(assumption);rintro e wz ⟨rfl,hbz⟩;have hs1:=LongW.next (w:=w) (l:=l) (gs:=gs) (k:=8) (by assumption) hbz;clear hbz)
         | (go_at_call 68;(with_reducible refine(HJ2.out _ ?_).mono ?_);(assumption);rintro e wy ⟨rfl,hby⟩;have hs2:=LongW.next (w:=w) (l:=l) (gs:=gs) (k:=8) (by assumption) hby;clear hby))
      go_wp2_with fail
      go_ret
      refine⟨?_,?_⟩
      ·rw[HQ.out];rfl
      ·refine LongW.bel (l:=l) (gs:=gs) (k:=8) ?_
       assumption
end Go.Proofs.YtmlmkmhkmifnkaaGreatDoor.Ci
namespace Go.Proofs.YtmlmkmhkmifnkaaGreatDoor.Ci
open Go.RowKit
def decT(n:Nat):ByteArray:=⟨(Lib.decDigits n).toArray⟩
def dotT(l:List Nat):ByteArray:=⟨(Lib.join (l.map Lib.decDigits) [46]).toArray⟩
def longT(l:List Nat):ByteArray:=⟨(formL (groupsOf l)).toArray⟩
def addrT(n:Nt):List UInt8:=if n.six then formL (groupsOf n.addr)else Lib.join ((n.addr.take 4).map Lib.decDigits) [46]
def formQ(n:Nt):List UInt8:=if n.bits<(sizeQ n.six:Nat)then addrT n++47::Lib.decDigits n.bits.toNat else addrT n
def showQ(n:Nt):Option (List UInt8):=if rightQ n then some (formQ n)else none
theorem itoa_run(n:Nat)(hn:n<1000)(w:World)(hw:Lay w):Calls Tryz.prog 125 #[.int .i64 (n:Int)] w fun e w'=>e=.returned (.string (decT n))∧Bel w w':=by
 refine(Tryz.strconv_Itoa (n:Int) (by omega) (by omega) w (hw.pow w (Bel.refl w))).mono ?_
 rintro e w' ⟨rfl,k,os,rfl⟩
 refine⟨?_,?_⟩
 ·have:Lib.itoa (n:Int)=Lib.decDigits n:=by unfold Lib.itoa;rw[if_neg (by omega)];rfl
  rw[this];rfl
 ·refine⟨rfl,rfl,rfl,?_,fun j hj=> ?_⟩
  ·show w.heap.size≤(w.heap++os).size
   simp
  ·show(w.heap++os)[j]?=w.heap[j]?
   rw[Array.getElem?_append_left hj]
theorem decT_size(n:Nat)(hn:n<1000):(decT n).size≤3:=by
 rw[Lib.size_eq]
 exact(decDigits_len 2 n (by omega)).2
theorem dotT_one(x:Nat):dotT [x]=decT x:=by
 unfold dotT decT
 rw[List.map_cons,List.map_nil,Lib.join_one]
theorem ext_bytes{a b:ByteArray}(h:a.data.toList=b.data.toList):a=b:=by
 rw[←Lib.mk_data a,←Lib.mk_data b,h]
theorem app_data(a b:ByteArray):(a++b).data.toList=a.data.toList++b.data.toList:=by
 rw[ByteArray.data_append,Array.toList_append]
theorem dotT_snoc(l:List Nat)(hl:l≠[])(x:Nat):dotT l++dot++decT x=dotT (l++[x]):=by
 refine ext_bytes ?_
 rw[app_data,app_data]
 show Lib.join (l.map Lib.decDigits) [46]++[46]++Lib.decDigits x=Lib.join ((l++[x]).map Lib.decDigits) [46]
 cases l with
 |nil=>exact absurd rfl hl
 |cons a l=>
  rw[List.cons_append,List.map_cons,List.map_cons,Lib.join_cons,Lib.join_cons,List.map_append]
  simp[Lib.joinTail]
theorem dotT_size(l:List Nat)(h:∀x∈l,x<256):(dotT l).size≤4*l.length:=by
 rw[Lib.size_eq]
 show(Lib.join (l.map Lib.decDigits) [46]).length≤_
 cases l with
 |nil=>exact Nat.le_refl _
 |cons a l=>
  rw[List.map_cons,Lib.join_length]
  have ih:∀(m:List Nat),(∀x∈m,x<256)→Lib.lens (m.map Lib.decDigits)≤3*m.length:=by
   intro m
   induction m with
   |nil=>intro _;simp[Lib.lens]
   |cons b m ih=>
    intro hm
    have:=ih fun x hx=>hm x (List.mem_cons_of_mem _ hx)
    have hb:=(decDigits_len 2 b (by have:=hm b (List.mem_cons_self ..);omega)).2
    simp only[Lib.lens,List.map_cons,List.sum_cons,List.length_cons]at this⊢
    omega
  have:=ih (a::l) h
  simp only[List.map_cons,List.length_cons,List.length_map,List.length_nil]at this⊢
  omega
theorem longT_size(l:List Nat)(hl:l.length=16)(hx:∀x∈l,x<256):(longT l).size≤100:=by
 rw[Lib.size_eq]
 show(formL (groupsOf l)).length≤100
 have h8:=groupsOf_len 8 l hl
 have hg:=groupsOf_lt 8 l hl hx
 unfold formL
 split
 ·have:=join_small _ hg;omega
 ·have h1:=join_small ((groupsOf l).take (longest (groupsOf l) 8).1) fun x hx=>hg x (List.mem_of_mem_take hx)
  have h2:=join_small ((groupsOf l).drop ((longest (groupsOf l) 8).1+(longest (groupsOf l) 8).2)) fun x hx=>hg x (List.mem_of_mem_drop hx)
  simp only[List.length_append,List.length_take,List.length_drop,List.length_cons,List.length_nil]at h1 h2⊢
  omega
def errS(n:Nt):Int:=if rightQ n then 0 else 70
theorem show_run(n:Nt)(hn:n.Fits)(w:World)(hw:Lay w):
 Calls Tryz.prog 65 #[netV n] w fun e w'=>e=.returned (.tuple #[.string ⟨((showQ n).getD []).toArray⟩,.int .i64 (errS n)])∧Bel w w':=by
 have h0:=hid (And.intro ((Bel.refl w).alloc (.cells (netC n).toArray 86)) (heap_alloc_new w (.cells (netC n).toArray 86)))
 have HR:=(show Hid (∀W,Calls Tryz.prog 123 #[.agg (netC n).toArray] W fun e w'=>e=.returned (.bool (rightQ n))∧Bel W w')from fun W=>right_run n hn W)
 have hZ:=hid (show(Tryz.prog.info? 86).map (·.size)=some (netC n).length by rw[netC_len _ hn.len];exact net_info)
 have hZa:=hid (show(Tryz.prog.info? 84).map (·.size)=some (n.addr.map u8V).length by rw[List.length_map,hn.len];kernel_rfl)
 have HN:=hid hn
 have HW:=hid hw
 unfold netV
 clear hn hw
 go_enter Tryz.func65,Tryz.ntmps65
 go_wp2_with (first
  | (refine wpList_load_mid rfl 86 (.tmp 1) rfl w.heap.size 0 rfl (netC n) _ ?_ Tryz.underlying86 rfl hZ.out ?_;exact range_of h0.out.2 fun j v hv=>by simpa using hv))
 generalize w.alloc (.cells (netC n).toArray 86)=w1 at h0⊢
 refine(HR.out _).mono ?_
 rintro e w2 ⟨rfl,hb2⟩
 have h2:=hid (And.intro (h0.out.1.trans hb2) (hb2.heap h0.out.2))
 clear h0 hb2 HR
 cases hr:rightQ n with
 |false=>
  have HQ:=hid (show showQ n=none∧errS n=70 from⟨by unfold showQ;rw[hr];rfl,by unfold errS;rw[hr];rfl⟩)
  clear hr
  go_wp2_with fail
  go_ret2
  exact⟨by rw[HQ.out.1,HQ.out.2];rfl,h2.out.1⟩
 |true=>
  have HQE:=hid (show showQ n=some (formQ n)∧errS n=0 from⟨by unfold showQ;rw[hr];rfl,by unfold errS;rw[hr];rfl⟩)
  have HQ:=hid (show Ending.returned (.tuple #[.string ⟨((showQ n).getD []).toArray⟩,.int .i64 (errS n)])=Ending.returned (.tuple #[.string ⟨(formQ n).toArray⟩,.int .i64 0]) by rw[HQE.out.1,HQE.out.2];rfl)
  have hb:=rightQ_bits hr
  have cz:w2.cell? ⟨w.heap.size,0,none⟩=some (.bool n.six):=by simp[World.cell?,h2.out.2,netC]
  clear hr HQE
  cases h6:n.six with
  |true=>
   have HL:=(show Hid (∀W,Lay W→Calls Tryz.prog 124 #[.agg (n.addr.map u8V).toArray] W fun e w'=>e=.returned (.string (longT n.addr))∧Bel W w')from fun W hW=>long_run n.addr HN.out.len HN.out.by_ W hW)
   have szT:=longT_size n.addr HN.out.len HN.out.by_
   go_wp2_with (first
    | (refine wpList_load_mid rfl 84 (.tmp 12) rfl w.heap.size 2 rfl (n.addr.map u8V) _ ?_ Tryz.underlying84 rfl hZa.out ?_;exact range_of h2.out.2 fun j v hv=>by simpa[netC,Nat.add_comm]using hv))
   refine(HL.out _ (HW.out.next h2.out.1)).mono ?_
   rintro e w3 ⟨rfl,hb3⟩
   have h3:=hid (And.intro (h2.out.1.trans hb3) (hb3.heap h2.out.2))
   clear h2 hb3 HL cz
   go_upto_region 13 with(fail)
   have c0:∀p:Aft w3,p.wd.cell? ⟨w.heap.size,0,none⟩=some (.bool true):=fun p=>by rw[←h6];exact p.cell h3.out.2 (netC_six n)
   have c1:∀p:Aft w3,p.wd.cell? ⟨w.heap.size,1,none⟩=some (.int .i64 n.bits):=fun p=>p.cell h3.out.2 (netC_bits n)
   have HT:=hid (show(longT n.addr).data.toList=addrT n by unfold addrT;rw[h6];rfl)
   have HSZ:=(show Hid (∀W,Calls Tryz.prog 126 #[.bool true] W fun e w'=>e=.returned (.int .i64 (sizeQ true:Nat))∧Bel W w')from fun W=>size_run true W)
   have H6:=hid h6
   clear h6
   by_cases hlt:n.bits<(sizeQ true:Nat)
   ·have d1:decide (n.bits<(sizeQ true:Nat))=true:=decide_eq_true hlt
    have HI:=(show Hid (∀W,Lay W→Calls Tryz.prog 125 #[.int .i64 n.bits] W fun e w'=>e=.returned (.string (decT n.bits.toNat))∧Bel W w')from fun W hW=>by
     have:=itoa_run n.bits.toNat (by omega) W hW
     rw[show((n.bits.toNat:Nat):Int)=n.bits by omega]at this
     exact this)
    have sd:=decT_size n.bits.toNat (by omega)
    have ad1:∀W:World,(Op.stringOp .add ⟨#[47]⟩ (decT n.bits.toNat)).run Tryz.prog W=.ok (.string (⟨#[47]⟩++decT n.bits.toNat)) W:=fun W=>run_string_add_sum W _ _ (by show 1+_≤_;omega)
    have ad2:∀W:World,(Op.stringOp .add (longT n.addr) (⟨#[47]⟩++decT n.bits.toNat)).run Tryz.prog W=.ok (.string ((longT n.addr)++(⟨#[47]⟩++decT n.bits.toNat))) W:=fun W=>run_string_add_sum W _ _ (by rw[ByteArray.size_append];show _+(1+_)≤_;omega)
    have HF:=hid (show formQ n=addrT n++47::Lib.decDigits n.bits.toNat by unfold formQ;rw[H6.out,if_pos hlt])
    clear hlt sd szT hb
    refine wp_region_aft (by kernel_rfl) (by kernel_rfl) ?_
    repeat (go_big_quiet_step (first
     | (go_at_call 126;exact Calls.aft (HSZ.out _))))
    refine wpQuiet_nil ?_
    rintro _ ⟨p,rfl⟩
    go_wp2_with fail
    refine(HI.out _ (HW.out.next (h3.out.1.trans p.bel))).mono ?_
    rintro e w9 ⟨rfl,hb9⟩
    go_wp2_with fail
    go_ret2
    refine⟨?_,h3.out.1.trans (p.bel.trans hb9)⟩
    rw[HQ.out,HF.out,←HT.out]
    rfl
   ·have d1:decide (n.bits<(sizeQ true:Nat))=false:=decide_eq_false hlt
    have HF:=hid (show formQ n=addrT n by unfold formQ;rw[H6.out,if_neg hlt])
    clear hlt szT hb
    refine wp_region_aft (by kernel_rfl) (by kernel_rfl) ?_
    repeat (go_big_quiet_step (first
     | (go_at_call 126;exact Calls.aft (HSZ.out _))))
    refine wpQuiet_nil ?_
    rintro _ ⟨p,rfl⟩
    go_wp2_with fail
    go_ret2
    refine⟨?_,h3.out.1.trans p.bel⟩
    rw[HQ.out,HF.out,←HT.out]
    rfl
  |false=>
   have sl1:∀W:World,(Instr.sliceAt 84 (.pointer (some ⟨w.heap.size,2,none⟩)) none (some (.int .i64 4)) none).run Tryz.prog W=.ok (.slice (some ⟨w.heap.size,2,none⟩) 4 16) W:=fun W=>by
    rw[run_sliceAt_array_h W 84 _ (by kernel_rfl) .i64 _ (by omega) (by rw[arr16_len];omega),arr16_len,arr16_elem,Tryz.sizeOf5]
    simp only[Result.andThen_ok,slicedAt]
    rfl
   go_wp2_with fail
   clear sl1 cz
   go_loopg [4,18] 4 (fun gg v4 v18 wr=>∃k:Nat,v4=.string (dotT (n.addr.take k))∧v18=.int .i64 k∧k+gg=4∧Hid (Bel w wr∧wr.heap[w.heap.size]?=some (.cells (netC n).toArray 86 (0,0))))
   case atStart=>exact⟨0,rfl,rfl,by omega,h2⟩
   case round=>
    clear h2
    obtain⟨k,rfl,rfl,hk,h2⟩:=hrel
    have Hk:=hid hk
    have hkn:k≤4:=by omega
    clear hk
    have hln:=HN.out.len
    by_cases hlt:k<4
    ·have hk16:k<n.addr.length:=by omega
     have c0:wr.cell? ⟨w.heap.size,2+k,none⟩=some (.int .u8 (n.addr[k]:Int)):=by
      simp[World.cell?,h2.out.2,netC,Nat.add_comm 2 k,hk16,u8V]
     have hx:=HN.out.by_ _ (List.getElem_mem hk16)
     have htk:n.addr.take (k+1)=n.addr.take k++[n.addr[k]]:=List.take_succ_eq_append_getElem hk16
     have sz:=dotT_size (n.addr.take k) (fun x hx=>HN.out.by_ x (List.mem_of_mem_take hx))
     rw[List.length_take,Nat.min_eq_left (by omega:k≤n.addr.length)]at sz
     generalize n.addr[k]=x at c0 hx htk
     have HI:=(show Hid (∀W,Lay W→Calls Tryz.prog 125 #[.int .i64 (x:Int)] W fun e w'=>e=.returned (.string (decT x))∧Bel W w')from fun W hW=>itoa_run x (by omega) W hW)
     have sd:=decT_size x (by omega)
     rcases Nat.eq_zero_or_pos k with rfl|hpos
     ·have hn1:dotT (n.addr.take (0+1))=decT x:=by rw[htk,List.take_zero];exact dotT_one x
      have hn0:dotT (n.addr.take 0)=⟨#[]⟩:=by rw[List.take_zero];rfl
      have ad1:∀W:World,(Op.stringOp .add ⟨#[]⟩ (decT x)).run Tryz.prog W=.ok (.string (⟨#[]⟩++decT x)) W:=fun W=>run_string_add_sum W _ _ (by show 0+_≤_;omega)
      have he:(⟨#[]⟩:ByteArray)++decT x=decT x:=ext_bytes (by rw[app_data];rfl)
      have HE:=hid (he.trans hn1.symm)
      rw[hn0]
      clear hn1 hn0 htk sd sz he hk16 hln
      go_wp2_with fail
      refine(HI.out _ (HW.out.next h2.out.1)).mono ?_
      rintro e w3 ⟨rfl,hb3⟩
      have h3:=hid (And.intro (h2.out.1.trans hb3) (hb3.heap h2.out.2))
      clear h2 hb3 HI
      go_wp2_with fail
      go_roundg (gk-1)
      case measure=>have:=Hk.out;omega
      case rel=>exact⟨0+1,by rw[HE.out],by go_num,by have:=Hk.out;omega,h3⟩
     ·have hne:n.addr.take k≠[]:=by
       intro e
       have:=congrArg List.length e
       rw[List.length_take]at this
       simp only[List.length_nil]at this
       omega
      have hn1:dotT (n.addr.take k)++dot++decT x=dotT (n.addr.take (k+1)):=by rw[htk];exact dotT_snoc _ hne x
      have ad0:∀W:World,(Op.stringOp .add (dotT (n.addr.take k)) ⟨#[46]⟩).run Tryz.prog W=.ok (.string (dotT (n.addr.take k)++⟨#[46]⟩)) W:=fun W=>run_string_add_sum W _ _ (by show _+1≤_;omega)
      have ad1:∀W:World,(Op.stringOp .add (dotT (n.addr.take k)++⟨#[46]⟩) (decT x)).run Tryz.prog W=.ok (.string (dotT (n.addr.take k)++⟨#[46]⟩++decT x)) W:=fun W=>run_string_add_sum W _ _ (by rw[ByteArray.size_append];show _+1+_≤_;omega)
      have HE:=hid hn1
      clear hn1 htk sd sz hk16 hln hne
      go_wp2_with fail
      refine(HI.out _ (HW.out.next h2.out.1)).mono ?_
      rintro e w3 ⟨rfl,hb3⟩
      have h3:=hid (And.intro (h2.out.1.trans hb3) (hb3.heap h2.out.2))
      clear h2 hb3 HI
      go_wp2_with fail
      go_roundg (gk-1)
      case measure=>have:=Hk.out;omega
      case rel=>exact⟨k+1,by rw[←HE.out];rfl,by go_num,by have:=Hk.out;omega,h3⟩
    ·obtain rfl:k=4:=by omega
     have szT:=dotT_size (n.addr.take 4) (fun x hx=>HN.out.by_ x (List.mem_of_mem_take hx))
     rw[List.length_take,Nat.min_eq_left (by omega:4≤n.addr.length)]at szT
     clear hln
     go_upto_region 13 with(fail)
     have c0:∀p:Aft wr,p.wd.cell? ⟨w.heap.size,0,none⟩=some (.bool false):=fun p=>by rw[←h6];exact p.cell h2.out.2 (netC_six n)
     have c1:∀p:Aft wr,p.wd.cell? ⟨w.heap.size,1,none⟩=some (.int .i64 n.bits):=fun p=>p.cell h2.out.2 (netC_bits n)
     have HT:=hid (show(dotT (n.addr.take 4)).data.toList=addrT n by unfold addrT;rw[h6];rfl)
     have HSZ:=(show Hid (∀W,Calls Tryz.prog 126 #[.bool false] W fun e w'=>e=.returned (.int .i64 (sizeQ false:Nat))∧Bel W w')from fun W=>size_run false W)
     have H6:=hid h6
     clear h6
     by_cases hlt:n.bits<(sizeQ false:Nat)
     ·have d1:decide (n.bits<(sizeQ false:Nat))=true:=decide_eq_true hlt
      have HI:=(show Hid (∀W,Lay W→Calls Tryz.prog 125 #[.int .i64 n.bits] W fun e w'=>e=.returned (.string (decT n.bits.toNat))∧Bel W w')from fun W hW=>by
       have:=itoa_run n.bits.toNat (by omega) W hW
       rw[show((n.bits.toNat:Nat):Int)=n.bits by omega]at this
       exact this)
      have sd:=decT_size n.bits.toNat (by omega)
      have ad1:∀W:World,(Op.stringOp .add ⟨#[47]⟩ (decT n.bits.toNat)).run Tryz.prog W=.ok (.string (⟨#[47]⟩++decT n.bits.toNat)) W:=fun W=>run_string_add_sum W _ _ (by show 1+_≤_;omega)
      have ad2:∀W:World,(Op.stringOp .add (dotT (n.addr.take 4)) (⟨#[47]⟩++decT n.bits.toNat)).run Tryz.prog W=.ok (.string ((dotT (n.addr.take 4))++(⟨#[47]⟩++decT n.bits.toNat))) W:=fun W=>run_string_add_sum W _ _ (by rw[ByteArray.size_append];show _+(1+_)≤_;omega)
      have HF:=hid (show formQ n=addrT n++47::Lib.decDigits n.bits.toNat by unfold formQ;rw[H6.out,if_pos hlt])
      clear hlt sd szT hb
      refine wp_region_aft (by kernel_rfl) (by kernel_rfl) ?_
      repeat (go_big_quiet_step (first
       | (go_at_call 126;exact Calls.aft (HSZ.out _))))
      refine wpQuiet_nil ?_
      rintro _ ⟨p,rfl⟩
      go_wp2_with fail
      refine(HI.out _ (HW.out.next (h2.out.1.trans p.bel))).mono ?_
      rintro e w9 ⟨rfl,hb9⟩
      go_wp2_with fail
      go_ret2
      refine⟨?_,h2.out.1.trans (p.bel.trans hb9)⟩
      rw[HQ.out,HF.out,←HT.out]
      rfl
     ·have d1:decide (n.bits<(sizeQ false:Nat))=false:=decide_eq_false hlt
      have HF:=hid (show formQ n=addrT n by unfold formQ;rw[H6.out,if_neg hlt])
      clear hlt szT hb
      refine wp_region_aft (by kernel_rfl) (by kernel_rfl) ?_
      repeat (go_big_quiet_step (first
       | (go_at_call 126;exact Calls.aft (HSZ.out _))))
      refine wpQuiet_nil ?_
      rintro _ ⟨p,rfl⟩
      go_wp2_with fail
      go_ret2
      refine⟨?_,h2.out.1.trans p.bel⟩
      rw[HQ.out,HF.out,←HT.out]
      rfl
end Go.Proofs.YtmlmkmhkmifnkaaGreatDoor.Ci