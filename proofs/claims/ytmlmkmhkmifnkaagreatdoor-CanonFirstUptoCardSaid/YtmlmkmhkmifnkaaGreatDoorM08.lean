import Derived.Test.YtmlmkmhkmifnkaaGreatDoorM07
import Derived.Lib.Replace
import Derived.Lib.FieldsP
import Derived.Lib.DecodeN
set_option maxHeartbeats 16000000
set_option maxRecDepth 1000000
namespace Go.Proofs.YtmlmkmhkmifnkaaGreatDoor.Ma
open Go.RowKit
open Ci (Bel Lay)
theorem ib_run(s:ByteArray)(c:UInt8)(W:World):Calls Tryz.prog 168 #[.string s,.int .u8 (c.toNat:Int)] W fun e w'=>e=.returned (.int .i64 (Lib.indexByte s.data.toList c))∧w'=W:=by
 have:=Tryz.strings_IndexByte s c.toNat W;rw[u8_back]at this;exact this
def whN(B:List UInt8)(l:List UInt8):Nat:=(l.takeWhile (B.contains ·)).length
theorem whN_le(B l:List UInt8):whN B l≤l.length:=by
 unfold whN
 exact(List.takeWhile_prefix _).length_le
theorem whN_step{B l:List UInt8}{k:Nat}(hk:k<l.length)(h:whN B l=k+whN B (l.drop k))(hc:B.contains l[k]=true):whN B l=(k+1)+whN B (l.drop (k+1)):=by
 rw[h,drop_at hk]
 unfold whN
 rw[List.takeWhile_cons,if_pos hc,List.length_cons]
 omega
theorem whN_stop{B l:List UInt8}{k:Nat}(hk:k<l.length)(h:whN B l=k+whN B (l.drop k))(hc:B.contains l[k]=false):whN B l=k:=by
 rw[h,drop_at hk]
 unfold whN
 rw[List.takeWhile_cons,hc]
 simp
theorem whN_end{B l:List UInt8}{k:Nat}(hk:l.length≤k)(h:whN B l=k+whN B (l.drop k)):whN B l=k:=by
 rw[h,List.drop_eq_nil_of_le hk]
 rfl
theorem whN_all(B:List UInt8):∀l:List UInt8,(whN B l=l.length)↔l.all (B.contains ·)=true
 |[]=>by simp[whN]
 |b::l=>by
  have ih:=whN_all B l
  unfold whN at ih⊢
  rw[List.takeWhile_cons,List.all_cons]
  cases hb:B.contains b with
  |true=>simpa using ih
  |false=>simp
theorem while_run(s bs:ByteArray)(w:World)(hs:s.size<9223372036854775807):
 Calls Tryz.prog 201 #[.string s,.string bs] w fun e w'=>e=.returned (.int .i64 (whN bs.data.toList s.data.toList:Nat))∧w'=w:=by
 have hl:s.data.toList.length=s.size:=by rw[Lib.size_eq]
 have HL:=hid hl
 have HI:=(show Hid (∀(c:UInt8) (W:World),Calls Tryz.prog 168 #[.string bs,.int .u8 (c.toNat:Int)] W fun e w'=>e=.returned (.int .i64 (Lib.indexByte bs.data.toList c))∧w'=W)from fun c W=>ib_run bs c W)
 clear hl
 go_enter Tryz.func201,Tryz.ntmps201
 go_wp2_with fail
 go_loopg [5] (s.size+1) (fun gg v5 wr=>∃(k:Nat),v5=.int .i64 k∧k+gg=s.size+1∧k≤s.size∧Hid (wr=w∧whN bs.data.toList s.data.toList=k+whN bs.data.toList (s.data.toList.drop k)))
 case atStart=>exact⟨0,rfl,by omega,by omega,hid ⟨rfl,by simp⟩⟩
 case round=>
  obtain⟨k,rfl,hk,hk2,H⟩:=hrel
  by_cases hlt:k<s.size
  ·have hlt':k<s.data.toList.length:=by rw[HL.out];exact hlt
   have HC:=hid (show s.data.toList[k]'hlt'=s[k]from rfl)
   cases hc:bs.data.toList.contains s[k]with
   |true=>
    have b1:decide (0≤Lib.indexByte bs.data.toList s[k])=true:=by rw[index_has];exact hc
    have HN:=hid (whN_step hlt' H.out.2 (by rw[HC.out];exact hc))
    have HW:=hid H.out.1
    clear hc
    go_wp2_with (first|(go_at_call 168;refine(HI.out _ _).mono ?_;rintro e w1 ⟨rfl,rfl⟩))
    go_roundg (gk-1)
    case measure=>omega
    case rel=>exact⟨k+1,by go_num,by omega,by omega,hid ⟨HW.out,HN.out⟩⟩
   |false=>
    have b1:decide (0≤Lib.indexByte bs.data.toList s[k])=false:=by rw[index_has];exact hc
    have HN:=hid (whN_stop hlt' H.out.2 (by rw[HC.out];exact hc))
    have HW:=hid H.out.1
    clear hc
    go_wp2_with (first|(go_at_call 168;refine(HI.out _ _).mono ?_;rintro e w1 ⟨rfl,rfl⟩))
    go_ret
    exact⟨by rw[HN.out];rfl,HW.out⟩
  ·have HN:=hid (whN_end (by rw[HL.out];omega) H.out.2)
   have HW:=hid H.out.1
   go_wp2_with fail
   go_ret
   exact⟨by rw[HN.out];rfl,HW.out⟩
theorem only_run(s bs:ByteArray)(w:World)(hs:s.size<9223372036854775807):
 Calls Tryz.prog 128 #[.string s,.string bs] w fun e w'=>e=.returned (.bool (s.data.toList.all (bs.data.toList.contains ·)))∧w'=w:=by
 have HI:=(show Hid (∀(W:World),Calls Tryz.prog 201 #[.string s,.string bs] W fun e w'=>e=.returned (.int .i64 (whN bs.data.toList s.data.toList:Nat))∧w'=W)from fun W=>while_run s bs W hs)
 have HX:=hid (show(((whN bs.data.toList s.data.toList:Nat):Int)==(s.size:Int))=s.data.toList.all (bs.data.toList.contains ·) by
  have h1:=whN_all bs.data.toList s.data.toList
  have h2:=Lib.size_eq s
  rw[Bool.eq_iff_iff,←h1,beq_iff_eq]
  omega)
 generalize whN bs.data.toList s.data.toList=n at HI HX
 go_enter Tryz.func128,Tryz.ntmps128
 go_wp2_with (first|(go_at_call 201;refine(HI.out _).mono ?_;rintro e w1 ⟨rfl,rfl⟩))
 go_ret
 exact⟨by rw[←HX.out];rfl,rfl⟩
def turnB(f t:List UInt8)(c:UInt8):UInt8:=if 0≤Lib.indexByte f c then t.getD (Lib.indexByte f c).toNat 0 else c
def turnK(f t:List UInt8)(l:List UInt8)(k:Nat):List UInt8:=(l.take k).map (turnB f t)++l.drop k
structure TuI (w wr:World) (l:List UInt8) (cap:Nat):Prop where
 bel:Bel w wr
 hc:∃(rest:List Value),wr.heap[w.heap.size]?=some (.cells ((l.map fun b=>Value.int .u8 (b.toNat:Int))++rest).toArray 5 (l.length+rest.length,l.length+rest.length+1))
theorem TuI.cell{w wr:World}{l:List UInt8}{cap:Nat}(h:TuI w wr l cap){k:Nat}(hk:k<l.length):wr.cell? ⟨w.heap.size,k,none⟩=some (.int .u8 (l[k].toNat:Int)):=by
 obtain⟨rest,hc⟩:=h.hc
 simp[World.cell?,hc]
 rw[List.getElem?_append_left (by rw[List.length_map];exact hk)]
 simp[hk]
theorem TuI.free{w wr:World}{l:List UInt8}{cap:Nat}(h:TuI w wr l cap){k:Nat}(hk:k<l.length):wr.frozen? ⟨w.heap.size,k,none⟩=false:=by
 obtain⟨rest,hc⟩:=h.hc
 simp[World.frozen?,hc]
 omega
theorem TuI.set{w wr:World}{l:List UInt8}{cap:Nat}(h:TuI w wr l cap)(k:Nat)(hk:k<l.length)(x:UInt8):TuI w (wr.setCell ⟨w.heap.size,k,none⟩ (.int .u8 (x.toNat:Int))) (l.set k x) cap:=by
 obtain⟨rest,hc⟩:=h.hc
 refine⟨h.bel.setCell (Nat.le_refl _) _,rest,?_⟩
 have e:(wr.setCell ⟨w.heap.size,k,none⟩ (.int .u8 (x.toNat:Int))).heap[w.heap.size]?=some (.cells ((((l.map fun b=>Value.int .u8 (b.toNat:Int))++rest).toArray).setIfInBounds k (.int .u8 (x.toNat:Int))) 5 (l.length+rest.length,l.length+rest.length+1)):=by
  simp[World.setCell,Array.getElem?_modify,hc]
 rw[e]
 simp[List.map_set,hk]
theorem turnK_zero(f t l:List UInt8):turnK f t l 0=l:=by simp[turnK]
theorem turnK_len(f t l:List UInt8)(k:Nat):(turnK f t l k).length=l.length:=by simp[turnK];omega
theorem turnK_at(f t l:List UInt8)(k:Nat)(hk:k<l.length):(turnK f t l k)[k]'(by rw[turnK_len];exact hk)=l[k]:=by
 unfold turnK
 rw[List.getElem_append_right (by simp;omega)]
 simp[Nat.min_eq_left (Nat.le_of_lt hk)]
theorem turnK_next(f t l:List UInt8)(k:Nat)(hk:k<l.length):turnK f t l (k+1)=(turnK f t l k).set k (turnB f t l[k]):=by
 unfold turnK
 refine List.ext_getElem (by simp;omega) fun i h1 h2=> ?_
 rw[List.getElem_set]
 by_cases e:k=i
 ·subst e
  rw[if_pos rfl,List.getElem_append_left (by simp;omega)]
  simp
 ·rw[if_neg e]
  rw[List.getElem_append,List.getElem_append]
  simp only[List.length_map,List.length_take]
  split<;>split<;>first|omega|(simp;done)|(simp;congr 1;omega)
theorem turnK_all(f t l:List UInt8):turnK f t l l.length=l.map (turnB f t):=by simp[turnK]
theorem index_lt(c:UInt8):∀l:List UInt8,0≤Lib.indexByte l c→(Lib.indexByte l c).toNat<l.length
 |[],h=>by simp[Lib.indexByte]at h
 |b::l,h=>by
  have ih:=index_lt c l
  have hg:=Lib.indexByte_ge l c
  have e:Lib.indexByte (b::l) c=if b==c then 0 else if Lib.indexByte l c== -1 then -1 else Lib.indexByte l c+1:=rfl
  rw[e]at h⊢
  by_cases h1:b=c
  ·rw[if_pos (by simpa using h1)];simp
  ·rw[if_neg (by simpa using h1)]at h⊢
   by_cases h2:Lib.indexByte l c= -1
   ·rw[if_pos (by simpa using h2)]at h;simp at h
   ·rw[if_neg (by simpa using h2)]at h⊢
    have:=ih (by omega)
    rw[List.length_cons];omega
theorem turned_run(s f t:ByteArray)(ht:f.size=t.size)(w:World)(hs:s.size<9223372036854775807):
 Calls Tryz.prog 120 #[.string s,.string f,.string t] w fun e w'=>e=.returned (.string ⟨(s.data.toList.map (turnB f.data.toList t.data.toList)).toArray⟩)∧Bel w w':=by
 have hcv:=Lib.run_convert_string_bytes (P:=Tryz.prog) w 9 48 5 s (u:=.string) Tryz.underlying9 Tryz.underlying48 Tryz.underlying5
 have hLn:s.data.toList.length=s.size:=by rw[Lib.size_eq]
 have H0:=hid (show TuI w (Lib.bytesWorld w 5 s) (turnK f.data.toList t.data.toList s.data.toList 0) 0 from by
  refine⟨Ci.bel_bytes w s,List.replicate (grownCap w s.size 0 5-s.size) (.int .u8 0),?_⟩
  rw[Lib.bytesWorld_at_new,turnK_zero]
  have e:Lib.bytesCells w 5 s=((s.data.toList.map fun(b:UInt8)=>Value.int .u8 (b.toNat:Int))++List.replicate (grownCap w s.size 0 5-s.size) (Value.int .u8 0)).toArray:=by
   unfold Lib.bytesCells
   simp
  rw[e]
  simp)
 have HI:=(show Hid (∀(c:UInt8) (W:World),Calls Tryz.prog 168 #[.string f,.int .u8 (c.toNat:Int)] W fun e w'=>e=.returned (.int .i64 (Lib.indexByte f.data.toList c))∧w'=W)from fun c W=>ib_run f c W)
 generalize grownCap w s.size 0 5=cap at hcv H0
 obtain⟨W1,hW1⟩:∃W1,W1=Lib.bytesWorld w 5 s:=⟨_,rfl⟩
 rw[←hW1]at hcv H0
 have HLn:=hid hLn
 have HT:=hid ht
 clear hW1 hLn ht
 go_enter Tryz.func120,Tryz.ntmps120
 go_wp2_with fail
 go_loopg [8,9,10,15] s.size (fun gg v8 v9 v10 v15 wr=>∃k:Nat,v15=.int .i64 k∧k+gg=s.size∧Hid (TuI w wr (turnK f.data.toList t.data.toList s.data.toList k) 0))
 case atStart=>exact⟨0,rfl,by omega,H0⟩
 case round=>
  clear H0
  obtain⟨k,rfl,hk,H⟩:=hrel
  have hkn:k≤s.size:=by omega
  by_cases hlt:k<s.size
  ·have hlt':k<s.data.toList.length:=by rw[HLn.out];exact hlt
   have hkl:k<(turnK f.data.toList t.data.toList s.data.toList k).length:=by rw[turnK_len];exact hlt'
   have c0:=H.out.cell hkl
   rw[turnK_at _ _ _ _ hlt']at c0
   have f0:=H.out.free hkl
   have HN:=hid (turnK_next f.data.toList t.data.toList s.data.toList k hlt')
   have HS:=(show Hid (∀x,TuI w (wr.setCell ⟨w.heap.size,k,none⟩ (.int .u8 ((x:UInt8).toNat:Int))) ((turnK f.data.toList t.data.toList s.data.toList k).set k x) 0)from fun x=>H.out.set k hkl x)
   have HA:=hid (show(turnK f.data.toList t.data.toList s.data.toList k).set k s.data.toList[k]=turnK f.data.toList t.data.toList s.data.toList k from by
    have e:=turnK_at f.data.toList t.data.toList s.data.toList k hlt'
    rw[←e]
    exact List.set_getElem_self hkl)
   clear hkl
   generalize s.data.toList[k]=x at c0 HN HA
   have HJ:=hid (show∀(_:0≤Lib.indexByte f.data.toList x),(Lib.indexByte f.data.toList x).toNat<t.size from fun h=>by
    have:=index_lt x f.data.toList h
    have h2:=Lib.size_eq f
    have:=HT.out
    omega)
   have HB:=hid (show turnB f.data.toList t.data.toList x=if 0≤Lib.indexByte f.data.toList x then t.data.toList.getD (Lib.indexByte f.data.toList x).toNat 0 else x from rfl)
   by_cases hx:0≤Lib.indexByte f.data.toList x
   ·have hj:=HJ.out hx
    obtain⟨i,hi⟩:∃i:Nat,Lib.indexByte f.data.toList x=(i:Int):=⟨_,(Int.toNat_of_nonneg hx).symm⟩
    have HIx:=(show Hid (∀(W:World),Calls Tryz.prog 168 #[.string f,.int .u8 (x.toNat:Int)] W fun e w'=>e=.returned (.int .i64 (i:Int))∧w'=W)from fun W=>by rw[←hi];exact HI.out x W)
    have hi':i<t.size:=by rw[hi]at hj;exact hj
    have HE:=hid (show turnB f.data.toList t.data.toList x=t[i]from by
     rw[HB.out,if_pos hx,hi]
     have h2:=Lib.size_eq t
     rw[Int.toNat_natCast,List.getD_eq_getElem?_getD,List.getElem?_eq_getElem (by omega)]
     rfl)
    clear hx hj hi HJ HB
    go_wp2_with (first|(go_at_call 168;refine(HIx.out _).mono ?_;rintro e w1 ⟨rfl,rfl⟩))
    go_roundg (gk-1)
    case measure=>omega
    case rel=>exact⟨k+1,by go_num,by omega,hid (by rw[HN.out,HE.out];exact HS.out _)⟩
   ·have b1:decide (0≤Lib.indexByte f.data.toList x)=false:=decide_eq_false hx
    have HIx:=(show Hid (∀(W:World),Calls Tryz.prog 168 #[.string f,.int .u8 (x.toNat:Int)] W fun e w'=>e=.returned (.int .i64 (Lib.indexByte f.data.toList x))∧w'=W)from fun W=>HI.out x W)
    have HE:=hid (show(turnK f.data.toList t.data.toList s.data.toList k).set k (turnB f.data.toList t.data.toList x)=turnK f.data.toList t.data.toList s.data.toList k from by rw[HB.out,if_neg hx];exact HA.out)
    clear hx HJ HB
    go_wp2_with (first|(go_at_call 168;refine(HIx.out _).mono ?_;rintro e w1 ⟨rfl,rfl⟩))
    go_roundg (gk-1)
    case measure=>omega
    case rel=>exact⟨k+1,by go_num,by omega,hid (by rw[HN.out,HE.out];exact H.out)⟩
  ·obtain rfl:k=s.size:=by omega
   have HF:=hid (show turnK f.data.toList t.data.toList s.data.toList s.size=s.data.toList.map (turnB f.data.toList t.data.toList) by rw[←HLn.out];exact turnK_all _ _ _)
   have hcb:(convert 48 9 (.slice (some ⟨w.heap.size,0,none⟩) s.size cap)).run Tryz.prog wr=.ok (.string ⟨(s.data.toList.map (turnB f.data.toList t.data.toList)).toArray⟩) wr:=by
    have hl:(s.data.toList.map (turnB f.data.toList t.data.toList)).length=s.size:=by rw[List.length_map,HLn.out]
    rw[←hl]
    refine run_convert_bytes_back wr 48 9 5 ⟨w.heap.size,0,none⟩ cap _ Tryz.underlying48 Tryz.underlying5 Tryz.underlying9 fun j hj=> ?_
    have H2:=H.out
    rw[HF.out]at H2
    rw[Ci.addr_add,Nat.zero_add]
    exact H2.cell hj
   go_wp2_with fail
   go_ret
   exact⟨rfl,H.out.bel⟩
end Go.Proofs.YtmlmkmhkmifnkaaGreatDoor.Ma
namespace Go.Proofs.YtmlmkmhkmifnkaaGreatDoor.Ma
open Go.RowKit
open Ci (Bel Lay pieces pieces_data splitL dot)
def upsL:List UInt8:=[65,66,67,68,69,70,71,72,73,74,75,76,77,78,79,80,81,82,83,84,85,86,87,88,89,90]
def losL:List UInt8:=[97,98,99,100,101,102,103,104,105,106,107,108,109,110,111,112,113,114,115,116,117,118,119,120,121,122]
theorem turn_low:∀b:UInt8,turnB upsL losL b=lowB b:=u8_forall (by decide)
theorem low_map(l:List UInt8):l.map (turnB upsL losL)=lowL l:=by
 unfold lowL
 exact List.map_congr_left fun b _=>turn_low b
theorem lower_run(s:ByteArray)(w:World)(hs:s.size<9223372036854775807):Calls Tryz.prog 63 #[.string s] w fun e w'=>e=.returned (.string ⟨(lowL s.data.toList).toArray⟩)∧Bel w w':=by
 have HI:=(show Hid (∀W,Calls Tryz.prog 120 #[.string s,.string ⟨upsL.toArray⟩,.string ⟨losL.toArray⟩] W fun e w'=>e=.returned (.string ⟨(lowL s.data.toList).toArray⟩)∧Bel W w')from fun W=>by
  rw[←low_map]
  exact turned_run s ⟨upsL.toArray⟩ ⟨losL.toArray⟩ rfl W hs)
 go_enter Tryz.func63,Tryz.ntmps63
 go_wp2_with (first|(go_at_call 120;refine(HI.out _).mono ?_;rintro e w1 ⟨rfl,hb1⟩))
 go_ret
 exact⟨rfl,hb1⟩
def ldhL:List UInt8:=[97,98,99,100,101,102,103,104,105,106,107,108,109,110,111,112,113,114,115,116,117,118,119,120,121,122,65,66,67,68,69,70,71,72,73,74,75,76,77,78,79,80,81,82,83,84,85,86,87,88,89,90,48,49,50,51,52,53,54,55,56,57,45]
theorem ldh_has:∀b:UInt8,ldhL.contains b=ldhB b:=u8_forall (by decide)
theorem pat_has:∀b:UInt8,atomsL.contains b=patB b:=u8_forall (by decide)
theorem all_ldh(l:List UInt8):l.all (ldhL.contains ·)=l.all ldhB:=by
 congr 1;funext b;exact ldh_has b
theorem all_pat(l:List UInt8):l.all (atomsL.contains ·)=l.all patB:=by
 congr 1;funext b;exact pat_has b
theorem all_take{α:Type}(p:α→Bool)(l:List α)(k:Nat)(hk:k<l.length)(h:(l.take k).all p=true):(l.take (k+1)).all p=p l[k]:=by
 rw[List.take_succ_eq_append_getElem hk,List.all_append,h]
 simp
theorem all_false{α:Type}(p:α→Bool)(l:List α)(k:Nat)(hk:k<l.length)(h:p l[k]=false):l.all p=false:=by
 rw[List.all_eq_false]
 exact⟨l[k],List.getElem_mem hk,by rw[h];simp⟩
def lblB(x:ByteArray):Bool:=lblQ x.data.toList
theorem named_pieces(s:ByteArray):namedQ s.data.toList=(pieces s dot).all lblB:=by
 unfold namedQ
 rw[←pieces_data s 46,List.all_map]
 rfl
def patP(x:ByteArray):Bool:= !x.data.toList.isEmpty&&x.data.toList.all patB
theorem dotted_pieces(s:ByteArray):dottedQ s.data.toList=(pieces s dot).all patP:=by
 unfold dottedQ
 rw[←pieces_data s 46,List.all_map]
 rfl
theorem pieces_num(s:ByteArray)(hs:s.size<4294967281):(pieces s dot).length≤4294967281:=by
 have h1:=congrArg List.length (pieces_data s 46)
 rw[List.length_map,Ci.splitL_len]at h1
 have h2:=List.count_le_length (a:=(46:UInt8)) (l:=s.data.toList)
 rw[←Lib.size_eq]at h2
 show(pieces s ⟨#[46]⟩).length≤_
 omega
structure Pcs (w wr:World) (P:List ByteArray):Prop where
 bel:Bel w wr
 hc:wr.heap[w.heap.size]?=some (.cells (P.map Value.string).toArray 9 (0,0))
theorem Pcs.cell{w wr:World}{P:List ByteArray}(h:Pcs w wr P){k:Nat}(hk:k<P.length):wr.cell? ⟨w.heap.size,k,none⟩=some (.string P[k]):=by
 simp[World.cell?,h.hc,hk]
theorem emp_iff(x:ByteArray):x.toList.isEmpty=x.data.toList.isEmpty:=by
 rw[ByteArray.toList_eq]
theorem lbl_emp{x:ByteArray}(h:x.toList.isEmpty=true):lblB x=false:=by
 rw[emp_iff]at h
 unfold lblB lblQ
 rw[h];rfl
theorem lbl_parts{x:ByteArray}(h:x.toList.isEmpty=false)(h0:0<x.size)(m:Nat)(hm:m<x.size)(hm2:m+1=x.size):lblB x=(decide (x.size≤63)&&x.data.toList.all ldhB&&(x[0] !=45)&&(x[m] !=45)):=by
 have hs:=Lib.size_eq x
 rw[emp_iff]at h
 have e1:x.data.toList.head?=some x[0]:=by
  rw[List.head?_eq_getElem?,List.getElem?_eq_getElem (by omega)]
  rfl
 have e2:x.data.toList.getLast?=some x[m]:=by
  rw[List.getLast?_eq_getElem?,show x.data.toList.length-1=m by omega,List.getElem?_eq_getElem (by omega)]
  rfl
 unfold lblB lblQ
 rw[h,e1,e2,←hs]
 rfl
theorem named_run(s:ByteArray)(w:World)(hw:Lay w)(hs:s.size<4294967281):
 Calls Tryz.prog 66 #[.string s] w fun e w'=>e=.returned (.bool (namedQ s.data.toList))∧Bel w w':=by
 have HS:=(show Hid (Calls Tryz.prog 127 #[.string s,.string ⟨#[46]⟩] w fun e w'=>e=.returned (.slice (some ⟨w.heap.size,0,none⟩) (pieces s dot).length (pieces s dot).length)∧Pcs w w' (pieces s dot))from(Ci.split_run s dot w hw hs (by decide)).mono fun e w' ⟨h1,h2,h3⟩=>⟨h1,h3,h2⟩)
 have hn:=pieces_num s hs
 have HR:=hid (named_pieces s)
 have HO:=(show Hid (∀x,x.size≤63→∀W,Calls Tryz.prog 128 #[.string x,.string ⟨ldhL.toArray⟩] W fun e w'=>e=.returned (.bool (x.data.toList.all ldhB))∧w'=W)from fun x hx W=>by
  rw[←all_ldh]
  exact only_run x ⟨ldhL.toArray⟩ W (by omega))
 generalize pieces s dot=P at HS hn HR
 generalize namedQ s.data.toList=r at HR
 clear hw
 go_enter Tryz.func66,Tryz.ntmps66
 go_wp2_with (first|(go_at_call 127;refine HS.out.mono ?_;rintro e w1 ⟨rfl,hp⟩;have H0:=hid hp;clear hp))
 go_loopg [4,8] P.length (fun gg v4 v8 wr=>∃k:Nat,v8=.int .i64 k∧k+gg=P.length∧Hid (Pcs w wr P∧(P.take k).all lblB=true))
 case atStart=>exact⟨0,rfl,by omega,hid ⟨H0.out,by simp⟩⟩
 case round=>
  clear H0 HS
  obtain⟨k,rfl,hk,H⟩:=hrel
  have hkn:k≤P.length:=by omega
  by_cases hlt:k<P.length
  ·have c0:=H.out.1.cell hlt
   have HA:=hid (fun(h:lblB P[k]=false)=>all_false lblB P k hlt h)
   have HN:=hid (all_take lblB P k hlt H.out.2)
   have HB:=hid H.out.1.bel
   generalize P[k]=x at c0 HA HN
   have HK:=hid hk
   cases hemp:x.toList.isEmpty with
   |true=>
    have HX:=hid (show r=false from HR.out.trans (HA.out (lbl_emp hemp)))
    clear hk
    go_wp2_with fail
    go_ret
    exact⟨by rw[HX.out];rfl,HB.out⟩
   |false=>
    have h0:0<x.size:=by
     rw[emp_iff]at hemp
     rw[Lib.size_eq]
     rcases hx:x.data.toList with _|⟨b,l⟩
     ·rw[hx]at hemp;simp at hemp
     ·simp
    obtain⟨m,hm⟩:∃m,m+1=x.size:=⟨x.size-1,by omega⟩
    have hlb:m<x.size:=by omega
    have HP:=hid (lbl_parts hemp h0 m hlb hm)
    by_cases h63:63<x.size
    ·have b1:decide ((63:Int)<(x.size:Int))=true:=decide_eq_true (by omega)
     have HX:=hid (show r=false from HR.out.trans (HA.out (by rw[HP.out,decide_eq_false (by omega:¬x.size≤63)];rfl)))
     clear hk h63
     go_wp2_with fail
     go_ret
     exact⟨by rw[HX.out];rfl,HB.out⟩
    ·have b1:decide ((63:Int)<(x.size:Int))=false:=decide_eq_false (by omega)
     have HO1:=(show Hid (∀W,Calls Tryz.prog 128 #[.string x,.string ⟨ldhL.toArray⟩] W fun e w'=>e=.returned (.bool (x.data.toList.all ldhB))∧w'=W)from fun W=>HO.out x (by omega) W)
     have HD:=hid (show decide (x.size≤63)=true from decide_eq_true (by omega))
     cases ha:x.data.toList.all ldhB with
     |false=>
      have HX:=hid (show r=false from HR.out.trans (HA.out (by rw[HP.out,ha,HD.out];rfl)))
      rw[ha]at HO1
      clear hk h63 ha
      go_wp2_with (first|(go_at_call 128;refine(HO1.out _).mono ?_;rintro e w1 ⟨rfl,rfl⟩))
      go_ret
      exact⟨by rw[HX.out];rfl,HB.out⟩
     |true=>
      have hla:wrap64 ((x.size:Int)-1)=(m:Int):=by rw[show(x.size:Int)-1=(m:Int) by omega];unfold wrap64;omega
      clear hm
      by_cases h1:x[0]=45
      ·have c1:(((x[0]'h0).toNat:Int)==45)=true:=byte_eq (n:=45) (by decide) h1
       have HX:=hid (show r=false from HR.out.trans (HA.out (by rw[HP.out,ha,HD.out,h1];rfl)))
       rw[ha]at HO1
       clear hk h63 ha h1
       go_wp2_with (first|(go_at_call 128;refine(HO1.out _).mono ?_;rintro e w1 ⟨rfl,rfl⟩))
       go_ret
       exact⟨by rw[HX.out];rfl,HB.out⟩
      ·have c1:(((x[0]'h0).toNat:Int)==45)=false:=byte_ne (n:=45) (by decide) h1
       have HE1:=hid (show(x[0] !=45)=true by simpa using h1)
       by_cases h2:x[m]=45
       ·have c2:(((x[m]'hlb).toNat:Int)==45)=true:=byte_eq (n:=45) (by decide) h2
        have HX:=hid (show r=false from HR.out.trans (HA.out (by rw[HP.out,ha,HD.out,h2,HE1.out];rfl)))
        rw[ha]at HO1
        clear hk h63 ha h1 h2
        go_wp2_with (first|(go_at_call 128;refine(HO1.out _).mono ?_;rintro e w1 ⟨rfl,rfl⟩))
        go_ret
        exact⟨by rw[HX.out];rfl,HB.out⟩
       ·have c2:(((x[m]'hlb).toNat:Int)==45)=false:=byte_ne (n:=45) (by decide) h2
        have HE2:=hid (show(x[m] !=45)=true by simpa using h2)
        have HT:=hid (show(P.take (k+1)).all lblB=true by rw[HN.out,HP.out,ha,HD.out,HE1.out,HE2.out];rfl)
        have HPc:=hid H.out.1
        rw[ha]at HO1
        clear hk h63 ha h1 h2 H HN HA HP HE1 HE2 HD
        go_wp2_with (first|(go_at_call 128;refine(HO1.out _).mono ?_;rintro e w1 ⟨rfl,rfl⟩))
        go_roundg (gk-1)
        case measure=>have:=HK.out;omega
        case rel=>exact⟨k+1,by go_num,by have:=HK.out;omega,hid ⟨HPc.out,HT.out⟩⟩
  ·obtain rfl:k=P.length:=by omega
   have HX:=hid (show r=true from HR.out.trans (by have:=H.out.2;rwa[List.take_length]at this))
   have HB:=hid H.out.1.bel
   go_wp2_with fail
   go_ret
   exact⟨by rw[HX.out];rfl,HB.out⟩
theorem dotted_run(s:ByteArray)(w:World)(hw:Lay w)(hs:s.size<4294967281):
 Calls Tryz.prog 157 #[.string s] w fun e w'=>e=.returned (.bool (dottedQ s.data.toList))∧Bel w w':=by
 have HS:=(show Hid (Calls Tryz.prog 127 #[.string s,.string ⟨#[46]⟩] w fun e w'=>e=.returned (.slice (some ⟨w.heap.size,0,none⟩) (pieces s dot).length (pieces s dot).length)∧Pcs w w' (pieces s dot))from(Ci.split_run s dot w hw hs (by decide)).mono fun e w' ⟨h1,h2,h3⟩=>⟨h1,h3,h2⟩)
 have hn:=pieces_num s hs
 have HR:=hid (dotted_pieces s)
 have HO:=(show Hid (∀x∈pieces s dot,∀W,Calls Tryz.prog 128 #[.string x,.string ⟨atomsL.toArray⟩] W fun e w'=>e=.returned (.bool (x.data.toList.all patB))∧w'=W)from fun x hx W=>by
  rw[←all_pat]
  exact only_run x ⟨atomsL.toArray⟩ W (by have:=Ci.pieces_size s dot hs x hx;omega))
 generalize pieces s dot=P at HS hn HR HO
 generalize dottedQ s.data.toList=r at HR
 clear hw
 go_enter Tryz.func157,Tryz.ntmps157
 go_wp2_with (first|(go_at_call 127;refine HS.out.mono ?_;rintro e w1 ⟨rfl,hp⟩;have H0:=hid hp;clear hp))
 go_loopg [4,8] P.length (fun gg v4 v8 wr=>∃k:Nat,v8=.int .i64 k∧k+gg=P.length∧Hid (Pcs w wr P∧(P.take k).all patP=true))
 case atStart=>exact⟨0,rfl,by omega,hid ⟨H0.out,by simp⟩⟩
 case round=>
  clear H0 HS
  obtain⟨k,rfl,hk,H⟩:=hrel
  have hkn:k≤P.length:=by omega
  by_cases hlt:k<P.length
  ·have c0:=H.out.1.cell hlt
   have HA:=hid (fun(h:patP P[k]=false)=>all_false patP P k hlt h)
   have HN:=hid (all_take patP P k hlt H.out.2)
   have HB:=hid H.out.1.bel
   have hmem:=List.getElem_mem hlt
   generalize P[k]=x at c0 HA HN hmem
   have HK:=hid hk
   have HP:=hid (show patP x=(!x.toList.isEmpty&&x.data.toList.all patB) by rw[emp_iff];rfl)
   have HO1:=(show Hid (∀W,Calls Tryz.prog 128 #[.string x,.string ⟨atomsL.toArray⟩] W fun e w'=>e=.returned (.bool (x.data.toList.all patB))∧w'=W)from fun W=>HO.out x hmem W)
   clear hmem
   cases hemp:x.toList.isEmpty with
   |true=>
    have HX:=hid (show r=false from HR.out.trans (HA.out (by rw[HP.out,hemp];rfl)))
    clear hk
    go_wp2_with fail
    go_ret
    exact⟨by rw[HX.out];rfl,HB.out⟩
   |false=>
    cases ha:x.data.toList.all patB with
    |false=>
     have HX:=hid (show r=false from HR.out.trans (HA.out (by rw[HP.out,hemp,ha];rfl)))
     rw[ha]at HO1
     clear hk ha
     go_wp2_with (first|(go_at_call 128;refine(HO1.out _).mono ?_;rintro e w1 ⟨rfl,rfl⟩))
     go_ret
     exact⟨by rw[HX.out];rfl,HB.out⟩
    |true=>
     have HT:=hid (show(P.take (k+1)).all patP=true by rw[HN.out,HP.out,hemp,ha];rfl)
     have HPc:=hid H.out.1
     rw[ha]at HO1
     clear hk ha H HN HA HP
     go_wp2_with (first|(go_at_call 128;refine(HO1.out _).mono ?_;rintro e w1 ⟨rfl,rfl⟩))
     go_roundg (gk-1)
     case measure=>have:=HK.out;omega
     case rel=>exact⟨k+1,by go_num,by have:=HK.out;omega,hid ⟨HPc.out,HT.out⟩⟩
  ·obtain rfl:k=P.length:=by omega
   have HX:=hid (show r=true from HR.out.trans (by have:=H.out.2;rwa[List.take_length]at this))
   have HB:=hid H.out.1.bel
   go_wp2_with fail
   go_ret
   exact⟨by rw[HX.out];rfl,HB.out⟩
end Go.Proofs.YtmlmkmhkmifnkaaGreatDoor.Ma
namespace Go.Proofs.YtmlmkmhkmifnkaaGreatDoor.Ci
open Go.RowKit
def nA:Nt:=⟨false,8,[10,0,0,0,0,0,0,0,0,0,0,0,0,0,0,0]⟩
set_option maxRecDepth 100000
theorem put_net(w:World)(n:Nt)(h:n.addr.length=16):Bel w ((w.alloc (.cells #[.bool false,.int .i64 0,.int .u8 0,.int .u8 0,.int .u8 0,.int .u8 0,.int .u8 0,.int .u8 0,.int .u8 0,.int .u8 0,.int .u8 0,.int .u8 0,.int .u8 0,.int .u8 0,.int .u8 0,.int .u8 0,.int .u8 0,.int .u8 0] 86)).setCells w.heap.size 0 (netC n))∧((w.alloc (.cells #[.bool false,.int .i64 0,.int .u8 0,.int .u8 0,.int .u8 0,.int .u8 0,.int .u8 0,.int .u8 0,.int .u8 0,.int .u8 0,.int .u8 0,.int .u8 0,.int .u8 0,.int .u8 0,.int .u8 0,.int .u8 0,.int .u8 0,.int .u8 0] 86)).setCells w.heap.size 0 (netC n)).heap[w.heap.size]?=some (.cells (netC n).toArray 86 (0,0)):=
 ⟨Bel.setCells (Nat.le_refl _) _ _ _ ((Bel.refl w).alloc _),heap_setCells_whole (cs:=#[.bool false,.int .i64 0,.int .u8 0,.int .u8 0,.int .u8 0,.int .u8 0,.int .u8 0,.int .u8 0,.int .u8 0,.int .u8 0,.int .u8 0,.int .u8 0,.int .u8 0,.int .u8 0,.int .u8 0,.int .u8 0,.int .u8 0,.int .u8 0].toList) (heap_alloc_new w _) (by rw[netC_len _ h];rfl)⟩
theorem there_net(w:World)(n:Nt)(h:n.addr.length=16):(w.alloc (.cells #[.bool false,.int .i64 0,.int .u8 0,.int .u8 0,.int .u8 0,.int .u8 0,.int .u8 0,.int .u8 0,.int .u8 0,.int .u8 0,.int .u8 0,.int .u8 0,.int .u8 0,.int .u8 0,.int .u8 0,.int .u8 0,.int .u8 0,.int .u8 0] 86)).there w.heap.size 0 (netC n).toArray.size:=
 there_of (cs:=#[.bool false,.int .i64 0,.int .u8 0,.int .u8 0,.int .u8 0,.int .u8 0,.int .u8 0,.int .u8 0,.int .u8 0,.int .u8 0,.int .u8 0,.int .u8 0,.int .u8 0,.int .u8 0,.int .u8 0,.int .u8 0,.int .u8 0,.int .u8 0].toList) (heap_alloc_new w _) (by rw[List.size_toArray,netC_len _ h];decide)
theorem net_len(n:Nt)(h:n.addr.length=16):(Tryz.prog.info? 86).map (·.size)=some (netC n).length:=by rw[netC_len _ h];exact net_info
theorem range_net{w:World}{b:Nat}{n:Nt}(h:w.heap[b]?=some (.cells (netC n).toArray 86 (0,0))):w.rangeAt b 0 (netC n):=range_of h fun j v hv=>by simpa using hv
end Go.Proofs.YtmlmkmhkmifnkaaGreatDoor.Ci
namespace Go.Proofs.YtmlmkmhkmifnkaaGreatDoor.Ma
open Go.RowKit
open Ci (Bel Lay ext_bytes app_data Nt netC netV zeroN zeroN_fits addrQ errQ netC_one put_net there_net net_len range_net)
theorem repl_one(c:UInt8)(r:List UInt8):∀(k:Nat) (l:List UInt8),l.count c=k→Lib.replaceK [c] r k l=l.flatMap fun b=>if b=c then r else[b]
 |0,l,h=>by
  have hn:c∉l:=List.count_eq_zero.1 h
  show l=_
  have:∀l:List UInt8,c∉l→l=l.flatMap fun b=>if b=c then r else[b]:=by
   intro l
   induction l with
   |nil=>intro _;rfl
   |cons b l ih=>
    intro hn
    rw[List.flatMap_cons,if_neg (fun e=>hn (by rw[e];exact List.mem_cons_self ..)),←ih fun e=>hn (List.mem_cons_of_mem _ e)]
    rfl
  exact this l hn
 |k+1,l,h=>by
  rcases Ci.split_at c l with hn|⟨p,q,rfl,hp⟩
  ·rw[List.count_eq_zero.2 hn]at h;cases h
  ·have hc:(p++c::q).count c=q.count c+1:=by
    rw[List.count_append,List.count_cons_self,List.count_eq_zero.2 hp,Nat.zero_add]
   have hq:q.count c=k:=by omega
   rw[Lib.replaceK_hit [c] r k _ p.length (Ci.index_one_some c p q hp),List.take_left]
   have e:(p++c::q).drop (p.length+[c].length)=q:=by simp
   rw[e,repl_one c r k q hq,List.flatMap_append,List.flatMap_cons,if_pos rfl]
   have:p=p.flatMap fun b=>if b=c then r else[b]:=by
    have key:∀l:List UInt8,c∉l→l=l.flatMap fun b=>if b=c then r else[b]:=by
     intro l
     induction l with
     |nil=>intro _;rfl
     |cons b l ih=>
      intro hn
      rw[List.flatMap_cons,if_neg (fun e=>hn (by rw[e];exact List.mem_cons_self ..)),←ih fun e=>hn (List.mem_cons_of_mem _ e)]
      rfl
    exact key p hp
   rw[←this]
   simp
def escK(l:List UInt8):List UInt8:=l.flatMap fun b=>if b=92 then[92,92]else[b]
def escQ(l:List UInt8):List UInt8:=l.flatMap fun b=>if b=34 then[92,34]else[b]
theorem esc_two:∀l:List UInt8,escQ (escK l)=l.flatMap esc
 |[]=>rfl
 |b::l=>by
  have ih:=esc_two l
  unfold escQ escK at ih⊢
  rw[List.flatMap_cons,List.flatMap_append,ih,List.flatMap_cons]
  congr 1
  unfold esc
  by_cases h1:b=92
  ·subst h1;decide
  ·by_cases h2:b=34
   ·subst h2;decide
   ·rw[if_neg h1,if_neg (fun e=>e.elim h2 h1)]
    simp[h2]
theorem repl_len(c:UInt8)(r:List UInt8)(hr:r.length≤2):∀l:List UInt8,(l.flatMap fun b=>if b=c then r else[b]).length≤2*l.length
 |[]=>by simp
 |b::l=>by
  have ih:=repl_len c r hr l
  rw[List.flatMap_cons,List.length_append,List.length_cons]
  by_cases h:b=c
  ·rw[if_pos h];omega
  ·rw[if_neg h,List.length_singleton];omega
theorem esc_len(l:List UInt8):(escK l).length≤2*l.length∧(escQ (escK l)).length≤4*l.length:=by
 have h1:=repl_len 92 [92,92] (Nat.le_refl _) l
 have h2:=repl_len 34 [92,34] (Nat.le_refl _) (escK l)
 exact⟨h1,Nat.le_trans h2 (by show 2*(escK l).length≤_;have:(escK l).length≤2*l.length:=h1;omega)⟩
theorem form_len(l:List UInt8):(formP l).length≤4*l.length+2:=by
 unfold formP
 split
 ·omega
 ·have:=(esc_len l).2
  rw[esc_two]at this
  rw[List.length_cons,List.length_append,List.length_singleton]
  omega
theorem countB_le(s:ByteArray)(c:UInt8):Lib.countB s ⟨#[c]⟩≤s.size:=by
 have h:=Ci.pieces_data s c
 have h1:=congrArg List.length h
 rw[List.length_map,Ci.splitL_len]at h1
 have h2:=List.count_le_length (a:=c) (l:=s.data.toList)
 rw[←Lib.size_eq]at h2
 have h3:(Ci.pieces s ⟨#[c]⟩).length=Lib.countB s ⟨#[c]⟩+1:=Lib.splitB_all ⟨#[c]⟩ (Nat.le_refl 1) 0 _ s rfl
 omega
theorem repl_all(s:List UInt8)(c:UInt8)(r:List UInt8)(hr:r≠[c])(hc:Lib.count s [c]=s.count c):Lib.replaceAll s [c] r=s.flatMap fun b=>if b=c then r else[b]:=by
 unfold Lib.replaceAll Lib.replace Lib.replaceNum
 rw[if_neg (by rw[beq_iff_eq];exact fun e=>hr e.symm),if_pos (.inl (by decide)),hc]
 exact repl_one c r _ s rfl
theorem replace_run(s:ByteArray)(c:UInt8)(r:List UInt8)(hr:r≠[c])(h2:r.length≤2)(w:World)(hw:Lay w)(hs:s.size≤16777216):
 Calls Tryz.prog 158 #[.string s,.string ⟨#[c]⟩,.string ⟨r.toArray⟩] w fun e w'=>e=.returned (.string ⟨(s.data.toList.flatMap fun b=>if b=c then r else[b]).toArray⟩)∧Bel w w':=by
 obtain⟨m,hm⟩:=hw.most
 have hcb:=countB_le s c
 have hrs:(⟨r.toArray⟩:ByteArray).size=r.length:=by rw[Lib.size_eq]
 have hb:Lib.countB s ⟨#[c]⟩*(⟨r.toArray⟩:ByteArray).size≤33554432:=by
  rw[hrs]
  have:=Nat.mul_le_mul hcb h2
  omega
 have hc:Lib.count s.data.toList [c]=s.data.toList.count c:=by
  have h:=congrArg List.length (Ci.pieces_data s c)
  rw[List.length_map,Ci.splitL_len]at h
  have h3:(Ci.pieces s ⟨#[c]⟩).length=Lib.countB s ⟨#[c]⟩+1:=Lib.splitB_all ⟨#[c]⟩ (Nat.le_refl 1) 0 _ s rfl
  have h4:Lib.countB s ⟨#[c]⟩=Lib.count s.data.toList [c]:=rfl
  omega
 have:=Tryz.strings_ReplaceAll s ⟨#[c]⟩ ⟨r.toArray⟩ m w (by omega) hm (Nat.le_refl 1) (by omega)
 rw[show(⟨#[c]⟩:ByteArray).data.toList=[c]from rfl,show(⟨r.toArray⟩:ByteArray).data.toList=r by simp,repl_all _ _ _ hr hc]at this
 exact this
end Go.Proofs.YtmlmkmhkmifnkaaGreatDoor.Ma
namespace Go.Proofs.YtmlmkmhkmifnkaaGreatDoor.Ma
open Go.RowKit
open Ci (Bel Lay ext_bytes app_data Nt netC netV zeroN zeroN_fits addrQ errQ netC_one put_net there_net net_len range_net Aft wp_region_aft Calls.aft)
theorem lower_le(l:List UInt8):(lowL l).length=l.length:=by unfold lowL;rw[List.length_map]
theorem form_run(s:ByteArray)(w:World)(hw:Lay w)(hs:s.size≤4194304):
 Calls Tryz.prog 88 #[.string s] w fun e w'=>e=.returned (.string ⟨(formP s.data.toList).toArray⟩)∧Bel w w':=by
 have hs':=Lib.size_eq s
 have he:=esc_len s.data.toList
 have hk:(⟨(escK s.data.toList).toArray⟩:ByteArray).size=(escK s.data.toList).length:=by rw[Lib.size_eq]
 have hq:(⟨(escQ (escK s.data.toList)).toArray⟩:ByteArray).size=(escQ (escK s.data.toList)).length:=by rw[Lib.size_eq]
 have HD:=(show Hid (∀W,Lay W→Calls Tryz.prog 157 #[.string s] W fun e w'=>e=.returned (.bool (dottedQ s.data.toList))∧Bel W w')from fun W hW=>dotted_run s W hW (by omega))
 have H1:=(show Hid (∀W,Lay W→Calls Tryz.prog 158 #[.string s,.string ⟨#[92]⟩,.string ⟨#[92,92]⟩] W fun e w'=>e=.returned (.string ⟨(escK s.data.toList).toArray⟩)∧Bel W w')from fun W hW=>replace_run s 92 [92,92] (by decide) (Nat.le_refl _) W hW (by omega))
 have H2:=(show Hid (∀W,Lay W→Calls Tryz.prog 158 #[.string ⟨(escK s.data.toList).toArray⟩,.string ⟨#[34]⟩,.string ⟨#[92,34]⟩] W fun e w'=>e=.returned (.string ⟨(escQ (escK s.data.toList)).toArray⟩)∧Bel W w')from fun W hW=>replace_run ⟨(escK s.data.toList).toArray⟩ 34 [92,34] (by decide) (Nat.le_refl _) W hW (by omega))
 have HF:=hid (show formP s.data.toList=if dottedQ s.data.toList then s.data.toList else 34::(escQ (escK s.data.toList)++[34]) by rw[esc_two];rfl)
 have a1:∀W:World,(Op.stringOp .add ⟨#[34]⟩ ⟨(escQ (escK s.data.toList)).toArray⟩).run Tryz.prog W=.ok (.string (⟨#[34]⟩++⟨(escQ (escK s.data.toList)).toArray⟩)) W:=fun W=>run_string_add_sum W _ _ (by rw[hq];show 1+_≤_;omega)
 have a2:∀W:World,(Op.stringOp .add (⟨#[34]⟩++⟨(escQ (escK s.data.toList)).toArray⟩) ⟨#[34]⟩).run Tryz.prog W=.ok (.string ((⟨#[34]⟩++⟨(escQ (escK s.data.toList)).toArray⟩)++⟨#[34]⟩)) W:=fun W=>run_string_add_sum W _ _ (by rw[ByteArray.size_append,hq];show 1+_+1≤_;omega)
 have HR:=hid (show formP s.data.toList=34::(escQ (escK s.data.toList)++[34])→(⟨(formP s.data.toList).toArray⟩:ByteArray)=(⟨#[34]⟩++⟨(escQ (escK s.data.toList)).toArray⟩)++⟨#[34]⟩from fun h=>by
  rw[h]
  refine ext_bytes ?_
  rw[app_data,app_data]
  simp)
 generalize escQ (escK s.data.toList)=q2 at H2 HF HR a1 a2
 generalize escK s.data.toList=q1 at H1 H2
 generalize formP s.data.toList=r at HF HR
 have HW:=hid hw
 clear hw hs hs' he hk hq
 cases hd:dottedQ s.data.toList with
 |true=>
  rw[hd]at HD HF
  clear hd a1 a2
  go_enter Tryz.func88,Tryz.ntmps88
  go_wp2_with (first|(go_at_call 157;refine(HD.out _ HW.out).mono ?_;rintro e w1 ⟨rfl,hb1⟩))
  go_ret
  refine⟨?_,hb1⟩
  rw[HF.out,if_pos trivial]
  rfl
 |false=>
  rw[hd]at HD HF
  clear hd
  go_enter Tryz.func88,Tryz.ntmps88
  go_wp2_with (first|(go_at_call 157;refine(HD.out _ HW.out).mono ?_;rintro e w1 ⟨rfl,hb1⟩)|(go_at_call 158;first|(with_reducible refine(H1.out _ (HW.out.next hb1)).mono ?_;rintro e w2 ⟨rfl,hb2⟩)|(with_reducible refine(H2.out _ (HW.out.next (hb1.trans hb2))).mono ?_;rintro e w3 ⟨rfl,hb3⟩)))
  go_ret
  refine⟨?_,hb1.trans (hb2.trans hb3)⟩
  rw[HR.out (by rw[HF.out];rfl)]
  rfl
theorem pshown_run(n:Bool)(l d:ByteArray)(t:Bool)(w:World)(hw:Lay w)(hl:l.size≤4194304)(hd:d.size≤4194304):
 Calls Tryz.prog 89 #[.agg #[.bool n,.string l,.string d,.bool t]] w fun e w'=>e=.returned (.string ⟨(shownP ⟨n,l.data.toList,d.data.toList,t⟩).toArray⟩)∧Bel w w':=by
 have H0:=hid (And.intro ((Bel.refl w).alloc (.cells #[.bool n,.string l,.string d,.bool t] 26)) (heap_alloc_new w (.cells #[.bool n,.string l,.string d,.bool t] 26)))
 have hlen:=form_len l.data.toList
 have hs':=Lib.size_eq l
 have hF:(⟨(formP l.data.toList).toArray⟩:ByteArray).size=(formP l.data.toList).length:=by rw[Lib.size_eq]
 have HF:=(show Hid (∀W,Lay W→Calls Tryz.prog 88 #[.string l] W fun e w'=>e=.returned (.string ⟨(formP l.data.toList).toArray⟩)∧Bel W w')from fun W hW=>form_run l W hW hl)
 have HS:=hid (show shownP ⟨n,l.data.toList,d.data.toList,t⟩=if n then[]else if !t&&d.data.toList.isEmpty then formP l.data.toList else formP l.data.toList++[64]++domP ⟨n,l.data.toList,d.data.toList,t⟩from rfl)
 have HDm:=hid (show domP ⟨n,l.data.toList,d.data.toList,t⟩=if t then[91]++(if((addrQ d.data.toList).getD zeroN).six then IPv6 else[])++d.data.toList++[93]else d.data.toList from by
  unfold domP sixP
  cases h:addrQ d.data.toList with
  |none=>rfl
  |some k=>rfl)
 generalize shownP ⟨n,l.data.toList,d.data.toList,t⟩=r at HS
 generalize domP ⟨n,l.data.toList,d.data.toList,t⟩=dm at HS HDm
 have HA:=(show Hid (∀W,Lay W→Calls Tryz.prog 64 #[.string d] W fun e w'=>e=.returned (.tuple #[.agg (netC ((addrQ d.data.toList).getD zeroN)).toArray,.int .i64 (errQ (addrQ d.data.toList))])∧Bel W w')from fun W hW=>Ci.addr_run d W hW (by omega))
 have HN:=hid (show((addrQ d.data.toList).getD zeroN).Fits by
  cases h:addrQ d.data.toList with
  |none=>exact zeroN_fits
  |some k=>exact(Ci.addrQ_fits h).1)
 generalize (addrQ d.data.toList).getD zeroN=a at HA HN HDm
 generalize errQ (addrQ d.data.toList)=ea at HA
 have HW:=hid hw
 have hFl:(⟨(formP l.data.toList).toArray⟩:ByteArray).size≤20000000:=by rw[hF];omega
 have HX:=hid (show(⟨(formP l.data.toList).toArray⟩:ByteArray).data.toList=formP l.data.toList from rfl)
 generalize (⟨(formP l.data.toList).toArray⟩:ByteArray)=fl at HF hFl HX
 rw[←HX.out]at HS
 clear hw hlen hs' hF HX hl
 cases n with
 |true=>
  have HX:=hid (show r=[]from HS.out)
  go_enter Tryz.func89,Tryz.ntmps89
  go_wp2_with fail
  go_ret
  exact⟨by rw[HX.out];rfl,H0.out.1⟩
 |false=>
  cases t with
  |true=>
   have HX:=hid (show r=fl.data.toList++[64]++([91]++(if a.six then IPv6 else[])++d.data.toList++[93]) by
    rw[HS.out,HDm.out];rfl)
   clear HS HDm
   have HZ:=hid (net_len a HN.out.len)
   have hBz:(netC a).length=(netC zeroN).length:=by rw[Ci.netC_len a HN.out.len,Ci.netC_len zeroN zeroN_fits.len]
   have HL:=hid hBz
   clear hBz
   have HP0:=hid H0.out.2
   cases h6:a.six with
   |true=>
    have a1:∀W:World,(Op.stringOp .add fl ⟨#[64,91]⟩).run Tryz.prog W=.ok (.string (fl++⟨#[64,91]⟩)) W:=fun W=>run_string_add_sum W _ _ (by show fl.size+2≤_;omega)
    have a2:∀W:World,(Op.stringOp .add (fl++⟨#[64,91]⟩) ⟨#[73,80,118,54,58]⟩).run Tryz.prog W=.ok (.string ((fl++⟨#[64,91]⟩)++⟨#[73,80,118,54,58]⟩)) W:=fun W=>run_string_add_sum W _ _ (by rw[ByteArray.size_append];show fl.size+2+_≤_;show fl.size+2+5≤_;omega)
    have a3:∀W:World,(Op.stringOp .add ((fl++⟨#[64,91]⟩)++⟨#[73,80,118,54,58]⟩) d).run Tryz.prog W=.ok (.string (((fl++⟨#[64,91]⟩)++⟨#[73,80,118,54,58]⟩)++d)) W:=fun W=>run_string_add_sum W _ _ (by rw[ByteArray.size_append,ByteArray.size_append];show fl.size+2+5+d.size≤_;omega)
    have a4:∀W:World,(Op.stringOp .add (((fl++⟨#[64,91]⟩)++⟨#[73,80,118,54,58]⟩)++d) ⟨#[93]⟩).run Tryz.prog W=.ok (.string ((((fl++⟨#[64,91]⟩)++⟨#[73,80,118,54,58]⟩)++d)++⟨#[93]⟩)) W:=fun W=>run_string_add_sum W _ _ (by rw[ByteArray.size_append,ByteArray.size_append,ByteArray.size_append];show fl.size+2+5+d.size+1≤_;omega)
    rw[h6]at HX
    go_enter Tryz.func89,Tryz.ntmps89
    go_upto_region 8 with(first|(go_at_call 64;refine(HA.out _ (HW.out.next H0.out.1)).mono ?_;rintro e w2 ⟨rfl,hb2⟩;have hp2:=hb2.heap HP0.out)|(refine wpList_store_blk rfl 86 (.tmp 3) (.tmp 16) rfl w2.heap.size (netC a) rfl rfl HZ.out (netC_one a) (netC zeroN) _ (heap_alloc_new w2 _) HL.out ?_;intro w3 hc3 ho3 hs3 hb3;have HB3:=hid (hb3 w2 ((Bel.refl w2).alloc _) (Nat.le_refl _));have c3:w3.cell? ⟨w2.heap.size,0,none⟩=some (.bool true):=(by simp[World.cell?,hc3,netC,h6]);clear ho3 hs3 hb3))
    have HB4:=hid (show Bel w w3 from H0.out.1.trans (hb2.trans HB3.out))
    have hp3:=HB3.out.heap hp2
    have k1:∀p:Aft w3,p.wd.cell? ⟨w.heap.size,1,none⟩=some (.string l):=fun p=>p.cell hp3 rfl
    have k2:∀p:Aft w3,p.wd.cell? ⟨w.heap.size,2,none⟩=some (.string d):=fun p=>p.cell hp3 rfl
    have HFq:=hid (fun p:Aft w3=>HF.out p.wd (HW.out.next (HB4.out.trans p.bel)))
    clear c3 hc3 hp2 hp3 hb2 h6
    refine wp_region_aft (by kernel_rfl) (by kernel_rfl) ?_
    repeat (first
     |go_big_quiet_skip
     |go_big_quiet_step (first|(go_at_call 88;exact Calls.aft (HFq.out _)))
     |quiet_step (first|(go_at_call 88;exact Calls.aft (HFq.out _))))
    refine wpQuiet_nil ?_
    rintro _ ⟨p,rfl⟩
    go_wp2_with fail
    go_ret
    refine⟨?_,HB4.out.trans p.bel⟩
    refine congrArg Ending.returned (congrArg Value.string (ext_bytes ?_))
    rw[app_data,app_data,app_data,app_data,HX.out]
    simp[IPv6]
   |false=>
    have a1:∀W:World,(Op.stringOp .add fl ⟨#[64,91]⟩).run Tryz.prog W=.ok (.string (fl++⟨#[64,91]⟩)) W:=fun W=>run_string_add_sum W _ _ (by show fl.size+2≤_;omega)
    have a2:∀W:World,(Op.stringOp .add (fl++⟨#[64,91]⟩) ⟨#[]⟩).run Tryz.prog W=.ok (.string ((fl++⟨#[64,91]⟩)++⟨#[]⟩)) W:=fun W=>run_string_add_sum W _ _ (by rw[ByteArray.size_append];show fl.size+2+_≤_;show fl.size+2+0≤_;omega)
    have a3:∀W:World,(Op.stringOp .add ((fl++⟨#[64,91]⟩)++⟨#[]⟩) d).run Tryz.prog W=.ok (.string (((fl++⟨#[64,91]⟩)++⟨#[]⟩)++d)) W:=fun W=>run_string_add_sum W _ _ (by rw[ByteArray.size_append,ByteArray.size_append];show fl.size+2+0+d.size≤_;omega)
    have a4:∀W:World,(Op.stringOp .add (((fl++⟨#[64,91]⟩)++⟨#[]⟩)++d) ⟨#[93]⟩).run Tryz.prog W=.ok (.string ((((fl++⟨#[64,91]⟩)++⟨#[]⟩)++d)++⟨#[93]⟩)) W:=fun W=>run_string_add_sum W _ _ (by rw[ByteArray.size_append,ByteArray.size_append,ByteArray.size_append];show fl.size+2+0+d.size+1≤_;omega)
    rw[h6]at HX
    go_enter Tryz.func89,Tryz.ntmps89
    go_upto_region 8 with(first|(go_at_call 64;refine(HA.out _ (HW.out.next H0.out.1)).mono ?_;rintro e w2 ⟨rfl,hb2⟩;have hp2:=hb2.heap HP0.out)|(refine wpList_store_blk rfl 86 (.tmp 3) (.tmp 16) rfl w2.heap.size (netC a) rfl rfl HZ.out (netC_one a) (netC zeroN) _ (heap_alloc_new w2 _) HL.out ?_;intro w3 hc3 ho3 hs3 hb3;have HB3:=hid (hb3 w2 ((Bel.refl w2).alloc _) (Nat.le_refl _));have c3:w3.cell? ⟨w2.heap.size,0,none⟩=some (.bool false):=(by simp[World.cell?,hc3,netC,h6]);clear ho3 hs3 hb3))
    have HB4:=hid (show Bel w w3 from H0.out.1.trans (hb2.trans HB3.out))
    have hp3:=HB3.out.heap hp2
    have k1:∀p:Aft w3,p.wd.cell? ⟨w.heap.size,1,none⟩=some (.string l):=fun p=>p.cell hp3 rfl
    have k2:∀p:Aft w3,p.wd.cell? ⟨w.heap.size,2,none⟩=some (.string d):=fun p=>p.cell hp3 rfl
    have HFq:=hid (fun p:Aft w3=>HF.out p.wd (HW.out.next (HB4.out.trans p.bel)))
    clear c3 hc3 hp2 hp3 hb2 h6
    refine wp_region_aft (by kernel_rfl) (by kernel_rfl) ?_
    repeat (first
     |go_big_quiet_skip
     |go_big_quiet_step (first|(go_at_call 88;exact Calls.aft (HFq.out _)))
     |quiet_step (first|(go_at_call 88;exact Calls.aft (HFq.out _))))
    refine wpQuiet_nil ?_
    rintro _ ⟨p,rfl⟩
    go_wp2_with fail
    go_ret
    refine⟨?_,HB4.out.trans p.bel⟩
    refine congrArg Ending.returned (congrArg Value.string (ext_bytes ?_))
    rw[app_data,app_data,app_data,app_data,HX.out]
    simp
  |false=>
   cases hemp:d.toList.isEmpty with
   |true=>
    have HX:=hid (show r=fl.data.toList by
     rw[emp_iff]at hemp
     rw[HS.out,hemp];rfl)
    clear HS HDm
    go_enter Tryz.func89,Tryz.ntmps89
    go_wp2_with (first|(go_at_call 88;refine(HF.out _ (HW.out.next H0.out.1)).mono ?_;rintro e w2 ⟨rfl,hb2⟩))
    go_ret
    exact⟨by rw[HX.out];rfl,H0.out.1.trans hb2⟩
   |false=>
    have HX:=hid (show r=fl.data.toList++[64]++d.data.toList by
     rw[emp_iff]at hemp
     rw[HS.out,HDm.out,hemp];rfl)
    have a1:∀W:World,(Op.stringOp .add fl ⟨#[64]⟩).run Tryz.prog W=.ok (.string (fl++⟨#[64]⟩)) W:=fun W=>run_string_add_sum W _ _ (by show fl.size+1≤_;omega)
    have a2:∀W:World,(Op.stringOp .add (fl++⟨#[64]⟩) d).run Tryz.prog W=.ok (.string ((fl++⟨#[64]⟩)++d)) W:=fun W=>run_string_add_sum W _ _ (by rw[ByteArray.size_append];show fl.size+1+d.size≤_;omega)
    clear HS HDm
    go_enter Tryz.func89,Tryz.ntmps89
    go_upto_region 11 with(fail)
    have hp3:=H0.out.2
    have HB4:=hid H0.out.1
    generalize w.alloc (.cells #[.bool false,.string l,.string d,.bool false] 26)=w3 at hp3 HB4⊢
    have k1:∀p:Aft w3,p.wd.cell? ⟨w.heap.size,1,none⟩=some (.string l):=fun p=>p.cell hp3 rfl
    have k2:∀p:Aft w3,p.wd.cell? ⟨w.heap.size,2,none⟩=some (.string d):=fun p=>p.cell hp3 rfl
    have HFq:=hid (fun p:Aft w3=>HF.out p.wd (HW.out.next (HB4.out.trans p.bel)))
    clear hp3
    refine wp_region_aft (by kernel_rfl) (by kernel_rfl) ?_
    repeat (first
     |go_big_quiet_skip
     |go_big_quiet_step (first|(go_at_call 88;exact Calls.aft (HFq.out _)))
     |quiet_step (first|(go_at_call 88;exact Calls.aft (HFq.out _))))
    refine wpQuiet_nil ?_
    rintro _ ⟨p,rfl⟩
    go_wp2_with fail
    go_ret
    refine⟨?_,HB4.out.trans p.bel⟩
    refine congrArg Ending.returned (congrArg Value.string (ext_bytes ?_))
    rw[app_data,app_data,HX.out]
end Go.Proofs.YtmlmkmhkmifnkaaGreatDoor.Ma
namespace Go.Proofs.YtmlmkmhkmifnkaaGreatDoor.Ma
open Go.RowKit
theorem tl_ne{a b:ByteArray}(h:¬a=b):¬a.toList=b.toList:=by
 rw[ByteArray.toList_eq,ByteArray.toList_eq]
 exact fun e=>h (by
  have:=Array.toList_inj.1 e
  cases a;cases b
  simpa using this)
theorem eq_pt(n1:Bool)(l1 d1:ByteArray)(t1:Bool)(n2:Bool)(l2 d2:ByteArray)(t2:Bool)(w:World):
 (Op.equalIn 10000 26 (.agg #[.bool n1,.string l1,.string d1,.bool t1]) (.agg #[.bool n2,.string l2,.string d2,.bool t2])).run Tryz.prog w=.ok (decide (n1=n2∧l1=l2∧d1=d2∧t1=t2)) w:=by
 have u4:=Tryz.underlying4
 have a4:=Tryz.isAgg4
 have z4:=Tryz.sizeOf4
 have u9:=Tryz.underlying9
 have a9:=Tryz.isAgg9
 have z9:=Tryz.sizeOf9
 rw[show(10000:Nat)=9999+1 from rfl,Op.equalIn]
 simp only[Sem.run_bind,run_underlying Tryz.underlying26,Result.andThen_ok]
 go_simp
 by_cases h1:n1=n2
 case neg=>simp[h1]
 subst h1
 by_cases h2:l1=l2
 case neg=>simp[h2,tl_ne h2]
 subst h2
 by_cases h3:d1=d2
 case neg=>simp[h3,tl_ne h3]
 subst h3
 by_cases h4:t1=t2
 case neg=>simp[h4]
 subst h4
 simp
end Go.Proofs.YtmlmkmhkmifnkaaGreatDoor.Ma
namespace Go.Proofs.YtmlmkmhkmifnkaaGreatDoor.Ci
open Go.RowKit
theorem dec_big(n b0 b1 b2 b3:Nat)(h:¬b0<128)(hn:1≤n):
 128≤(Lib.decodeN n b0 b1 b2 b3).1∧1≤(Lib.decodeN n b0 b1 b2 b3).2∧(Lib.decodeN n b0 b1 b2 b3).2≤n∧(Lib.decodeN n b0 b1 b2 b3).2≤4∧(1<(Lib.decodeN n b0 b1 b2 b3).2→128≤b1)∧(2<(Lib.decodeN n b0 b1 b2 b3).2→128≤b2)∧(3<(Lib.decodeN n b0 b1 b2 b3).2→128≤b3):=by
 unfold Lib.decodeN
 repeat' split
 all_goals (simp only;omega)
theorem get_at(s:ByteArray)(i:Nat):s.get! i=s.data.toList.getD i 0:=by
 cases s with
 |mk d=>
  show d[i]! =d.toList.getD i 0
  simp[List.getD,Array.getElem!_eq_getD,Array.getD_eq_getD_getElem?]
  rfl
end Go.Proofs.YtmlmkmhkmifnkaaGreatDoor.Ci