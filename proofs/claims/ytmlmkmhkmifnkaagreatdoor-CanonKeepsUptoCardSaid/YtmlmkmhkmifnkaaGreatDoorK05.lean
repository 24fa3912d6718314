import Derived.Test.YtmlmkmhkmifnkaaGreatDoorK04
import Derived.Outline
import Derived.Laws.IdiomStrings
import Derived.Lib.ConvBytes
import Derived.Lib.Walk
import Derived.Laws.Strings3
import Derived.Laws.Closers25
import Derived.Laws.Closers25b
import Derived.BigCall
import Derived.BigGuard
import Derived.Laws.AppendOwn
set_option maxHeartbeats 16000000
set_option maxRecDepth 1000000
namespace Go.Proofs.YtmlmkmhkmifnkaaGreatDoor.Ma
open Go.RowKit
open Ci (Bel)
structure CmI (l:List UInt8) (k d:Nat):Prop where
 h40:∀h:0<l.length,l[0]=40
 pos:1≤d∨k=0
 eq:cmtL l 0=(cmtL (l.drop k) d).map (· +k)
theorem drop_at{l:List UInt8}{k:Nat}(hk:k<l.length):l.drop k=l[k]::l.drop (k+1):=List.drop_eq_getElem_cons hk
theorem map_map_add(o:Option Nat)(a b c:Nat)(h:a+b=c):(o.map (· +a)).map (· +b)=o.map (· +c):=by
 cases o with
 |none=>rfl
 |some x=>show some (x+a+b)=some (x+c);rw[←h,Nat.add_assoc]
theorem CmI.pos'{l:List UInt8}{k d:Nat}(h:CmI l k d)(hk:k<l.length)(hc:l[k]≠40):1≤d:=by
 rcases h.pos with h1|rfl
 ·exact h1
 ·exact absurd (h.h40 hk) hc
theorem CmI.open_{l:List UInt8}{k d:Nat}(h:CmI l k d)(hk:k<l.length)(hc:l[k]=40):CmI l (k+1) (d+1):=by
 refine⟨h.h40,.inl (by omega),?_⟩
 rw[h.eq,drop_at hk,cmtL.eq_def]
 simp only
 rw[if_pos hc,map_map_add _ 1 k (k+1) (by omega)]
theorem CmI.esc_{l:List UInt8}{k d:Nat}(h:CmI l k d)(hk:k<l.length)(hc:l[k]=92):CmI l (k+2) d:=by
 have hne:l[k]≠40:=by rw[hc];decide
 refine⟨h.h40,.inl (h.pos' hk hne),?_⟩
 rw[h.eq,drop_at hk,cmtL.eq_def]
 simp only
 rw[if_neg hne,if_pos hc]
 by_cases hk2:k+1<l.length
 ·rw[drop_at hk2]
  simp only
  rw[map_map_add _ 2 k (k+2) (by omega)]
 ·rw[List.drop_eq_nil_of_le (by omega:l.length≤k+1),List.drop_eq_nil_of_le (by omega:l.length≤k+2)]
  rfl
theorem CmI.close_{l:List UInt8}{k d:Nat}(h:CmI l k d)(hk:k<l.length)(hc:l[k]=41)(hd:d≠1):CmI l (k+1) (d-1):=by
 have hne:l[k]≠40:=by rw[hc];decide
 have hp:=h.pos' hk hne
 refine⟨h.h40,.inl (by omega),?_⟩
 rw[h.eq,drop_at hk,cmtL.eq_def]
 simp only
 rw[if_neg hne,if_neg (by rw[hc];decide),if_pos hc,if_neg hd,map_map_add _ 1 k (k+1) (by omega)]
theorem CmI.done_{l:List UInt8}{k d:Nat}(h:CmI l k d)(hk:k<l.length)(hc:l[k]=41)(hd:d=1):cmtL l 0=some (k+1):=by
 have hne:l[k]≠40:=by rw[hc];decide
 rw[h.eq,drop_at hk,cmtL.eq_def]
 simp only
 rw[if_neg hne,if_neg (by rw[hc];decide),if_pos hc,if_pos hd]
 show some (1+k)=_
 rw[Nat.add_comm]
theorem CmI.other_{l:List UInt8}{k d:Nat}(h:CmI l k d)(hk:k<l.length)(h1:l[k]≠40)(h2:l[k]≠92)(h3:l[k]≠41):CmI l (k+1) d:=by
 refine⟨h.h40,.inl (h.pos' hk h1),?_⟩
 rw[h.eq,drop_at hk,cmtL.eq_def]
 simp only
 rw[if_neg h1,if_neg h2,if_neg h3,map_map_add _ 1 k (k+1) (by omega)]
theorem CmI.end_{l:List UInt8}{k d:Nat}(h:CmI l k d)(hk:l.length≤k):cmtL l 0=none:=by
 rw[h.eq,List.drop_eq_nil_of_le hk];rfl
theorem byte_eq{b:UInt8}{n:Nat}(hn:n<256)(h:b=UInt8.ofNat n):((b.toNat:Int)==(n:Int))=true:=by
 subst h
 rw[UInt8.toNat_ofNat',Nat.mod_eq_of_lt hn]
 exact beq_self_eq_true _
theorem byte_ne{b:UInt8}{n:Nat}(hn:n<256)(h:b≠UInt8.ofNat n):((b.toNat:Int)==(n:Int))=false:=by
 rw[beq_eq_false_iff_ne]
 intro e
 refine h (UInt8.toNat_inj.1 ?_)
 rw[UInt8.toNat_ofNat',Nat.mod_eq_of_lt hn]
 omega
theorem comment_run(s:ByteArray)(w:World)(hs:s.size≤65536)(h40:∀h:0<s.data.toList.length,s.data.toList[0]=40):
 Calls Tryz.prog 169 #[.string s] w fun e w'=>e=.returned (.int .i64 ((cmtL s.data.toList 0).getD 0:Nat))∧Bel w w':=by
 have hl:s.data.toList.length=s.size:=by rw[Lib.size_eq]
 have HL:=hid hl
 have H0:=hid (show CmI s.data.toList 0 0 from⟨h40,.inr rfl,by rw[List.drop_zero];cases cmtL s.data.toList 0<;>rfl⟩)
 clear hl h40
 go_enter Tryz.func169,Tryz.ntmps169
 go_wp2_with fail
 go_loopg [3,4] (s.size+2) (fun gg v3 v4 wr=>∃(d k:Nat),v3=.int .i64 d∧v4=.int .i64 k∧k+gg=s.size+2∧k≤s.size+1∧d≤k∧Hid (Bel w wr∧CmI s.data.toList k d))
 case atStart=>exact⟨0,0,rfl,rfl,by omega,by omega,Nat.le_refl _,hid ⟨Bel.refl w,H0.out⟩⟩
 case round=>
  clear H0
  obtain⟨d,k,rfl,rfl,hk,hk1,hd,H⟩:=hrel
  by_cases hlt:k<s.size
  ·have hlt':k<s.data.toList.length:=by rw[HL.out];exact hlt
   have HC:=hid (show s.data.toList[k]'hlt'=s[k]from rfl)
   by_cases h1:s[k]=40
   ·have b1:=byte_eq (n:=40) (by decide) h1
    have HN:=hid (show Bel w wr∧CmI s.data.toList (k+1) (d+1)from⟨H.out.1,H.out.2.open_ hlt' (HC.out.trans h1)⟩)
    clear h1 H
    go_wp2_with fail
    go_roundg (gk-1)
    case measure=>omega
    case rel=>exact⟨d+1,k+1,by go_num,by go_num,by omega,by omega,by omega,HN⟩
   ·have b1:=byte_ne (n:=40) (by decide) h1
    by_cases h2:s[k]=92
    ·have b2:=byte_eq (n:=92) (by decide) h2
     have HN:=hid (show Bel w wr∧CmI s.data.toList (k+2) d from⟨H.out.1,H.out.2.esc_ hlt' (HC.out.trans h2)⟩)
     clear h1 h2 H
     go_wp2_with fail
     go_roundg (gk-2)
     case measure=>omega
     case rel=>exact⟨d,k+2,by go_num,by go_num,by omega,by omega,by omega,HN⟩
    ·have b2:=byte_ne (n:=92) (by decide) h2
     by_cases h3:s[k]=41
     ·have b3:=byte_eq (n:=41) (by decide) h3
      have hd1:1≤d:=H.out.2.pos' hlt' (by rw[HC.out];exact h1)
      by_cases h4:d=1
      ·subst h4
       have HX:=hid (show cmtL s.data.toList 0=some (k+1)from H.out.2.done_ hlt' (HC.out.trans h3) rfl)
       clear h1 h2 h3
       go_wp2_with fail
       go_ret
       exact⟨by rw[HX.out];rfl,H.out.1⟩
      ·have b4:(((d:Int)-1)==0)=false:=by rw[beq_eq_false_iff_ne];omega
       have HN:=hid (show Bel w wr∧CmI s.data.toList (k+1) (d-1)from⟨H.out.1,H.out.2.close_ hlt' (HC.out.trans h3) h4⟩)
       clear h1 h2 h3 h4 H
       go_wp2_with fail
       go_roundg (gk-1)
       case measure=>omega
       case rel=>exact⟨d-1,k+1,by go_num,by go_num,by omega,by omega,by omega,HN⟩
     ·have b3:=byte_ne (n:=41) (by decide) h3
      have HN:=hid (show Bel w wr∧CmI s.data.toList (k+1) d from⟨H.out.1,H.out.2.other_ hlt' (by rw[HC.out];exact h1) (by rw[HC.out];exact h2) (by rw[HC.out];exact h3)⟩)
      clear h1 h2 h3 H
      go_wp2_with fail
      go_roundg (gk-1)
      case measure=>omega
      case rel=>exact⟨d,k+1,by go_num,by go_num,by omega,by omega,by omega,HN⟩
  ·have HX:=hid (H.out.2.end_ (by rw[HL.out];omega))
   go_wp2_with fail
   go_ret
   exact⟨by rw[HX.out];rfl,H.out.1⟩
end Go.Proofs.YtmlmkmhkmifnkaaGreatDoor.Ma
namespace Go.Proofs.YtmlmkmhkmifnkaaGreatDoor.Ma
open Go.RowKit
open Ci (Bel)
theorem index_has(c:UInt8):∀l:List UInt8,decide (0≤Lib.indexByte l c)=l.contains c
 |[]=>rfl
 |b::l=>by
  have ih:=index_has c l
  have hg:=Lib.indexByte_ge l c
  have e:Lib.indexByte (b::l) c=if b==c then 0 else if Lib.indexByte l c== -1 then -1 else Lib.indexByte l c+1:=rfl
  rw[List.contains_cons,←ih,e]
  by_cases h:b=c
  ·subst h;simp
  ·rw[if_neg (by simpa using h)]
   have h':(c==b)=false:=by simpa using Ne.symm h
   rw[h',Bool.false_or]
   by_cases h2:Lib.indexByte l c= -1
   ·rw[h2];rfl
   ·rw[if_neg (by simpa using h2),decide_eq_decide];omega
def atomsL:List UInt8:=[97,98,99,100,101,102,103,104,105,106,107,108,109,110,111,112,113,114,115,116,117,118,119,120,121,122,65,66,67,68,69,70,71,72,73,74,75,76,77,78,79,80,81,82,83,84,85,86,87,88,89,90,48,49,50,51,52,53,54,55,56,57,33,35,36,37,38,39,42,43,45,47,61,63,94,95,96,123,124,125,126]
theorem atoms_all:∀n:Fin 256,(decide (128≤n.val)||atomsL.contains (UInt8.ofNat n.val))=atB (UInt8.ofNat n.val):=by decide
theorem atoms_has(c:UInt8):(decide (128≤c.toNat)||atomsL.contains c)=atB c:=by
 have h:=atoms_all ⟨c.toNat,c.toNat_lt⟩
 simpa using h
theorem u8_back(c:UInt8):((c.toNat:Int).toNat).toUInt8=c:=by
 rw[Int.toNat_natCast]
 exact UInt8.ofNat_toNat
theorem inAtom_run(c:UInt8)(w:World):Calls Tryz.prog 172 #[.int .u8 c.toNat] w fun e w'=>e=.returned (.bool (atB c))∧Bel w w':=by
 have HA:=hid (atoms_has c)
 by_cases h:128≤c.toNat
 ·have b1:decide ((128:Int)≤(c.toNat:Int))=true:=decide_eq_true (by omega)
  have HX:=hid (show atB c=true by rw[←HA.out,decide_eq_true h];rfl)
  clear h
  go_enter Tryz.func172,Tryz.ntmps172
  go_wp2_with fail
  go_ret
  refine⟨?_,Bel.refl w⟩
  show Ending.returned (Value.bool true)=_
  rw[HX.out]
 ·have b1:decide ((128:Int)≤(c.toNat:Int))=false:=decide_eq_false (by omega)
  have HX:=hid (show atomsL.contains c=atB c by rw[←HA.out,decide_eq_false h];rfl)
  have HI:=hid (Tryz.strings_IndexByte ⟨atomsL.toArray⟩ c.toNat w)
  clear h
  go_enter Tryz.func172,Tryz.ntmps172
  go_wp2_with (first|(go_at_call 168;refine HI.out.mono ?_;rintro e w1 ⟨rfl,rfl⟩))
  go_ret
  refine⟨?_,Bel.refl w1⟩
  show Ending.returned (Value.bool (decide (0≤Lib.indexByte atomsL c)))=_
  rw[index_has,HX.out]
structure BrI (l:List UInt8) (k:Nat):Prop where
 pos:1≤k
 eq:brkL (l.drop 1)=(brkL (l.drop k)).map (· +(k-1))
theorem BrI.next{l:List UInt8}{k:Nat}(h:BrI l k)(hk:k<l.length)(h1:l[k]≠93)(h2:¬(l[k].toNat≤32∨126<l[k].toNat∨l[k]=91∨l[k]=92)):BrI l (k+1):=by
 have:=h.pos
 refine⟨by omega,?_⟩
 rw[h.eq,drop_at hk,brkL,if_neg h1,if_neg h2,map_map_add _ 1 (k-1) (k+1-1) (by omega)]
theorem BrI.stop{l:List UInt8}{k:Nat}(h:BrI l k)(hk:k<l.length)(h1:l[k]≠93)(h2:l[k].toNat≤32∨126<l[k].toNat∨l[k]=91∨l[k]=92):brkL (l.drop 1)=none:=by
 rw[h.eq,drop_at hk,brkL,if_neg h1,if_pos h2];rfl
theorem BrI.done{l:List UInt8}{k:Nat}(h:BrI l k)(hk:k<l.length)(h1:l[k]=93):brkL (l.drop 1)=some k:=by
 have:=h.pos
 rw[h.eq,drop_at hk,brkL,if_pos h1]
 show some (1+(k-1))=_
 congr 1;omega
theorem BrI.end_{l:List UInt8}{k:Nat}(h:BrI l k)(hk:l.length≤k):brkL (l.drop 1)=none:=by
 rw[h.eq,List.drop_eq_nil_of_le hk];rfl
def brkN(l:List UInt8):Nat:=match brkL (l.drop 1)with
 |some n=>n+1
 |none=>0
theorem bracket_run(s:ByteArray)(w:World)(hs:s.size≤65536):
 Calls Tryz.prog 171 #[.string s] w fun e w'=>e=.returned (.int .i64 (brkN s.data.toList:Nat))∧Bel w w':=by
 have hl:s.data.toList.length=s.size:=by rw[Lib.size_eq]
 have HL:=hid hl
 have H0:=hid (show BrI s.data.toList 1 from⟨Nat.le_refl _,by cases brkL (s.data.toList.drop 1)<;>rfl⟩)
 clear hl
 go_enter Tryz.func171,Tryz.ntmps171
 go_wp2_with fail
 go_loopg [3] (s.size+1) (fun gg v3 wr=>∃(k:Nat),v3=.int .i64 k∧k+gg=s.size+2∧1≤k∧k≤s.size+1∧Hid (Bel w wr∧BrI s.data.toList k))
 case atStart=>exact⟨1,rfl,by omega,by omega,by omega,hid ⟨Bel.refl w,H0.out⟩⟩
 case round=>
  clear H0
  obtain⟨k,rfl,hk,hk1,hk2,H⟩:=hrel
  by_cases hlt:k<s.size
  ·have hlt':k<s.data.toList.length:=by rw[HL.out];exact hlt
   have HC:=hid (show s.data.toList[k]'hlt'=s[k]from rfl)
   by_cases h1:s[k]=93
   ·have b1:(((s[k]'hlt).toNat:Int)==93)=true:=byte_eq (n:=93) (by decide) h1
    have HX:=hid (show brkN s.data.toList=k+1 by unfold brkN;rw[H.out.2.done hlt' (HC.out.trans h1)])
    clear h1
    go_wp2_with fail
    go_ret
    exact⟨by rw[HX.out];rfl,H.out.1⟩
   ·have b1:(((s[k]'hlt).toNat:Int)==93)=false:=byte_ne (n:=93) (by decide) h1
    by_cases h2:s[k].toNat≤32∨126<s[k].toNat∨s[k]=91∨s[k]=92
    ·have HX:=hid (show brkN s.data.toList=0 by unfold brkN;rw[H.out.2.stop hlt' (by rw[HC.out];exact h1) (by rw[HC.out];exact h2)])
     by_cases g1:s[k].toNat≤32
     ·have c1:decide (((s[k]'hlt).toNat:Int)≤32)=true:=decide_eq_true (by omega)
      clear h1 h2 g1
      go_wp2_with fail
      go_ret
      exact⟨by rw[HX.out];rfl,H.out.1⟩
     ·have c1:decide (((s[k]'hlt).toNat:Int)≤32)=false:=decide_eq_false (by omega)
      by_cases g2:126<s[k].toNat
      ·have c2:decide ((126:Int)<((s[k]'hlt).toNat:Int))=true:=decide_eq_true (by omega)
       clear h1 h2 g1 g2
       go_wp2_with fail
       go_ret
       exact⟨by rw[HX.out];rfl,H.out.1⟩
      ·have c2:decide ((126:Int)<((s[k]'hlt).toNat:Int))=false:=decide_eq_false (by omega)
       by_cases g3:s[k]=91
       ·have c3:(((s[k]'hlt).toNat:Int)==91)=true:=byte_eq (n:=91) (by decide) g3
        clear h1 h2 g1 g2 g3
        go_wp2_with fail
        go_ret
        exact⟨by rw[HX.out];rfl,H.out.1⟩
       ·have c3:(((s[k]'hlt).toNat:Int)==91)=false:=byte_ne (n:=91) (by decide) g3
        have g4:s[k]=92:=by
         rcases h2 with h|h|h|h
         ·exact absurd h g1
         ·exact absurd h g2
         ·exact absurd h g3
         ·exact h
        have c4:(((s[k]'hlt).toNat:Int)==92)=true:=byte_eq (n:=92) (by decide) g4
        clear h1 h2 g1 g2 g3 g4
        go_wp2_with fail
        go_ret
        exact⟨by rw[HX.out];rfl,H.out.1⟩
    ·have HN:=hid (show Bel w wr∧BrI s.data.toList (k+1)from⟨H.out.1,H.out.2.next hlt' (by rw[HC.out];exact h1) (by rw[HC.out];exact h2)⟩)
     simp only[not_or]at h2
     have c1:decide (((s[k]'hlt).toNat:Int)≤32)=false:=decide_eq_false (by omega)
     have c2:decide ((126:Int)<((s[k]'hlt).toNat:Int))=false:=decide_eq_false (by omega)
     have c3:(((s[k]'hlt).toNat:Int)==91)=false:=byte_ne (n:=91) (by decide) h2.2.2.1
     have c4:(((s[k]'hlt).toNat:Int)==92)=false:=byte_ne (n:=92) (by decide) h2.2.2.2
     clear h1 h2 H
     go_wp2_with fail
     go_roundg (gk-1)
     case measure=>omega
     case rel=>exact⟨k+1,by go_num,by omega,by omega,by omega,HN⟩
  ·have HX:=hid (show brkN s.data.toList=0 by unfold brkN;rw[H.out.2.end_ (by rw[HL.out];omega)])
   go_wp2_with fail
   go_ret
   exact⟨by rw[HX.out];rfl,H.out.1⟩
end Go.Proofs.YtmlmkmhkmifnkaaGreatDoor.Ma
namespace Go.Proofs.YtmlmkmhkmifnkaaGreatDoor.Ci
open Go.RowKit
theorem addr_add(b o j:Nat):Addr.add ⟨b,o,none⟩ j=⟨b,o+j,none⟩:=by
 unfold Addr.add
 split
 ·rename_i h;rw[h];rfl
 ·rfl
theorem pow2_run(w:World):Calls Tryz.prog 296 #[.int .i64 16] w fun e w'=>e=.returned (.bool true)∧w'=w:=by
 go_enter Tryz.func296,Tryz.ntmps296
 go_wp2_with fail
 go_ret
 exact⟨rfl,rfl⟩
theorem tz_run(w:World)(hb:w.cell? ⟨8,15,none⟩=some (.int .u8 4)):Calls Tryz.prog 297 #[.int .u64 16] w fun e w'=>e=.returned (.int .i64 4)∧w'=w:=by
 go_enter Tryz.func297,Tryz.ntmps297
 have h1:bits .and .u64 16 (IntKind.u64.wrap (-16))=16:=by kernel_rfl
 have h2:IntKind.u64.wrap (16*285870213051353865)/288230376151711744=15:=by kernel_rfl
 go_wp2
 go_ret
 exact⟨rfl,rfl⟩
def digC(ds:List UInt8):List Value:=List.replicate (65-ds.length) (.int .u8 0)++ds.map fun b=>.int .u8 (b.toNat:Int)
theorem digC_set(ds:List UInt8)(b:UInt8)(h:ds.length<65):(digC ds).set (64-ds.length) (.int .u8 (b.toNat:Int))=digC (b::ds):=by
 unfold digC
 rw[List.set_append_left _ _ (by simp;omega),List.length_cons,(by omega:65-ds.length=(64-ds.length)+1),List.replicate_succ',List.set_append_right _ _ (by simp),(by omega:65-(ds.length+1)=64-ds.length)]
 simp
theorem digC_at(ds:List UInt8)(j:Nat)(hj:j<ds.length):(digC ds)[65-ds.length+j]?=some (.int .u8 (ds[j].toNat:Int)):=by
 unfold digC
 rw[List.getElem?_append_right (by simp)]
 simp[hj]
structure HexW (w wr:World) (ds:List UInt8):Prop where
 bel:Bel w wr
 hb:wr.heap[w.heap.size]?=some (.cells (digC ds).toArray 310 (0,0))
theorem HexW.set{w wr:World}{ds:List UInt8}(h:HexW w wr ds)(b:UInt8)(hd:ds.length<65):HexW w (wr.setCell ⟨w.heap.size,64-ds.length,none⟩ (.int .u8 (b.toNat:Int))) (b::ds):=by
 refine⟨h.bel.setCell (Nat.le_refl _) _,?_⟩
 rw[heap_setCell_same wr _ _ _ _ _ h.hb,List.setIfInBounds_toArray,digC_set ds b hd]
theorem HexW.next{w wr:World}{ds:List UInt8}(h:HexW w wr ds)(hd:ds.length<65):wr.cell? ⟨w.heap.size,65-ds.length-1,none⟩=some (.int .u8 0):=by
 have:(digC ds)[65-ds.length-1]?=some (.int .u8 0):=by
  unfold digC
  rw[List.getElem?_append_left (by simp;omega)]
  exact List.getElem?_replicate_of_lt (by omega)
 simp[World.cell?,h.hb,this]
theorem and15(x:Nat)(h:x<65536):bits .and .u64 (x:Int) 15=((x%16:Nat):Int):=by
 have:=u64_and_nat x 15 (by omega) (by decide)
 rw[show((15:Nat):Int)=15 from rfl]at this
 rw[this,show x&&&15=x%16 from Nat.and_two_pow_sub_one_eq_mod x 4]
theorem hexI(k:Nat)(h:k<16)(p:k<(⟨#[48,49,50,51,52,53,54,55,56,57,97,98,99,100,101,102,103,104,105,106,107,108,109,110,111,112,113,114,115,116,117,118,119,120,121,122]⟩:ByteArray).size):(⟨#[48,49,50,51,52,53,54,55,56,57,97,98,99,100,101,102,103,104,105,106,107,108,109,110,111,112,113,114,115,116,117,118,119,120,121,122]⟩:ByteArray)[k]'p=hexD k:=by
 have key:∀k:Fin 16,(#[48,49,50,51,52,53,54,55,56,57,97,98,99,100,101,102,103,104,105,106,107,108,109,110,111,112,113,114,115,116,117,118,119,120,121,122]:Array UInt8)[k.val]?=some (hexD k.val):=by decide
 exact(Array.getElem?_eq_some_iff.1 (key ⟨k,h⟩)).2
theorem formatBits_run(n:Nat)(hn:n<65536)(w:World)(hb:w.cell? ⟨8,15,none⟩=some (.int .u8 4))(h8:8<w.heap.size):
 Calls Tryz.prog 280 #[.slice none 0 0,.int .u64 n,.int .i64 16,.bool false,.bool false] w fun e w'=>e=.returned (.tuple #[.slice none 0 0,.string ⟨(hexL n).toArray⟩])∧Bel w w':=by
 have HB:=hid hb
 clear hb
 go_enter Tryz.func280,Tryz.ntmps280
 go_wp2_with fail
 refine(pow2_run _).mono ?_
 rintro e w1 ⟨rfl,rfl⟩
 go_wp2_with fail
 refine(tz_run _ ?_).mono ?_
 ·exact(Below.cell (p:=⟨8,15,none⟩) ((Bel.refl w).alloc _) (by show 8<w.heap.size;omega)).trans HB.out
 rintro e w1 ⟨rfl,rfl⟩
 have h15:IntKind.u64.wrap (16-1)=15:=by kernel_rfl
 go_wp2_with fail
 go_loopg [1,13] n (fun gg v1 v13 wr=>∃(x:Nat) (ds:List UInt8),v1=.int .u64 x∧v13=.int .i64 (65-(ds.length:Int))∧x=gg∧ds.length≤3∧Hid (HexW w wr ds∧hexL n=hexL x++ds∧x<16^(4-ds.length)))
 case atStart=>
  refine⟨n,[],rfl,rfl,rfl,by decide,hid ⟨⟨(Bel.refl w).alloc _,?_⟩,by simp,hn⟩⟩
  exact heap_alloc_new w _
 case round=>
  obtain⟨x,ds,rfl,rfl,hg,hds,H⟩:=hrel
  have hx:x<65536:=by
   have:=H.out.2.2
   have h2:16^(4-ds.length)≤16^4:=Nat.pow_le_pow_right (by decide) (by omega)
   omega
  have HG:=hid hg
  clear hg
  have f0:wr.frozen? ⟨w.heap.size,65-ds.length-1,none⟩=false:=by simp[World.frozen?,H.out.1.hb]
  have c0:wr.cell? ⟨w.heap.size,65-ds.length-1,none⟩=some (.int .u8 0):=H.out.1.next (by omega)
  by_cases h16:16≤x
  ·have hm:x%16<16:=Nat.mod_lt _ (by decide)
   have ha:=and15 x hx
   have hm0:(0:Int)≤(x:Int)%16:=by omega
   have hm1:(x:Int)%16<36:=by omega
   go_wp2_with fail
   go_roundg (x/16)
   case measure=>have:=HG.out;omega
   case rel=>
    refine⟨x/16,hexD (x%16)::ds,by go_num,by rw[List.length_cons];go_num,rfl,?_,?_⟩
    ·rcases(by omega:ds.length≤2∨ds.length=3)with f|f
     ·simpa using f
     ·have:=H.out.2.2
      rw[f]at this
      omega
    ·rw[hexI _ hm]
     have hs:=H.out.1.set (hexD (x%16)) (by omega)
     rw[(by omega:64-ds.length=65-ds.length-1)]at hs
     refine hid ⟨hs,by rw[H.out.2.1,hexL_big (by omega)];simp,?_⟩
     have:=H.out.2.2
     rcases(by omega:ds.length=0∨ds.length=1∨ds.length=2∨ds.length=3)with f|f|f|f<;>rw[f]at this<;>rw[List.length_cons,f]<;>omega
  ·have hm:x<16:=by omega
   have hs:=H.out.1.set (hexD x) (by omega)
   have hn2:hexL n=hexD x::ds:=by rw[H.out.2.1,hexL_small hm];rfl
   rw[(by omega:64-ds.length=65-ds.length-1)]at hs
   have hcv:∀p,(convert 48 9 (.slice (some ⟨w.heap.size,65-ds.length-1,none⟩) (hexL n).length (hexL n).length)).run Tryz.prog (wr.setCell ⟨w.heap.size,65-ds.length-1,none⟩ (.int .u8 (((⟨#[48,49,50,51,52,53,54,55,56,57,97,98,99,100,101,102,103,104,105,106,107,108,109,110,111,112,113,114,115,116,117,118,119,120,121,122]⟩:ByteArray)[x]'p).toNat:Int)))=.ok (.string ⟨(hexL n).toArray⟩) (wr.setCell ⟨w.heap.size,65-ds.length-1,none⟩ (.int .u8 (((⟨#[48,49,50,51,52,53,54,55,56,57,97,98,99,100,101,102,103,104,105,106,107,108,109,110,111,112,113,114,115,116,117,118,119,120,121,122]⟩:ByteArray)[x]'p).toNat:Int))):=by
    intro p
    rw[hexI _ hm]
    rw[hn2]
    refine run_convert_bytes_back _ 48 9 5 _ _ _ Tryz.underlying48 Tryz.underlying5 Tryz.underlying9 fun j hj=> ?_
    have hat:=digC_at (hexD x::ds) j hj
    rw[show 65-(hexD x::ds).length=65-ds.length-1 by rw[List.length_cons];omega]at hat
    rw[addr_add]
    simp only[World.cell?,hs.hb]
    simpa using hat
   have hsl:∀W:World,(Instr.sliceAt 310 (.pointer (some ⟨w.heap.size,0,none⟩)) (some (.int .i64 (65-(ds.length:Int)-1))) none none).run Tryz.prog W=.ok (.slice (some ⟨w.heap.size,65-ds.length-1,none⟩) (hexL n).length (hexL n).length) W:=by
    intro W
    rw[run_sliceAt_array_l W 310 _ (by kernel_rfl) .i64 _ (by omega) (by rw[show Tryz.prog.arrayLen 310=65 by kernel_rfl];omega),show Tryz.prog.arrayLen 310=65 by kernel_rfl]
    rw[show Tryz.prog.elem 310=5 by kernel_rfl,Tryz.sizeOf5]
    simp only[Result.andThen_ok,slicedAt]
    rw[hn2,List.length_cons,if_neg (by omega),addr_add,(by omega:(65-(ds.length:Int)-1).toNat=65-ds.length-1),(by omega:65-(65-ds.length-1)=ds.length+1)]
    simp
   have HE:=hid hs.bel
   clear hs hn2 HB
   go_wp2_with fail
   go_ret2
   refine⟨rfl,?_⟩
   rw[hexI _ hm]
   exact HE.out
theorem formatI_run(n:Nat)(hn:n<65536)(w:World)(hb:w.cell? ⟨8,15,none⟩=some (.int .u8 4))(h8:8<w.heap.size):
 Calls Tryz.prog 252 #[.int .u64 n,.int .i64 16] w fun e w'=>e=.returned (.string ⟨(hexL n).toArray⟩)∧Bel w w':=by
 have HF:=(show Hid (Calls Tryz.prog 280 #[.slice none 0 0,.int .u64 n,.int .i64 16,.bool false,.bool false] w fun e w'=>e=.returned (.tuple #[.slice none 0 0,.string ⟨(hexL n).toArray⟩])∧Bel w w')from formatBits_run n hn w hb h8)
 clear hb
 go_enter Tryz.func252,Tryz.ntmps252
 go_wp2_with fail
 refine HF.out.mono ?_
 rintro e w1 ⟨rfl,hb1⟩
 go_wp2_with fail
 go_ret
 exact⟨rfl,hb1⟩
theorem formatUint_run(n:Nat)(hn:n<65536)(w:World)(hb:w.cell? ⟨8,15,none⟩=some (.int .u8 4))(h8:8<w.heap.size):
 Calls Tryz.prog 198 #[.int .u64 n,.int .i64 16] w fun e w'=>e=.returned (.string ⟨(hexL n).toArray⟩)∧Bel w w':=by
 have HF:=(show Hid (Calls Tryz.prog 252 #[.int .u64 n,.int .i64 16] w fun e w'=>e=.returned (.string ⟨(hexL n).toArray⟩)∧Bel w w')from formatI_run n hn w hb h8)
 clear hb
 go_enter Tryz.func198,Tryz.ntmps198
 go_wp2_with fail
 refine HF.out.mono ?_
 rintro e w1 ⟨rfl,hb1⟩
 go_wp2_with fail
 go_ret
 exact⟨rfl,hb1⟩
end Go.Proofs.YtmlmkmhkmifnkaaGreatDoor.Ci
namespace Go.Proofs.YtmlmkmhkmifnkaaGreatDoor.Ci
open Go.RowKit
theorem or32(c:Nat)(h:c<256):bits .or .u8 (c:Int) 32=((c|||32:Nat):Int):=by
 have:=u8_or_nat c 32 h (by decide)
 exact this
theorem lower_run(c:Nat)(h:c<256)(w:World):Calls Tryz.prog 291 #[.int .u8 c] w fun e w'=>e=.returned (.int .u8 ((c|||32:Nat):Int))∧w'=w:=by
 have ho:=or32 c h
 go_enter Tryz.func291,Tryz.ntmps291
 go_wp2_with fail
 go_ret
 exact⟨rfl,rfl⟩
theorem hex_ways{c:UInt8}(h:hexB c=true):(48≤c.toNat∧c.toNat≤57∧hexV c=c.toNat-48)∨(57<c.toNat∧97≤(c.toNat|||32)∧(c.toNat|||32)≤102∧hexV c=(c.toNat|||32)-87∧((c.toNat:Int)==95)=false):=by
 have key:∀n:Fin 256,hexB (UInt8.ofNat n.val)=true→(48≤n.val∧n.val≤57∧hexV (UInt8.ofNat n.val)=n.val-48)∨(57<n.val∧97≤(n.val|||32)∧(n.val|||32)≤102∧hexV (UInt8.ofNat n.val)=(n.val|||32)-87∧((n.val:Int)==95)=false):=by decide+kernel
 have:=key ⟨c.toNat,c.toNat_lt⟩ (by rw[show UInt8.ofNat c.toNat=c by simp];exact h)
 simp only[show UInt8.ofNat c.toNat=c by simp]at this
 exact this
def hexF(l:List UInt8):Nat:=l.foldl (fun a b=>a*16+hexV b) 0
theorem hexF_snoc(l:List UInt8)(b:UInt8):hexF (l++[b])=hexF l*16+hexV b:=by simp[hexF]
theorem hexF_lt:∀(k:Nat) (l:List UInt8),l.length=k→(∀b∈l,hexB b=true)→hexF l<16^k
 |0,l,h,_=>by rw[List.length_eq_zero_iff.1 h];decide
 |k+1,l,h,hb=>by
  have hne:l≠[]:=by intro e;rw[e]at h;cases h
  have e:=List.dropLast_concat_getLast hne
  rw[←e,hexF_snoc]
  have h1:=hexF_lt k l.dropLast (by rw[List.length_dropLast];omega) (fun b hb'=>hb b ((List.dropLast_sublist l).subset hb'))
  have h2:hexV (l.getLast hne)<16:=by
   rcases hex_ways (hb _ (List.getLast_mem hne))with f|f<;>omega
  rw[Nat.pow_succ];omega
theorem parseI_run(t:ByteArray)(h1:1≤t.size)(h4:t.size≤4)(hx:∀b∈t.data.toList,hexB b=true)(w:World):
 Calls Tryz.prog 276 #[.string t,.int .i64 16,.int .i64 16] w fun e w'=>e=.returned (.tuple #[.int .u64 (hexF t.data.toList:Nat),.nilIface])∧Bel w w':=by
 have hemp:t.toList.isEmpty=false:=by
  rw[←decide_eq_emptyBytes]
  exact decide_eq_false (fun h=>by rw[h]at h1;cases h1)
 have hcv:=Lib.run_convert_string_bytes (P:=Tryz.prog) w 9 48 5 t (u:=.string) Tryz.underlying9 Tryz.underlying48 Tryz.underlying5
 have HB:=(show Hid (∀j,j<t.size→(Lib.bytesWorld w 5 t).cell? ⟨w.heap.size,j,none⟩=some (.int .u8 (t.data.toList.getD j 0).toNat))from fun j hj=>Lib.bytesWorld_cell w 5 t j hj)
 have HE:=hid (bel_bytes w t)
 obtain⟨W1,hW1⟩:∃W1,W1=Lib.bytesWorld w 5 t:=⟨_,rfl⟩
 rw[←hW1]at hcv HB HE
 clear hW1
 have hLn:t.data.toList.length=t.size:=by rw[Lib.size_eq]
 generalize t.data.toList=bs at HB hx hLn
 have HX:=hid (And.intro hx hLn)
 clear hx hLn
 have hmv:IntKind.u64.wrap (65536-1)=65535:=by rw[IntKind.wrap_u64];decide
 go_enter Tryz.func276,Tryz.ntmps276
 go_wp2_with fail
 go_loop [12,13,101] (fun vu vn vi=>∃(k:Nat) (a:Int),vu=.bool false∧vn=.int .u64 a∧vi=.int .i64 k∧k≤t.size∧Hid (a=(hexF (bs.take k):Nat)))
  (fun _ _ vi=>t.size-(intOf vi).toNat)
 case atStart=>exact⟨0,0,rfl,rfl,rfl,by omega,hid rfl⟩
 case round=>
  obtain⟨k,a,rfl,rfl,rfl,hk,HA⟩:=hrel
  have hlt:=hexF_lt (bs.take k).length (bs.take k) rfl (fun b hb=>HX.out.1 b (List.mem_of_mem_take hb))
  rw[List.length_take,HX.out.2,Nat.min_eq_left hk]at hlt
  have a0:0≤a:=by have:=HA.out;omega
  by_cases hkn:k<t.size
  ·have a1:a≤4095:=by
    have:=HA.out
    have h2:16^k≤16^3:=Nat.pow_le_pow_right (by decide) (by omega)
    omega
   have hc:=HB.out k hkn
   have hget:bs.getD k 0=bs[k]'(by have:=HX.out.2;omega):=by simp[List.getD,List.getElem?_eq_getElem (show k<bs.length by have:=HX.out.2;omega)]
   have hmem:bs[k]'(by have:=HX.out.2;omega)∈bs:=List.getElem_mem _
   have htk:bs.take (k+1)=bs.take k++[bs[k]'(by have:=HX.out.2;omega)]:=List.take_succ_eq_append_getElem _
   rw[hget]at hc
   have hw:=hex_ways (HX.out.1 _ hmem)
   clear hget hmem
   generalize bs[k]'(by have:=HX.out.2;omega)=c at hc htk hw
   have hc256:c.toNat<256:=c.toNat_lt
   have HN:=hid (show hexF (bs.take (k+1))=hexF (bs.take k)*16+hexV c by rw[htk,hexF_snoc])
   clear htk hlt
   rcases hw with⟨c1,c2,c3⟩|⟨c1,c2,c3,c4,c5⟩
   ·have HV:=hid c3
    clear c3
    go_wp2_with fail
    go_round
    case rel=>exact⟨k+1,a*16+((c.toNat:Int)-48),rfl,rfl,by go_num,by omega,hid (by rw[HN.out,HV.out];have:=HA.out;omega)⟩
    case measure=>simp[intOf];omega
   ·have HV:=hid c4
    clear c4
    have HL:=(show Hid (∀W,Calls Tryz.prog 291 #[.int .u8 c.toNat] W fun e w'=>e=.returned (.int .u8 ((c.toNat|||32:Nat):Int))∧w'=W)from fun W=>lower_run c.toNat hc256 W)
    generalize c.toNat|||32=m at HL HV c2 c3
    go_wp2_with (go_at_call 291;refine(HL.out _).mono ?_;rintro e w' ⟨rfl,rfl⟩)
    go_round
    case rel=>exact⟨k+1,a*16+((m:Int)-97+10),rfl,rfl,by go_num,by omega,hid (by rw[HN.out,HV.out];have:=HA.out;omega)⟩
    case measure=>simp[intOf];omega
  ·obtain rfl:k=t.size:=by omega
   have hall:bs.take t.size=bs:=List.take_of_length_le (by have:=HX.out.2;omega)
   rw[hall]at HA
   clear hall hlt
   go_wp2_with fail
   go_ret2
   exact⟨by rw[HA.out];rfl,HE.out⟩
theorem parse16_run(t:ByteArray)(h1:1≤t.size)(h4:t.size≤4)(hx:∀b∈t.data.toList,hexB b=true)(w:World):
 Calls Tryz.prog 251 #[.string t,.int .i64 16,.int .i64 16] w fun e w'=>e=.returned (.tuple #[.int .u64 (hexF t.data.toList:Nat),.nilIface])∧Bel w w':=by
 have HF:=(show Hid (∀W,Calls Tryz.prog 276 #[.string t,.int .i64 16,.int .i64 16] W fun e w'=>e=.returned (.tuple #[.int .u64 (hexF t.data.toList:Nat),.nilIface])∧Bel W w')from fun W=>parseI_run t h1 h4 hx W)
 clear hx
 go_enter Tryz.func251,Tryz.ntmps251
 go_wp2_with fail
 refine(HF.out _).mono ?_
 rintro e w1 ⟨rfl,hb1⟩
 go_wp2_with fail
 go_ret2
 exact⟨rfl,hb1⟩
end Go.Proofs.YtmlmkmhkmifnkaaGreatDoor.Ci
namespace Go.Proofs.YtmlmkmhkmifnkaaGreatDoor.Ci
open Go.RowKit
theorem row_shape{w:World}{base e size n:Nat}{v:Value}{xs:List Value}(h:w.ownsRow base e size v n xs):∃x cap,v=.slice x n cap∧n≤cap∧cap≤9223372036854775807:=by
 rcases h.2 with⟨rfl,rfl⟩|⟨g,cap,cur,rfl,-,-,h1,h2,-⟩
 ·exact⟨none,0,rfl,Nat.le_refl _,by omega⟩
 ·unfold maxLen at h2
  exact⟨_,_,rfl,h1,h2⟩
theorem own_bel{w w':World}{base e size n:Nat}{v:Value}{xs:List Value}(h:w.ownsRow base e size v n xs)(hb:Bel w w'):w'.ownsRow base e size v n xs:=by
 refine⟨h.1,?_⟩
 rcases h.2 with f|⟨g,cap,cur,rfl,hg,hh,rest⟩
 ·exact .inl f
 ·exact .inr ⟨g,cap,cur,rfl,hg,hb.heap hh,rest⟩
theorem Bel.grown{a w w':World}{v:Value}{e size n:Nat}{xs:List Value}(h:Bel a w)(hg:w.grownBy w' v.ownBlock)(ho:w.ownsRow a.heap.size e size v n xs):Bel a w':=by
 refine Below.grown h hg h.size fun k hk=> ?_
 rcases ho.2 with⟨rfl,rfl⟩|⟨g,cap,cur,rfl,hb,-⟩
 ·cases hk
 ·cases hk;exact hb
theorem uint8_info:(Tryz.prog.info? 5).map (fun i=>(i.zero,i.size,i.bytes))=some (some (.int .u8 0),1,1):=by kernel_rfl
theorem bytes_take(ps:List ByteArray)(k:Nat)(hk:k<ps.length):(bytesL ((ps.take (k+1)).map grpOr)).map u8V=(bytesL ((ps.take k).map grpOr)).map u8V++[.int .u8 ((grpOr ps[k]/256:Nat):Int),.int .u8 ((grpOr ps[k]%256:Nat):Int)]:=by
 rw[List.take_succ_eq_append_getElem hk,List.map_append,bytesL_app,List.map_append]
 rfl
theorem new2{W:World}{g:Nat}(u v:Value)(ty:TypeId)(hg:g=W.heap.size)(j:Nat)(u':Value)(hj:[u,v][j]?=some u'):(W.alloc (.cells #[u,v] ty)).cell? ((⟨g,0,none⟩:Addr).add j)=some u':=by
 subst hg
 rw[addr_add,Nat.zero_add]
 have e:=heap_alloc_new W (.cells #[u,v] ty)
 simp only[World.cell?,e]
 simpa using hj
structure GrpW (w wr:World) (l:List ByteArray) (g:Nat) (v:Value) (k:Nat):Prop where
 bel:Bel w wr
 hl:wr.heap[g]?=some (.cells (l.map Value.string).toArray 9 (0,0))
 own:wr.ownsRow (w.heap.size+1) 5 1 v (2*k) ((bytesL ((l.take k).map grpOr)).map u8V)
 ok:∀x∈l.take k,grpOk x=true
theorem GrpW.next{w wr w':World}{l:List ByteArray}{g:Nat}{v:Value}{k:Nat}(h:GrpW w wr l g v k)(hx:Bel wr w'):GrpW w w' l g v k:=
 ⟨h.bel.trans hx,hx.heap h.hl,own_bel h.own hx,h.ok⟩
theorem GrpW.cell{w wr:World}{l:List ByteArray}{g:Nat}{v:Value}{k:Nat}(h:GrpW w wr l g v k)(j:Nat)(hj:j<l.length):wr.cell? ⟨g,j,none⟩=some (.string l[j]):=by
 simp[World.cell?,h.hl,hj]
theorem own_base{w:World}{base base' e size n:Nat}{v:Value}{xs:List Value}(h:w.ownsRow base e size v n xs)(hb:base'≤base):w.ownsRow base' e size v n xs:=by
 refine⟨h.1,?_⟩
 rcases h.2 with f|⟨g,cap,cur,e,hg,rest⟩
 ·exact .inl f
 ·exact .inr ⟨g,cap,cur,e,Nat.le_trans hb hg,rest⟩
theorem grown_row{w w':World}{v:Value}{base e size n k:Nat}{xs:List Value}{o:Obj}(hg:w.grownBy w' v.ownBlock)(ho:w.ownsRow base e size v n xs)(hk:k<base)(h:w.heap[k]?=some o):w'.heap[k]?=some o:=by
 refine(hg.block k (Array.getElem?_eq_some_iff.1 h).1 ?_).trans h
 rcases ho.2 with⟨rfl,rfl⟩|⟨g,cap,cur,rfl,hb,-⟩
 ·simp[Value.ownBlock]
 ·simp only[Value.ownBlock,ne_eq,Option.some.injEq]
  omega
theorem GrpW.step {w wr w2:World} {l:List ByteArray} {g:Nat} {v v':Value} {k:Nat} {o:Obj} (hz:g=w.heap.size) (h:GrpW w wr l g v k) (hk:k<l.length) (hok:grpOk l[k]=true)
 (hg:(wr.alloc o).grownBy w2 v.ownBlock) (hown:w2.ownsRow (w.heap.size+1) 5 1 v' (2*k+2) ((bytesL ((l.take k).map grpOr)).map u8V++[.int .u8 ((grpOr l[k]/256:Nat):Int),.int .u8 ((grpOr l[k]%256:Nat):Int)])):
 GrpW w w2 l g v' (k+1):=by
 have ha:Bel w (wr.alloc o):=h.bel.alloc o
 have hl2:=(Bel.refl wr).alloc o|>.heap h.hl
 refine⟨ha.grown hg (own_base (h.own.alloc o) (by omega)),grown_row hg (h.own.alloc o) (by omega) hl2,?_,?_⟩
 ·rw[bytes_take l k hk]
  exact hown
 ·intro x hx
  rw[List.take_succ_eq_append_getElem hk]at hx
  rcases List.mem_append.1 hx with hx|hx
  ·exact h.ok x hx
  ·rw[List.mem_singleton.1 hx];exact hok
def GroupsPost(o:Option (List Nat))(w:World)(e:Ending)(w':World):Prop:=match o with
 |some gs=>∃v,e=.returned (.tuple #[v,.bool true])∧w'.ownsRow w.heap.size 5 1 v (2*gs.length) ((bytesL gs).map u8V)∧Bel w w'
 |none=>e=.returned (.tuple #[.slice none 0 0,.bool false])∧Bel w w'
def colon:ByteArray:=⟨#[58]⟩
theorem groups_run(s:ByteArray)(w:World)(hw:Lay w)(hs:s.size<4294967281):
 Calls Tryz.prog 196 #[.string s] w (GroupsPost (groupsL s.data.toList) w):=by
 by_cases h0:s.data.toList=[]
 ·have hq:groupsL s.data.toList=some []:=by rw[h0];rfl
  have he:s.toList.isEmpty=true:=by rw[Lib.toList_data,h0];rfl
  rw[hq]
  clear hq h0
  go_enter Tryz.func196,Tryz.ntmps196
  go_wp2_with fail
  go_ret2
  exact⟨_,rfl,World.ownsRow_nil _ _ _ _,Bel.refl w⟩
 have he:s.toList.isEmpty=false:=by
  rw[Lib.toList_data]
  simpa using h0
 have HS:=(show Hid (∀W,Lay W→Calls Tryz.prog 127 #[.string s,.string colon] W fun e w'=>e=.returned (.slice (some ⟨W.heap.size,0,none⟩) (pieces s colon).length (pieces s colon).length)∧
  w'.heap[W.heap.size]?=some (.cells ((pieces s colon).map Value.string).toArray 9 (0,0))∧Bel W w')from fun W hW=>split_run s colon W hW hs (by decide))
 have HP:=hid (pieces_size s colon hs)
 have hlen:(pieces s colon).length≤4294967282:=by
  have:(pieces s colon).length=Lib.countB s colon+1:=Lib.splitB_all colon (by decide) 0 _ s rfl
  have:=Lib.countB_le colon (by decide) _ s (Nat.le_refl _)
  omega
 have hq:groupsL s.data.toList=if(pieces s colon).all grpOk=true then some ((pieces s colon).map grpOr)else none:=by
  unfold groupsL
  rw[if_neg h0,←pieces_data s 58,allL_eq]
  rfl
 rw[hq]
 generalize pieces s colon=l at HS HP hlen⊢
 generalize hoz:(if l.all grpOk=true then some (l.map grpOr)else none)=o
 have HO:=hid hoz
 have HW:=hid hw
 clear hq hw hoz h0
 obtain⟨i,hi,j2,j3,j4⟩:=info_parts uint8_info
 have HI:=hid (And.intro hi (And.intro j2 (And.intro j3 j4)))
 clear hi j2 j3 j4
 go_enter Tryz.func196,Tryz.ntmps196
 go_wp2_with fail
 refine(HS.out _ HW.out).mono ?_
 rintro e w1 ⟨rfl,hg1,hb1⟩
 have H0:=hid (show GrpW w w1 l w.heap.size (.slice none 0 0) 0 from⟨hb1,hg1,World.ownsRow_nil _ _ _ _,fun x hx=>(by simp at hx)⟩)
 obtain⟨g,hgz⟩:∃g,g=w.heap.size:=⟨_,rfl⟩
 rw[←hgz]at H0⊢
 have HG:=hid hgz
 clear hgz hg1 hb1
 go_wp2_with fail
 go_loopg [4,14] l.length (fun gg v4 v14 wr=>∃(k:Nat) (x4:Option Addr) (p4:Nat),v4=.slice x4 (2*k:Nat) p4∧v14=.int .i64 k∧k+gg=l.length∧Hid (GrpW w wr l g (.slice x4 (2*k) p4) k))
 case atStart=>exact⟨0,none,0,rfl,rfl,by omega,H0⟩
 case round=>
  obtain⟨k,x4,p4,rfl,rfl,hk,HF⟩:=hrel
  have Hk:=hid hk
  have hkn:k≤l.length:=by omega
  clear hk H0
  by_cases hlt:k<l.length
  ·have c0:=HF.out.cell k hlt
   have hmem:l[k]∈l:=List.getElem_mem hlt
   have hbad:grpOk l[k]=false→o=none:=fun f=>by
    rw[←HO.out]
    refine if_neg fun h=> ?_
    have:=List.all_eq_true.1 h _ hmem
    rw[f]at this;cases this
   have hst:=fun(W w2:World) (v':Value) (o:Obj) (h:GrpW w W l g (.slice x4 (2*k) p4) k) (ho:grpOk l[k]=true)=>GrpW.step (w2:=w2) (v':=v') (o:=o) HG.out h hlt ho
   have hsz:=HP.out _ hmem
   generalize hx:l[k]=x at c0 hbad hst hsz
   have HX:=hid hx
   have HBAD:=hid hbad
   have HST:=hid hst
   clear hx hbad hst hmem
   have hxs:x.size≤9223372036854775807:=by omega
   by_cases h1:x.data.toList=[]
   ·have d1:x.toList.isEmpty=true:=by rw[Lib.toList_data,h1];rfl
    have hn:o=none:=HBAD.out (by unfold grpOk grpL;rw[h1];rfl)
    clear h1
    subst hn
    go_wp2_with fail
    go_ret2
    exact⟨rfl,HF.out.bel⟩
   ·have d1:x.toList.isEmpty=false:=by rw[Lib.toList_data];simpa using h1
    by_cases h2:4<x.size
    ·have d2:decide (4<x.size)=true:=decide_eq_true h2
     have hn:o=none:=HBAD.out (by unfold grpOk grpL;rw[if_neg (by rw[←Lib.size_eq];omega)];rfl)
     clear h1
     subst hn
     go_wp2_with fail
     go_ret2
     exact⟨rfl,HF.out.bel⟩
    ·have d2:decide (4<x.size)=false:=decide_eq_false h2
     have HT:=(show Hid (∀W,Calls Tryz.prog 133 #[.string x,.string hexs] W fun e w'=>e=.returned (.string ⟨(Lib.trimS x.data.toList hexs.data.toList).toArray⟩)∧Bel W w')from fun W=>trim_run x hexs W hxs (by decide) (by decide))
     by_cases h3:Lib.trimS x.data.toList hexs.data.toList=[]
     ·have hall:=(trim_hexs _).1 h3
      have hgo:grpOk x=true:=by
       unfold grpOk grpL
       rw[if_pos ⟨Nat.pos_of_ne_zero (fun f=>h1 (List.length_eq_zero_iff.1 f)),by rw[←Lib.size_eq];omega,hall⟩]
       rfl
      obtain⟨g1,g4,-,gv⟩:=grpL_some hgo
      have hlt6:grpOr x<65536:=by
       rw[gv]
       have:=hexF_lt _ x.data.toList rfl (List.all_eq_true.1 hall)
       have h2:16^x.data.toList.length≤16^4:=Nat.pow_le_pow_right (by decide) (by rw[←Lib.size_eq];exact g4)
       unfold hexF at this
       omega
      have HU:=(show Hid (∀W,Calls Tryz.prog 251 #[.string x,.int .i64 16,.int .i64 16] W fun e w'=>e=.returned (.tuple #[.int .u64 (grpOr x:Nat),.nilIface])∧Bel W w')from fun W=>by rw[gv];exact parse16_run x g1 g4 (List.all_eq_true.1 hall) W)
      have HGO:=hid hgo
      rw[h3]at HT
      clear h1 h3 hall hgo gv
      generalize grpOr x=n at HU hlt6 HST
      have hwn:IntKind.u8.wrap (n:Int)=(n:Int)%256:=IntKind.wrap_u8' n
      go_wp2_with fail
      refine(HT.out _).mono ?_
      rintro e w2 ⟨rfl,hb2⟩
      go_wp2_with fail
      refine(HU.out _).mono ?_
      rintro e w3 ⟨rfl,hb3⟩
      have HF3:=hid ((HF.out.next hb2).next hb3)
      clear HF hb2 hb3 HT HU c0 hxs d1 d2
      go_wp2_with (first
       | (at_builtin;refine wpList_append_own _ rfl (.tmp 35) (.tmp 41) 48 rfl (w.heap.size+1) 5 i (.int .u8 0) 1 1 Tryz.underlying48 HI.out.1 HI.out.2.1 HI.out.2.2.1 HI.out.2.2.2 rfl (by decide) (.slice x4 (2*k) p4) (2*k) ((bytesL ((l.take k).map grpOr)).map u8V) rfl (HF3.out.own.alloc _) ⟨w3.heap.size,0,none⟩ 2 2 [.int .u8 ((n:Int)/256),.int .u8 ((n:Int)%256)] rfl rfl ?c1 ?c2 ?c3 ?c4 ?c5 ?_))
      case c1=>exact new2 _ _ _ rfl
      case c2=>intro u hu;simp at hu;rcases hu with rfl|rfl<;>rfl
      case c3=>unfold maxLen;omega
      case c4=>omega
      case c5=>have:=HF3.out.bel.size;rw[World.size_alloc];have:=(Array.getElem?_eq_some_iff.1 HF3.out.hl).1;have:=HG.out;omega
      intro v' w4 hown hg _
      obtain⟨x5,p5,rfl,-,-⟩:=row_shape hown
      have HN:=hid (HST.out _ _ _ _ HF3.out HGO.out hg (by simpa using hown))
      clear hown hg HF3
      go_wp2_with fail
      go_roundg (gk-1)
      case measure=>have:=Hk.out;omega
      case rel=>exact⟨k+1,x5,p5,by rw[(by omega:2*k+2=2*(k+1))],by go_num,by have:=Hk.out;omega,by rw[(by omega:2*(k+1)=2*k+2)];exact HN⟩
     ·have hn:o=none:=HBAD.out (by unfold grpOk grpL;rw[if_neg (fun f=>h3 ((trim_hexs _).2 f.2.2))];rfl)
      have d4:(⟨(Lib.trimS x.data.toList hexs.data.toList).toArray⟩:ByteArray).toList.isEmpty=false:=by
       rw[Lib.toList_data]
       simpa using h3
      generalize (⟨(Lib.trimS x.data.toList hexs.data.toList).toArray⟩:ByteArray)=tr at HT d4
      clear h1 h3
      subst hn
      go_wp2_with fail
      refine(HT.out _).mono ?_
      rintro e w2 ⟨rfl,hb2⟩
      go_wp2_with fail
      go_ret2
      exact⟨rfl,HF.out.bel.trans hb2⟩
  ·obtain rfl:k=l.length:=by omega
   have hgood:l.all grpOk=true:=List.all_eq_true.2 fun x hx=>HF.out.ok x (by rw[List.take_of_length_le (Nat.le_refl _)];exact hx)
   have ho:o=some (l.map grpOr):=by rw[←HO.out,if_pos hgood]
   clear hgood
   subst ho
   go_wp2_with fail
   go_ret2
   refine⟨_,rfl,?_,HF.out.bel⟩
   have:=own_base (base':=w.heap.size) HF.out.own (by omega)
   rw[List.take_of_length_le (Nat.le_refl _)]at this
   rw[List.length_map]
   exact this
end Go.Proofs.YtmlmkmhkmifnkaaGreatDoor.Ci