import Derived.Test.YtmlmkmhkmifnkaaGreatDoorM08
import Derived.Laws.OwnMore
set_option maxHeartbeats 16000000
set_option maxRecDepth 1000000
namespace Go.Proofs.YtmlmkmhkmifnkaaGreatDoor.Ma
open Go.RowKit
open Ci (Bel Lay)
def mapK(g:UInt8→UInt8)(l:List UInt8)(k:Nat):List UInt8:=(l.take k).map g++l.drop k
theorem mapK_zero(g:UInt8→UInt8)(l:List UInt8):mapK g l 0=l:=by simp[mapK]
theorem mapK_len(g:UInt8→UInt8)(l:List UInt8)(k:Nat):(mapK g l k).length=l.length:=by simp[mapK];omega
theorem mapK_at(g:UInt8→UInt8)(l:List UInt8)(k:Nat)(hk:k<l.length):(mapK g l k)[k]'(by rw[mapK_len];exact hk)=l[k]:=by
 unfold mapK
 rw[List.getElem_append_right (by simp;omega)]
 simp[Nat.min_eq_left (Nat.le_of_lt hk)]
theorem mapK_next(g:UInt8→UInt8)(l:List UInt8)(k:Nat)(hk:k<l.length):mapK g l (k+1)=(mapK g l k).set k (g l[k]):=by
 unfold mapK
 refine List.ext_getElem (by simp;omega) fun i h1 h2=> ?_
 rw[List.getElem_set]
 by_cases e:k=i
 ·subst e
  rw[if_pos rfl,List.getElem_append_left (by simp;omega)]
  simp
 ·rw[if_neg e]
  rw[List.getElem_append,List.getElem_append]
  simp only[List.length_map,List.length_take]
  split<;>split<;>first|omega|(simp;done)|(simp;congr 1;omega)
theorem mapK_all(g:UInt8→UInt8)(l:List UInt8):mapK g l l.length=l.map g:=by simp[mapK]
theorem low_val{x:UInt8}(h:65≤x.toNat∧x.toNat≤90):((lowB x).toNat:Int)=(x.toNat:Int)+32:=by
 unfold lowB
 rw[if_pos h,UInt8.toNat_add]
 have e:(32:UInt8).toNat=32:=rfl
 rw[e]
 omega
theorem rlower_run(s:ByteArray)(w:World)(hs:s.size<9223372036854775807):
 Calls Tryz.prog 38 #[.string s] w fun e w'=>e=.returned (.string ⟨(lowL s.data.toList).toArray⟩)∧Bel w w':=by
 have hcv:=Lib.run_convert_string_bytes (P:=Tryz.prog) w 9 48 5 s (u:=.string) Tryz.underlying9 Tryz.underlying48 Tryz.underlying5
 have hLn:s.data.toList.length=s.size:=by rw[Lib.size_eq]
 have H0:=hid (show TuI w (Lib.bytesWorld w 5 s) (mapK lowB s.data.toList 0) 0 from by
  refine⟨Ci.bel_bytes w s,List.replicate (grownCap w s.size 0 5-s.size) (.int .u8 0),?_⟩
  rw[Lib.bytesWorld_at_new,mapK_zero]
  have e:Lib.bytesCells w 5 s=((s.data.toList.map fun(b:UInt8)=>Value.int .u8 (b.toNat:Int))++List.replicate (grownCap w s.size 0 5-s.size) (Value.int .u8 0)).toArray:=by
   unfold Lib.bytesCells
   simp
  rw[e]
  simp)
 generalize grownCap w s.size 0 5=cap at hcv H0
 obtain⟨W1,hW1⟩:∃W1,W1=Lib.bytesWorld w 5 s:=⟨_,rfl⟩
 rw[←hW1]at hcv H0
 have HLn:=hid hLn
 clear hW1 hLn
 go_enter Tryz.func38,Tryz.ntmps38
 go_wp2_with fail
 go_loopg [4] s.size (fun gg v4 wr=>∃k:Nat,v4=.int .i64 k∧k+gg=s.size∧Hid (TuI w wr (mapK lowB s.data.toList k) 0))
 case atStart=>exact⟨0,rfl,by omega,H0⟩
 case round=>
  clear H0
  obtain⟨k,rfl,hk,H⟩:=hrel
  have hkn:k≤s.size:=by omega
  by_cases hlt:k<s.size
  ·have hlt':k<s.data.toList.length:=by rw[HLn.out];exact hlt
   have hkl:k<(mapK lowB s.data.toList k).length:=by rw[mapK_len];exact hlt'
   have c0:=H.out.cell hkl
   rw[mapK_at _ _ _ hlt']at c0
   have f0:=H.out.free hkl
   have HN:=hid (mapK_next lowB s.data.toList k hlt')
   have HS:=(show Hid (∀x,TuI w (wr.setCell ⟨w.heap.size,k,none⟩ (.int .u8 ((x:UInt8).toNat:Int))) ((mapK lowB s.data.toList k).set k x) 0)from fun x=>H.out.set k hkl x)
   have HA:=hid (show(mapK lowB s.data.toList k).set k s.data.toList[k]=mapK lowB s.data.toList k from by
    have e:=mapK_at lowB s.data.toList k hlt'
    rw[←e]
    exact List.set_getElem_self hkl)
   clear hkl
   generalize s.data.toList[k]=x at c0 HN HA
   by_cases h65:65≤x.toNat
   ·have b1:decide ((65:Int)≤(x.toNat:Int))=true:=decide_eq_true (by omega)
    by_cases h90:x.toNat≤90
    ·have b2:decide ((x.toNat:Int)≤90)=true:=decide_eq_true (by omega)
     have hv:=low_val ⟨h65,h90⟩
     have HS1:=(show Hid (TuI w (wr.setCell ⟨w.heap.size,k,none⟩ (.int .u8 ((x.toNat:Int)+32))) ((mapK lowB s.data.toList k).set k (lowB x)) 0)from by rw[←hv];exact HS.out _)
     have hw8:((x.toNat:Int)+32)%256=(x.toNat:Int)+32:=by omega
     clear hv
     go_wp2_with fail
     go_roundg (gk-1)
     case measure=>omega
     case rel=>exact⟨k+1,by go_num,by omega,hid (by rw[HN.out];exact HS1.out)⟩
    ·have b2:decide ((x.toNat:Int)≤90)=false:=decide_eq_false (by omega)
     have HE:=hid (show lowB x=x by unfold lowB;rw[if_neg (by omega)])
     go_wp2_with fail
     go_roundg (gk-1)
     case measure=>omega
     case rel=>exact⟨k+1,by go_num,by omega,hid (by rw[HN.out,HE.out,HA.out];exact H.out)⟩
   ·have b1:decide ((65:Int)≤(x.toNat:Int))=false:=decide_eq_false (by omega)
    have HE:=hid (show lowB x=x by unfold lowB;rw[if_neg (by omega)])
    go_wp2_with fail
    go_roundg (gk-1)
    case measure=>omega
    case rel=>exact⟨k+1,by go_num,by omega,hid (by rw[HN.out,HE.out,HA.out];exact H.out)⟩
  ·obtain rfl:k=s.size:=by omega
   have HF:=hid (show mapK lowB s.data.toList s.size=lowL s.data.toList by rw[←HLn.out];exact mapK_all _ _)
   have hcb:(convert 48 9 (.slice (some ⟨w.heap.size,0,none⟩) s.size cap)).run Tryz.prog wr=.ok (.string ⟨(lowL s.data.toList).toArray⟩) wr:=by
    have hl:(lowL s.data.toList).length=s.size:=by unfold lowL;rw[List.length_map,HLn.out]
    rw[←hl]
    refine run_convert_bytes_back wr 48 9 5 ⟨w.heap.size,0,none⟩ cap _ Tryz.underlying48 Tryz.underlying5 Tryz.underlying9 fun j hj=> ?_
    have H2:=H.out
    rw[HF.out]at H2
    rw[Ci.addr_add,Nat.zero_add]
    exact H2.cell hj
   go_wp2_with fail
   go_ret
   exact⟨rfl,H.out.bel⟩
def letB(b:UInt8):Bool:=(decide ((97:Int)≤(b.toNat:Int))&&decide ((b.toNat:Int)≤122))||(decide ((65:Int)≤(b.toNat:Int))&&decide ((b.toNat:Int)≤90))
def digB(b:UInt8):Bool:=decide ((48:Int)≤(b.toNat:Int))&&decide ((b.toNat:Int)≤57)
theorem letter_run(b:UInt8)(w:World):Calls Tryz.prog 165 #[.int .u8 (b.toNat:Int)] w fun e w'=>e=.returned (.bool (letB b))∧w'=w:=by
 have HX:=hid (show letB b=((decide ((97:Int)≤(b.toNat:Int))&&decide ((b.toNat:Int)≤122))||(decide ((65:Int)≤(b.toNat:Int))&&decide ((b.toNat:Int)≤90)))from rfl)
 generalize letB b=r at HX
 go_enter Tryz.func165,Tryz.ntmps165
 cases h1:decide ((97:Int)≤(b.toNat:Int))<;>cases h2:decide ((b.toNat:Int)≤122)<;>cases h3:decide ((65:Int)≤(b.toNat:Int))<;>cases h4:decide ((b.toNat:Int)≤90)<;>
 ·rw[h1,h2,h3,h4]at HX
  go_wp2_with fail
  go_ret
  exact⟨by rw[HX.out];rfl,rfl⟩
theorem digit_run(b:UInt8)(w:World):Calls Tryz.prog 166 #[.int .u8 (b.toNat:Int)] w fun e w'=>e=.returned (.bool (digB b))∧w'=w:=by
 have HX:=hid (show digB b=(decide ((48:Int)≤(b.toNat:Int))&&decide ((b.toNat:Int)≤57))from rfl)
 generalize digB b=r at HX
 go_enter Tryz.func166,Tryz.ntmps166
 cases h1:decide ((48:Int)≤(b.toNat:Int))<;>cases h2:decide ((b.toNat:Int)≤57)<;>
 ·rw[h1,h2]at HX
  go_wp2_with fail
  go_ret
  exact⟨by rw[HX.out];rfl,rfl⟩
end Go.Proofs.YtmlmkmhkmifnkaaGreatDoor.Ma
namespace Go.Proofs.YtmlmkmhkmifnkaaGreatDoor.Ma
open Go.RowKit
open Ci (Bel Lay splitL SpI)
theorem lg_two:∀b:UInt8,(letB b||digB b)=lgB b:=u8_forall (by decide)
def oddL:List UInt8:=[33,35,36,37,38,39,42,43,45,47,61,63,94,95,96,123,124,125,126]
theorem oddI(k:Nat)(_h:k<oddL.length)(p:k<(⟨#[33,35,36,37,38,39,42,43,45,47,61,63,94,95,96,123,124,125,126]⟩:ByteArray).size):(⟨#[33,35,36,37,38,39,42,43,45,47,61,63,94,95,96,123,124,125,126]⟩:ByteArray)[k]'p=oddL[k]:=rfl
theorem has_step{l:List UInt8}{b:UInt8}{k:Nat}(hk:k<l.length)(h:(l.take k).contains b=false):(l.take (k+1)).contains b=decide (l[k]=b):=by
 rw[List.contains_eq_mem]at h⊢
 have h:=of_decide_eq_false h
 by_cases e:l[k]=b
 ·rw[decide_eq_true e,decide_eq_true]
  rw[List.take_succ_eq_append_getElem hk,e];exact List.mem_append_right _ (List.mem_cons_self ..)
 ·rw[decide_eq_false e,decide_eq_false]
  rw[List.take_succ_eq_append_getElem hk]
  intro f
  rcases List.mem_append.1 f with f|f
  ·exact h f
  ·exact e (List.mem_singleton.1 f).symm
theorem has_more{l:List UInt8}{b:UInt8}{k:Nat}(h:(l.take k).contains b=true):l.contains b=true:=by
 rw[List.contains_eq_mem,decide_eq_true_iff]at*
 exact List.mem_of_mem_take h
theorem isAtom_run(b:UInt8)(w:World):Calls Tryz.prog 167 #[.int .u8 (b.toNat:Int)] w fun e w'=>e=.returned (.bool (patB b))∧w'=w:=by
 have HL:=(show Hid (∀W,Calls Tryz.prog 165 #[.int .u8 (b.toNat:Int)] W fun e w'=>e=.returned (.bool (letB b))∧w'=W)from fun W=>letter_run b W)
 have HD:=(show Hid (∀W,Calls Tryz.prog 166 #[.int .u8 (b.toNat:Int)] W fun e w'=>e=.returned (.bool (digB b))∧w'=W)from fun W=>digit_run b W)
 have HX:=hid (show patB b=((letB b||digB b)||oddL.contains b) by rw[lg_two];rfl)
 generalize letB b=l at HL HX
 generalize digB b=d at HD HX
 cases l with
 |true=>
  go_enter Tryz.func167,Tryz.ntmps167
  go_wp2_with (first|(go_at_call 165;refine(HL.out _).mono ?_;rintro e w1 ⟨rfl,h1⟩;have h1:=h1.symm;subst h1))
  go_ret
  exact⟨by rw[HX.out];rfl,rfl⟩
 |false=>
  cases d with
  |true=>
   go_enter Tryz.func167,Tryz.ntmps167
   go_wp2_with (first|(go_at_call 165;refine(HL.out _).mono ?_;rintro e w1 ⟨rfl,h1⟩;have h1:=h1.symm;subst h1)|(go_at_call 166;refine(HD.out _).mono ?_;rintro e w1 ⟨rfl,h1⟩;have h1:=h1.symm;subst h1))
   go_ret
   exact⟨by rw[HX.out];rfl,rfl⟩
  |false=>
   have HX:=hid (show patB b=oddL.contains b from HX.out)
   go_enter Tryz.func167,Tryz.ntmps167
   go_wp2_with (first|(go_at_call 165;refine(HL.out _).mono ?_;rintro e w1 ⟨rfl,h1⟩;have h1:=h1.symm;subst h1)|(go_at_call 166;refine(HD.out _).mono ?_;rintro e w1 ⟨rfl,h1⟩;have h1:=h1.symm;subst h1))
   go_loopg [4] 19 (fun gg v4 wr=>∃k:Nat,v4=.int .i64 k∧k+gg=19∧Hid (wr=w∧(oddL.take k).contains b=false))
   case atStart=>exact⟨0,rfl,by omega,hid ⟨rfl,rfl⟩⟩
   case round=>
    obtain⟨k,rfl,hk,H⟩:=hrel
    have HK:=hid hk
    have hk19:k≤19:=by omega
    clear hk
    by_cases hlt:k<19
    ·have hs:=has_step (show k<oddL.length from hlt) H.out.2
     have hi:=fun p=>oddI k hlt p
     have b0:decide ((k:Int)<19)=true:=decide_eq_true (by omega)
     by_cases he:oddL[k]'hlt=b
     ·have be:(((oddL[k]'hlt).toNat:Int)==(b.toNat:Int))=true:=by rw[he];simp
      have HY:=hid (show patB b=true by rw[HX.out];exact has_more (k:=k+1) (by rw[hs];exact decide_eq_true he))
      clear he hs
      go_wp2_with fail
      go_ret
      exact⟨by rw[HY.out];rfl,H.out.1⟩
     ·have be:(((oddL[k]'hlt).toNat:Int)==(b.toNat:Int))=false:=by
       rw[beq_eq_false_iff_ne];intro g;exact he (UInt8.toNat_inj.1 (by omega))
      have HN:=hid (show(oddL.take (k+1)).contains b=false by rw[hs];exact decide_eq_false he)
      clear he hs
      go_wp2_with fail
      go_roundg (gk-1)
      case measure=>have:=HK.out;omega
      case rel=>exact⟨k+1,by go_num,by have:=HK.out;omega,hid ⟨H.out.1,HN.out⟩⟩
    ·obtain rfl:k=19:=by omega
     have HY:=hid (show patB b=false by rw[HX.out];exact H.out.2)
     go_wp2_with fail
     go_ret
     exact⟨by rw[HY.out];rfl,H.out.1⟩
theorem label_run(s:ByteArray)(w:World)(hs:s.size<9223372036854775807):Calls Tryz.prog 99 #[.string s] w fun e w'=>e=.returned (.bool (lblB s))∧w'=w:=by
 have hl:s.data.toList.length=s.size:=by rw[Lib.size_eq]
 have HL:=hid hl
 clear hl
 have HLe:=(show Hid (∀(b:UInt8) W,Calls Tryz.prog 165 #[.int .u8 (b.toNat:Int)] W fun e w'=>e=.returned (.bool (letB b))∧w'=W)from fun b W=>letter_run b W)
 have HDi:=(show Hid (∀(b:UInt8) W,Calls Tryz.prog 166 #[.int .u8 (b.toNat:Int)] W fun e w'=>e=.returned (.bool (digB b))∧w'=W)from fun b W=>digit_run b W)
 obtain⟨r,hr⟩:∃r,r=lblB s:=⟨_,rfl⟩
 have HR:=hid hr
 rw[←hr]
 clear hr
 go_enter Tryz.func99,Tryz.ntmps99
 go_wp2_with fail
 go_loopg [3] s.size (fun gg v3 wr=>∃k:Nat,v3=.int .i64 k∧k+gg=s.size∧Hid (wr=w∧(s.data.toList.take k).all ldhB=true))
 case atStart=>exact⟨0,rfl,by omega,hid ⟨rfl,by simp⟩⟩
 case round=>
  obtain⟨k,rfl,hk,H⟩:=hrel
  have HK:=hid hk
  have hkn:k≤s.size:=by omega
  clear hk
  by_cases hlt:k<s.size
  ·have hlt':k<s.data.toList.length:=by rw[HL.out];exact hlt
   have HC:=hid (show s.data.toList[k]'hlt'=s[k]from rfl)
   have HN:=hid (all_take ldhB s.data.toList k hlt' H.out.2)
   have HA:=hid (fun(h:ldhB (s.data.toList[k]'hlt')=false)=>all_false ldhB s.data.toList k hlt' h)
   have HLd:=hid (show ldhB (s.data.toList[k]'hlt')=((letB s[k]||digB s[k])||s[k]==45) by rw[lg_two];rfl)
   have HL1:=(show Hid (∀W,Calls Tryz.prog 165 #[.int .u8 ((s[k]'hlt).toNat:Int)] W fun e w'=>e=.returned (.bool (letB s[k]))∧w'=W)from fun W=>HLe.out _ W)
   have HD1:=(show Hid (∀W,Calls Tryz.prog 166 #[.int .u8 ((s[k]'hlt).toNat:Int)] W fun e w'=>e=.returned (.bool (digB s[k]))∧w'=W)from fun W=>HDi.out _ W)
   cases h1:letB s[k]with
   |true=>
    rw[h1]at HL1 HLd
    have HT:=hid (show(s.data.toList.take (k+1)).all ldhB=true by rw[HN.out,HLd.out];rfl)
    clear h1
    go_wp2_with (first|(go_at_call 165;refine(HL1.out _).mono ?_;rintro e w1 ⟨rfl,rfl⟩))
    go_roundg (gk-1)
    case measure=>have:=HK.out;omega
    case rel=>exact⟨k+1,by go_num,by have:=HK.out;omega,hid ⟨H.out.1,HT.out⟩⟩
   |false=>
    rw[h1]at HL1 HLd
    clear h1
    cases h2:digB s[k]with
    |true=>
     rw[h2]at HD1 HLd
     have HT:=hid (show(s.data.toList.take (k+1)).all ldhB=true by rw[HN.out,HLd.out];rfl)
     clear h2
     go_wp2_with (first|(go_at_call 165;refine(HL1.out _).mono ?_;rintro e w1 ⟨rfl,rfl⟩)|(go_at_call 166;refine(HD1.out _).mono ?_;rintro e w1 ⟨rfl,rfl⟩))
     go_roundg (gk-1)
     case measure=>have:=HK.out;omega
     case rel=>exact⟨k+1,by go_num,by have:=HK.out;omega,hid ⟨H.out.1,HT.out⟩⟩
    |false=>
     rw[h2]at HD1 HLd
     clear h2
     by_cases h3:s[k]=45
     ·have b3:(((s[k]'hlt).toNat:Int)==45)=true:=byte_eq (n:=45) (by decide) h3
      have HT:=hid (show(s.data.toList.take (k+1)).all ldhB=true by rw[HN.out,HLd.out,h3];rfl)
      clear h3
      go_wp2_with (first|(go_at_call 165;refine(HL1.out _).mono ?_;rintro e w1 ⟨rfl,rfl⟩)|(go_at_call 166;refine(HD1.out _).mono ?_;rintro e w1 ⟨rfl,rfl⟩))
      go_roundg (gk-1)
      case measure=>have:=HK.out;omega
      case rel=>exact⟨k+1,by go_num,by have:=HK.out;omega,hid ⟨H.out.1,HT.out⟩⟩
     ·have b3:(((s[k]'hlt).toNat:Int)==45)=false:=byte_ne (n:=45) (by decide) h3
      have HY:=hid (show r=false by
       have h4:s.data.toList.all ldhB=false:=HA.out (by rw[HLd.out];simpa using h3)
       rw[HR.out];unfold lblB lblQ;rw[h4];simp)
      clear h3
      go_wp2_with (first|(go_at_call 165;refine(HL1.out _).mono ?_;rintro e w1 ⟨rfl,rfl⟩)|(go_at_call 166;refine(HD1.out _).mono ?_;rintro e w1 ⟨rfl,rfl⟩))
      go_ret
      exact⟨by rw[HY.out];rfl,H.out.1⟩
  ·obtain rfl:k=s.size:=by omega
   have HAll:=hid (show s.data.toList.all ldhB=true by have:=H.out.2;rwa[List.take_of_length_le (by rw[HL.out];exact Nat.le_refl _)]at this)
   by_cases h0:s.size=0
   ·have b1:decide ((1:Int)≤(s.size:Int))=false:=decide_eq_false (by omega)
    have HY:=hid (show r=false by
     have h4:s.data.toList.isEmpty=true:=by rw[List.isEmpty_iff_length_eq_zero,HL.out];exact h0
     rw[HR.out];unfold lblB lblQ;rw[h4];rfl)
    clear h0
    go_wp2_with fail
    go_ret
    exact⟨by rw[HY.out];rfl,H.out.1⟩
   ·have hpos:0<s.size:=by omega
    have hlm:s.size-1<s.size:=by omega
    have hemp:s.toList.isEmpty=false:=by
     rw[emp_iff,←Bool.not_eq_true,List.isEmpty_iff_length_eq_zero,HL.out];exact h0
    have HP:=hid (lbl_parts hemp hpos (s.size-1) hlm (by omega))
    have b1:decide ((1:Int)≤(s.size:Int))=true:=decide_eq_true (by omega)
    have hix:(1:Int)≤(s.size:Int)∧(s.size:Int)-1<(s.size:Int):=⟨by omega,by omega⟩
    clear h0 hemp
    by_cases h63:s.size≤63
    ·have b2:decide ((s.size:Int)≤63)=true:=decide_eq_true (by omega)
     have HD:=hid (show decide (s.size≤63)=true from decide_eq_true h63)
     by_cases h1:s[0]=45
     ·have c1:((s[0]'hpos).toNat:Int)=45:=by rw[h1];rfl
      have HY:=hid (show r=false by rw[HR.out,HP.out,HAll.out,HD.out,h1];rfl)
      clear h1 h63
      go_wp2_with fail
      go_ret
      exact⟨by rw[HY.out];rfl,H.out.1⟩
     ·have c1:¬((s[0]'hpos).toNat:Int)=45:=by have:=byte_ne (n:=45) (by decide) h1;rwa[beq_eq_false_iff_ne]at this
      have c1':(((s[0]'hpos).toNat:Int) !=45)=true:=by simpa using c1
      have HE1:=hid (show(s[0] !=45)=true by simpa using h1)
      by_cases h2:s[s.size-1]=45
      ·have c2:((s[s.size-1]'hlm).toNat:Int)=45:=by rw[h2];rfl
       have HY:=hid (show r=false by rw[HR.out,HP.out,HAll.out,HD.out,HE1.out,h2];rfl)
       clear h1 h2 h63
       go_wp2_with fail
       go_ret
       exact⟨by rw[HY.out];rfl,H.out.1⟩
      ·have c2:¬((s[s.size-1]'hlm).toNat:Int)=45:=by have:=byte_ne (n:=45) (by decide) h2;rwa[beq_eq_false_iff_ne]at this
       have c2':(((s[s.size-1]'hlm).toNat:Int) !=45)=true:=by simpa using c2
       have HE2:=hid (show(s[s.size-1] !=45)=true by simpa using h2)
       have HY:=hid (show r=true by rw[HR.out,HP.out,HAll.out,HD.out,HE1.out,HE2.out];rfl)
       clear h1 h2 h63
       go_wp2_with fail
       go_ret
       exact⟨by rw[HY.out];rfl,H.out.1⟩
    ·have b2:decide ((s.size:Int)≤63)=false:=decide_eq_false (by omega)
     have HY:=hid (show r=false by rw[HR.out,HP.out,decide_eq_false h63];rfl)
     clear h63
     go_wp2_with fail
     go_ret
     exact⟨by rw[HY.out];rfl,H.out.1⟩
end Go.Proofs.YtmlmkmhkmifnkaaGreatDoor.Ma
namespace Go.Proofs.YtmlmkmhkmifnkaaGreatDoor.Ma
open Go.RowKit
open Ci (Bel Lay splitL SpI row_shape)
theorem _root_.Go.Proofs.YtmlmkmhkmifnkaaGreatDoor.Ci.SpI.named{l:List UInt8}{k f:Nat}{ps:List ByteArray}(h:SpI 46 l k f ps)(hps:ps.all lblB=true):namedQ l=(splitL 46 (l.drop f)).all lblQ:=by
 unfold namedQ
 rw[←h.eq,List.all_append,List.all_map]
 have e:(ps.all (lblQ∘fun x=>x.data.toList))=true:=hps
 rw[e,Bool.true_and]
theorem _root_.Go.Proofs.YtmlmkmhkmifnkaaGreatDoor.Ci.SpI.piece{l:List UInt8}{k f:Nat}{ps:List ByteArray}(h:SpI 46 l k f ps)(hk:k<l.length)(hn:l[k]=46):splitL 46 (l.drop f)=(l.drop f).take (k-f)::splitL 46 (l.drop (k+1)):=by
 have hle:=h.le
 have e:l.drop f=(l.drop f).take (k-f)++46::l.drop (k+1):=by
  rw[←hn]
  have h1:l[k]::l.drop (k+1)=l.drop k:=(List.drop_eq_getElem_cons hk).symm
  rw[h1]
  have h2:l.drop k=(l.drop f).drop (k-f):=by rw[List.drop_drop];congr 1;omega
  rw[h2,List.take_append_drop]
 have e2:=Ci.splitL_app 46 ((l.drop f).take (k-f)) (l.drop (k+1)) h.not
 rw[←e]at e2
 exact e2
theorem _root_.Go.Proofs.YtmlmkmhkmifnkaaGreatDoor.Ci.SpI.last{l:List UInt8}{f:Nat}{ps:List ByteArray}(h:SpI 46 l l.length f ps):splitL 46 (l.drop f)=[l.drop f]:=by
 have:=h.not
 rw[List.take_of_length_le (by rw[List.length_drop];exact Nat.le_refl _)]at this
 exact Ci.splitL_none 46 _ this
theorem rname_run(s:ByteArray)(w:World)(hs:s.size<4611686018427387904):Calls Tryz.prog 41 #[.string s] w fun e w'=>e=.returned (.bool (namedQ s.data.toList))∧w'=w:=by
 have hl:s.data.toList.length=s.size:=by rw[Lib.size_eq]
 have HL:=hid hl
 clear hl
 have HLb:=(show Hid (∀(x:ByteArray) W,x.size<9223372036854775807→Calls Tryz.prog 99 #[.string x] W fun e w'=>e=.returned (.bool (lblB x))∧w'=W)from fun x W hx=>label_run x W hx)
 obtain⟨r,hr⟩:∃r,r=namedQ s.data.toList:=⟨_,rfl⟩
 have HR:=hid hr
 rw[←hr]
 clear hr
 go_enter Tryz.func41,Tryz.ntmps41
 go_wp2_with fail
 go_loopg [3,4] (s.size+1) (fun gg v3 v4 wr=>∃f k:Nat,v3=.int .i64 f∧v4=.int .i64 k∧k+gg=s.size+1∧f≤k∧Hid (wr=w∧(k≤s.size→∃ps,SpI 46 s.data.toList k f ps∧ps.all lblB=true)∧(s.size<k→namedQ s.data.toList=true)))
 case atStart=>exact⟨0,0,rfl,rfl,by omega,Nat.le_refl _,hid ⟨rfl,fun _=>⟨[],⟨Nat.le_refl _,Nat.le_refl _,rfl,by simp⟩,rfl⟩,fun h=>absurd h (Nat.not_lt_zero _)⟩⟩
 case round=>
  obtain⟨f,k,rfl,rfl,hk,hfk,H⟩:=hrel
  have HK:=hid hk
  have hkn:k≤s.size+1:=by omega
  clear hk
  by_cases hle:k≤s.size
  ·obtain⟨ps,hsp,hps⟩:=H.out.2.1 hle
   have HS:=hid hsp
   have HP:=hid hps
   clear hsp hps
   by_cases hlt:k<s.size
   ·have hlt':k<s.data.toList.length:=by rw[HL.out];exact hlt
    have HC:=hid (show s.data.toList[k]'hlt'=s[k]from rfl)
    by_cases hc:s[k]=46
    ·have bc:((s[k]'hlt).toNat:Int)=46:=by rw[hc];rfl
     have HX:=hid (HS.out.piece hlt' (HC.out.trans hc))
     have HCut:=hid (HS.out.cut hlt' (HC.out.trans hc) (s.extract f k) (Lib.extract_data s f k))
     have HLb1:=(show Hid (∀W,Calls Tryz.prog 99 #[.string (s.extract f k)] W fun e w'=>e=.returned (.bool (lblB (s.extract f k)))∧w'=W)from fun W=>HLb.out _ W (by rw[ByteArray.size_extract];omega))
     have HE:=hid (show lblB (s.extract f k)=lblQ ((s.data.toList.drop f).take (k-f)) by unfold lblB;rw[Lib.extract_data])
     clear hc
     cases hb:lblB (s.extract f k)with
     |true=>
      rw[hb]at HLb1
      have HB:=hid hb
      clear hb
      go_wp2_with (first|(go_at_call 99;refine(HLb1.out _).mono ?_;rintro e w1 ⟨rfl,rfl⟩))
      go_roundg (gk-1)
      case measure=>have:=HK.out;omega
      case rel=>exact⟨k+1,k+1,by go_num,by go_num,by have:=HK.out;omega,Nat.le_refl _,hid ⟨H.out.1,fun _=>⟨_,HCut.out,by rw[List.all_append,HP.out];show(true&&(lblB _&&true))=true;rw[HB.out];rfl⟩,fun h=>by omega⟩⟩
     |false=>
      rw[hb]at HLb1
      have HY:=hid (show r=false by rw[HR.out,HS.out.named HP.out,HX.out,List.all_cons,←HE.out,hb];rfl)
      clear hb
      go_wp2_with (first|(go_at_call 99;refine(HLb1.out _).mono ?_;rintro e w1 ⟨rfl,rfl⟩))
      go_ret
      exact⟨by rw[HY.out];rfl,H.out.1⟩
    ·have bc:¬((s[k]'hlt).toNat:Int)=46:=by have:=byte_ne (n:=46) (by decide) hc;rwa[beq_eq_false_iff_ne]at this
     have HM:=hid (HS.out.more hlt' (fun g=>hc (HC.out.symm.trans g)))
     clear hc
     go_wp2_with fail
     go_roundg (gk-1)
     case measure=>have:=HK.out;omega
     case rel=>exact⟨f,k+1,rfl,by go_num,by have:=HK.out;omega,by omega,hid ⟨H.out.1,fun _=>⟨_,HM.out,HP.out⟩,fun h=>by omega⟩⟩
   ·obtain rfl:k=s.size:=by omega
    have HX:=hid ((show SpI 46 s.data.toList s.data.toList.length f ps by rw[HL.out];exact HS.out).last)
    have HLb1:=(show Hid (∀W,Calls Tryz.prog 99 #[.string (s.extract f s.size)] W fun e w'=>e=.returned (.bool (lblB (s.extract f s.size)))∧w'=W)from fun W=>HLb.out _ W (by rw[ByteArray.size_extract];omega))
    have HE:=hid (show lblB (s.extract f s.size)=lblQ (s.data.toList.drop f) by unfold lblB;rw[Lib.extract_to_end])
    cases hb:lblB (s.extract f s.size)with
    |true=>
     rw[hb]at HLb1
     have HY:=hid (show namedQ s.data.toList=true by rw[HS.out.named HP.out,HX.out,List.all_cons,←HE.out,hb];rfl)
     clear hb
     go_wp2_with (first|(go_at_call 99;refine(HLb1.out _).mono ?_;rintro e w1 ⟨rfl,rfl⟩))
     go_roundg (gk-1)
     case measure=>have:=HK.out;omega
     case rel=>exact⟨s.size+1,s.size+1,by go_num,by go_num,by have:=HK.out;omega,Nat.le_refl _,hid ⟨H.out.1,fun h=>by omega,fun _=>HY.out⟩⟩
    |false=>
     rw[hb]at HLb1
     have HY:=hid (show r=false by rw[HR.out,HS.out.named HP.out,HX.out,List.all_cons,←HE.out,hb];rfl)
     clear hb
     go_wp2_with (first|(go_at_call 99;refine(HLb1.out _).mono ?_;rintro e w1 ⟨rfl,rfl⟩))
     go_ret
     exact⟨by rw[HY.out];rfl,H.out.1⟩
  ·obtain rfl:k=s.size+1:=by omega
   have HY:=hid (show r=true by rw[HR.out];exact H.out.2.2 (by omega))
   have b1:decide ((s.size:Int)+1≤(s.size:Int))=false:=decide_eq_false (by omega)
   go_wp2_with fail
   go_ret
   exact⟨by rw[HY.out];rfl,H.out.1⟩
structure DoI (l:List UInt8) (k f:Nat):Prop where
 sp:∃ps:List ByteArray,SpI 46 l k f ps∧ps.all patP=true
 cur:((l.drop f).take (k-f)).all patB=true
 beg:f=0∨(f<l.length∧∃h:f-1<l.length,0<f∧l[f-1]=46)
theorem _root_.Go.Proofs.YtmlmkmhkmifnkaaGreatDoor.Ci.SpI.dotted{l:List UInt8}{k f:Nat}{ps:List ByteArray}(h:SpI 46 l k f ps)(hps:ps.all patP=true):dottedQ l=(splitL 46 (l.drop f)).all fun a=> !a.isEmpty&&a.all patB:=by
 unfold dottedQ
 rw[←h.eq,List.all_append,List.all_map]
 have e:(ps.all ((fun a:List UInt8=> !a.isEmpty&&a.all patB)∘fun x=>x.data.toList))=true:=hps
 rw[e,Bool.true_and]
theorem pat_dot:patB 46=false:=by decide
theorem take_more{l:List UInt8}{k f:Nat}(hf:f≤k)(hk:k<l.length):(l.drop f).take (k+1-f)=(l.drop f).take (k-f)++[l[k]]:=by
 rw[show k+1-f=(k-f)+1 by omega,List.take_succ_eq_append_getElem (by rw[List.length_drop];omega),List.getElem_drop]
 congr 2
 congr 1;omega
theorem DoI.more{l:List UInt8}{k f:Nat}(h:DoI l k f)(hk:k<l.length)(hp:patB l[k]=true):DoI l (k+1) f:=by
 obtain⟨ps,h1,h2⟩:=h.sp
 have hn:l[k]≠46:=fun e=>by rw[e,pat_dot]at hp;cases hp
 refine⟨⟨ps,h1.more hk hn,h2⟩,?_,h.beg⟩
 rw[take_more h1.le hk,List.all_append,h.cur]
 simp[hp]
theorem some_piece(f:List UInt8→Bool){l:List UInt8}{k:Nat}(hk:k<l.length)(hn:l[k]≠46)(hf:∀a,l[k]∈a→f a=false):(splitL 46 l).all f=false:=by
 have hm:∃a∈splitL 46 l,l[k]∈a:=by
  have key:∀(l:List UInt8) (b:UInt8),b∈l→b≠46→∃a∈splitL 46 l,b∈a:=by
   intro l
   induction l with
   |nil=>intro b hb;cases hb
   |cons c l ih=>
    intro b hb hn
    unfold Ci.splitL
    by_cases hc:c=46
    ·rw[if_pos hc]
     rcases List.mem_cons.1 hb with rfl|hb
     ·exact absurd hc hn
     ·obtain⟨a,h1,h2⟩:=ih b hb hn
      exact⟨a,List.mem_cons_of_mem _ h1,h2⟩
    ·rw[if_neg hc]
     cases hs:splitL 46 l with
     |nil=>exact absurd hs (Ci.splitL_ne 46 l)
     |cons p ps=>
      rcases List.mem_cons.1 hb with rfl|hb
      ·exact⟨b::p,List.mem_cons_self ..,List.mem_cons_self ..⟩
      ·obtain⟨a,h1,h2⟩:=ih b hb hn
       rw[hs]at h1
       rcases List.mem_cons.1 h1 with rfl|h1
       ·exact⟨c::a,List.mem_cons_self ..,List.mem_cons_of_mem _ h2⟩
       ·exact⟨a,List.mem_cons_of_mem _ h1,h2⟩
  exact key l _ (List.getElem_mem hk) hn
 obtain⟨a,h1,h2⟩:=hm
 rw[List.all_eq_false]
 exact⟨a,h1,by rw[hf a h2];simp⟩
theorem DoI.bad{l:List UInt8}{k f:Nat}(_h:DoI l k f)(hk:k<l.length)(hn:l[k]≠46)(hp:patB l[k]=false):dottedQ l=false:=by
 unfold dottedQ
 refine some_piece _ hk hn fun a ha=> ?_
 have:a.all patB=false:=by rw[List.all_eq_false];exact⟨l[k],ha,by rw[hp];simp⟩
 rw[this,Bool.and_false]
theorem DoI.dot{l:List UInt8}{k f:Nat}(h:DoI l k f)(hk:k<l.length)(hn:l[k]=46):
 ((0<k∧k+1<l.length∧∀h:k-1<l.length,l[k-1]≠46)→DoI l (k+1) (k+1))∧(¬(0<k∧k+1<l.length∧∀h:k-1<l.length,l[k-1]≠46)→dottedQ l=false):=by
 obtain⟨ps,h1,h2⟩:=h.sp
 have hle:=h1.le
 have hd:=h1.dotted h2
 rw[h1.piece hk hn,List.all_cons]at hd
 have hne:(((l.drop f).take (k-f)).isEmpty=true)↔f=k:=by
  rw[List.isEmpty_iff_length_eq_zero,List.length_take,List.length_drop];omega
 constructor
 ·rintro⟨h0,hl,hp⟩
  have hfk:f≠k:=by
   rintro rfl
   rcases h.beg with rfl|⟨-,h3,h4,h5⟩
   ·omega
   ·exact hp h3 h5
  refine⟨⟨ps++[⟨((l.drop f).take (k-f)).toArray⟩],h1.cut hk hn _ rfl,?_⟩,by simp,.inr ⟨hl,by simpa using hk,by omega,by simpa using hn⟩⟩
  rw[List.all_append,h2]
  show(true&&(patP _&&true))=true
  have:patP ⟨((l.drop f).take (k-f)).toArray⟩=(!((l.drop f).take (k-f)).isEmpty&&((l.drop f).take (k-f)).all patB):=rfl
  rw[this,h.cur]
  cases he:((l.drop f).take (k-f)).isEmpty with
  |true=>exact absurd (hne.1 he) hfk
  |false=>rfl
 ·intro hno
  rw[hd]
  by_cases h0:f=k
  ·rw[hne.2 h0];rfl
  ·have hk0:0<k:=by omega
   have hprev:∀h:k-1<l.length,l[k-1]≠46:=by
    intro hh e
    refine h1.not ?_
    have:(46:UInt8)=((l.drop f).take (k-f))[k-1-f]'(by rw[List.length_take,List.length_drop];omega):=by
     rw[List.getElem_take,List.getElem_drop,←e]
     congr 1;omega
    rw[this]
    exact List.getElem_mem _
   have hl:¬k+1<l.length:=fun hl=>hno ⟨hk0,hl,hprev⟩
   have e0:l.drop (k+1)=[]:=List.drop_eq_nil_of_le (by omega)
   rw[e0]
   simp[Ci.splitL]
theorem DoI.done{l:List UInt8}{f:Nat}(h:DoI l l.length f):dottedQ l=decide (0<l.length):=by
 obtain⟨ps,h1,h2⟩:=h.sp
 have hd:=h1.dotted h2
 rw[h1.last]at hd
 have hc:=h.cur
 rw[List.take_of_length_le (by rw[List.length_drop];exact Nat.le_refl _)]at hc
 rw[hd,List.all_cons,hc,List.all_nil]
 by_cases h0:0<l.length
 ·have hfl:f<l.length:=by
   rcases h.beg with rfl|⟨h3,-⟩
   ·exact h0
   ·exact h3
  have:(l.drop f).isEmpty=false:=by rw[←Bool.not_eq_true,List.isEmpty_iff_length_eq_zero,List.length_drop];omega
  rw[this,decide_eq_true h0];rfl
 ·have:(l.drop f).isEmpty=true:=by rw[List.isEmpty_iff_length_eq_zero,List.length_drop];omega
  rw[this,decide_eq_false h0];rfl
theorem rdotted_run(s:ByteArray)(w:World)(hs:s.size<4611686018427387904):Calls Tryz.prog 100 #[.string s] w fun e w'=>e=.returned (.bool (dottedQ s.data.toList))∧w'=w:=by
 have hl:s.data.toList.length=s.size:=by rw[Lib.size_eq]
 have HL:=hid hl
 clear hl
 have HAt:=(show Hid (∀(b:UInt8) W,Calls Tryz.prog 167 #[.int .u8 (b.toNat:Int)] W fun e w'=>e=.returned (.bool (patB b))∧w'=W)from fun b W=>isAtom_run b W)
 obtain⟨r,hr⟩:∃r,r=dottedQ s.data.toList:=⟨_,rfl⟩
 have HR:=hid hr
 rw[←hr]
 clear hr
 go_enter Tryz.func100,Tryz.ntmps100
 go_wp2_with fail
 go_loopg [3] s.size (fun gg v3 wr=>∃k:Nat,v3=.int .i64 k∧k+gg=s.size∧Hid (wr=w∧∃f,DoI s.data.toList k f))
 case atStart=>exact⟨0,rfl,by omega,hid ⟨rfl,0,⟨[],⟨Nat.le_refl _,Nat.le_refl _,rfl,by simp⟩,rfl⟩,by simp,.inl rfl⟩⟩
 case round=>
  obtain⟨k,rfl,hk,H⟩:=hrel
  have HK:=hid hk
  have hkn:k≤s.size:=by omega
  clear hk
  by_cases hlt:k<s.size
  ·have hlt':k<s.data.toList.length:=by rw[HL.out];exact hlt
   have HC:=hid (show s.data.toList[k]'hlt'=s[k]from rfl)
   have HA1:=(show Hid (∀W,Calls Tryz.prog 167 #[.int .u8 ((s[k]'hlt).toNat:Int)] W fun e w'=>e=.returned (.bool (patB s[k]))∧w'=W)from fun W=>HAt.out _ W)
   by_cases hc:s[k]=46
   ·have bc:(((s[k]'hlt).toNat:Int)==46)=true:=byte_eq (n:=46) (by decide) hc
    have HD:=hid (fun f (h:DoI s.data.toList k f)=>h.dot hlt' (HC.out.trans hc))
    clear hc
    by_cases h0:0<k
    ·have b0:decide ((0:Int)<(k:Int))=true:=decide_eq_true (by omega)
     by_cases h1:k+1<s.size
     ·have b1:decide ((k:Int)+1<(s.size:Int))=true:=decide_eq_true (by omega)
      have hk1:k-1<s.size:=by omega
      have hix:(1:Int)≤(k:Int)∧(k:Int)-1<(s.size:Int):=⟨by omega,by omega⟩
      have HC1:=hid (show s.data.toList[k-1]'(by rw[HL.out];exact hk1)=s[k-1]from rfl)
      by_cases h2:s[k-1]=46
      ·have c2:((s[k-1]'hk1).toNat:Int)=46:=by rw[h2];rfl
       have HY:=hid (show r=false by
        obtain⟨f,hf⟩:=H.out.2
        rw[HR.out];exact(HD.out f hf).2 fun⟨_,_,h⟩=>h (by rw[HL.out];exact hk1) (HC1.out.trans h2))
       clear h2
       go_wp2_with (first|(go_at_call 167;refine(HA1.out _).mono ?_;rintro e w1 ⟨rfl,rfl⟩))
       go_ret
       exact⟨by rw[HY.out];rfl,H.out.1⟩
      ·have c2:¬((s[k-1]'hk1).toNat:Int)=46:=by have:=byte_ne (n:=46) (by decide) h2;rwa[beq_eq_false_iff_ne]at this
       have c2':(((s[k-1]'hk1).toNat:Int) !=46)=true:=by simpa using c2
       have HN:=hid (show∃f,DoI s.data.toList (k+1) f by
        obtain⟨f,hf⟩:=H.out.2
        exact⟨k+1,(HD.out f hf).1 ⟨h0,by rw[HL.out];exact h1,fun h e=>h2 (HC1.out.symm.trans e)⟩⟩)
       clear h2
       go_wp2_with (first|(go_at_call 167;refine(HA1.out _).mono ?_;rintro e w1 ⟨rfl,rfl⟩))
       go_roundg (gk-1)
       case measure=>have:=HK.out;omega
       case rel=>exact⟨k+1,by go_num,by have:=HK.out;omega,hid ⟨H.out.1,HN.out⟩⟩
     ·have b1:decide ((k:Int)+1<(s.size:Int))=false:=decide_eq_false (by omega)
      have HY:=hid (show r=false by
       obtain⟨f,hf⟩:=H.out.2
       rw[HR.out];exact(HD.out f hf).2 fun⟨_,h,_⟩=>h1 (by rw[←HL.out];exact h))
      go_wp2_with (first|(go_at_call 167;refine(HA1.out _).mono ?_;rintro e w1 ⟨rfl,rfl⟩))
      go_ret
      exact⟨by rw[HY.out];rfl,H.out.1⟩
    ·obtain rfl:k=0:=by omega
     have HY:=hid (show r=false by
      obtain⟨f,hf⟩:=H.out.2
      rw[HR.out];exact(HD.out f hf).2 fun⟨h,_,_⟩=>h0 h)
     go_wp2_with (first|(go_at_call 167;refine(HA1.out _).mono ?_;rintro e w1 ⟨rfl,rfl⟩))
     go_ret
     exact⟨by rw[HY.out];rfl,H.out.1⟩
   ·have bc:(((s[k]'hlt).toNat:Int)==46)=false:=byte_ne (n:=46) (by decide) hc
    cases hp:patB s[k]with
    |true=>
     rw[hp]at HA1
     have HN:=hid (show∃f,DoI s.data.toList (k+1) f by
      obtain⟨f,hf⟩:=H.out.2
      exact⟨f,hf.more hlt' (by rw[HC.out];exact hp)⟩)
     clear hp hc
     go_wp2_with (first|(go_at_call 167;refine(HA1.out _).mono ?_;rintro e w1 ⟨rfl,rfl⟩))
     go_roundg (gk-1)
     case measure=>have:=HK.out;omega
     case rel=>exact⟨k+1,by go_num,by have:=HK.out;omega,hid ⟨H.out.1,HN.out⟩⟩
    |false=>
     rw[hp]at HA1
     have HY:=hid (show r=false by
      obtain⟨f,hf⟩:=H.out.2
      rw[HR.out];exact hf.bad hlt' (fun e=>hc (HC.out.symm.trans e)) (by rw[HC.out];exact hp))
     clear hp hc
     go_wp2_with (first|(go_at_call 167;refine(HA1.out _).mono ?_;rintro e w1 ⟨rfl,rfl⟩))
     go_ret
     exact⟨by rw[HY.out];rfl,H.out.1⟩
  ·obtain rfl:k=s.size:=by omega
   have HY:=hid (show r=decide ((0:Int)<(s.size:Int)) by
    obtain⟨f,hf⟩:=H.out.2
    rw[HR.out,(show DoI s.data.toList s.data.toList.length f by rw[HL.out];exact hf).done,HL.out]
    congr 1
    exact propext ⟨fun h=>by omega,fun h=>by omega⟩)
   go_wp2_with fail
   go_ret
   exact⟨by rw[HY.out];simp,H.out.1⟩
end Go.Proofs.YtmlmkmhkmifnkaaGreatDoor.Ma
namespace Go.Proofs.YtmlmkmhkmifnkaaGreatDoor.Ma
open Go.RowKit
open Ci (Bel Lay splitL row_shape own_bel)
theorem esc_take{l:List UInt8}{k:Nat}(hk:k<l.length):(l.take (k+1)).flatMap esc=(l.take k).flatMap esc++esc l[k]:=by
 rw[List.take_succ_eq_append_getElem hk,List.flatMap_append]
 simp
theorem esc_two'(b:UInt8):(esc b).length≤2:=by unfold esc;split<;>simp
theorem esc_le:∀l:List UInt8,(l.flatMap esc).length≤2*l.length
 |[]=>by simp
 |b::l=>by
  have:=esc_le l
  have:=esc_two' b
  rw[List.flatMap_cons,List.length_append,List.length_cons];omega
theorem esc_odd{b:UInt8}(h:b=34∨b=92):esc b=[92,b]:=if_pos h
theorem esc_plain{b:UInt8}(h:¬(b=34∨b=92)):esc b=[b]:=if_neg h
theorem byts_map{W:World}{base n:Nat}{v:Value}{bs:List UInt8}{a b:UInt8}(h:W.ownsRow base 5 1 v n (((bs.map fun b=>Value.int .u8 (b.toNat:Int))++[.int .u8 (a.toNat:Int)])++[.int .u8 (b.toNat:Int)])):W.ownsRow base 5 1 v n (((bs++[a]).map fun b=>Value.int .u8 (b.toNat:Int))++[.int .u8 (b.toNat:Int)]):=by
 rw[List.map_append];exact h
theorem byts_len{a0 W:World}{x:Option Addr}{n p:Nat}{bs:List UInt8}(h:Byts a0 W (.slice x n p) bs):Byts a0 W (.slice x bs.length p) bs:=by
 obtain⟨y,c,e,-,-⟩:=row_shape h
 have:n=bs.length:=(Value.slice.inj e).2.1
 subst this;exact h
theorem rlocal_run(s:ByteArray)(w:World)(hs:s.size≤4194304):Calls Tryz.prog 42 #[.string s] w fun e w'=>e=.returned (.string ⟨(formP s.data.toList).toArray⟩)∧Bel w w':=by
 have hl:s.data.toList.length=s.size:=by rw[Lib.size_eq]
 have HL:=hid hl
 clear hl
 have HF:=hid (show formP s.data.toList=if dottedQ s.data.toList then s.data.toList else 34::(s.data.toList.flatMap esc++[34])from rfl)
 generalize formP s.data.toList=r at HF
 have HD:=(show Hid (∀W,Calls Tryz.prog 100 #[.string s] W fun e w'=>e=.returned (.bool (dottedQ s.data.toList))∧w'=W)from fun W=>rdotted_run s W (by omega))
 cases hd:dottedQ s.data.toList with
 |true=>
  rw[hd]at HD HF
  have HX:=hid (show r=s.data.toList from HF.out)
  go_enter Tryz.func42,Tryz.ntmps42
  go_wp2_with (first|(go_at_call 100;refine(HD.out _).mono ?_;rintro e w1 ⟨rfl,h1⟩;have h1:=h1.symm;subst h1))
  go_ret
  exact⟨by rw[HX.out];rfl,Bel.refl w⟩
 |false=>
  rw[hd]at HD HF
  have HX:=hid (show r=34::(s.data.toList.flatMap esc++[34])from HF.out)
  have H0:=hid (show Byts w (w.alloc (.cells #[.int .u8 34] 5)) (.slice (some ⟨w.heap.size,0,none⟩) 1 1) [34]from World.ownsRow_lit w #[.int .u8 34] 1 (Nat.le_refl _) (by decide) rfl)
  clear hd HF
  go_enter Tryz.func42,Tryz.ntmps42
  go_wp2_with (first|(go_at_call 100;refine(HD.out _).mono ?_;rintro e w1 ⟨rfl,h1⟩;have h1:=h1.symm;subst h1))
  go_loopg [4,5] s.size (fun gg v4 v5 wr=>∃(bs:List UInt8) (x4:Option Addr) (p4 k:Nat),v4=.slice x4 bs.length p4∧v5=.int .i64 k∧k+gg=s.size∧Hid (Bel w wr∧Byts w wr (.slice x4 bs.length p4) bs∧bs=34::(s.data.toList.take k).flatMap esc))
  case atStart=>exact⟨[34],_,_,0,rfl,rfl,by omega,hid ⟨(Bel.refl w).alloc _,H0.out,by simp⟩⟩
  case round=>
   clear H0
   obtain⟨bs,x4,p4,k,rfl,rfl,hk,H⟩:=hrel
   have HK:=hid hk
   have hkn:k≤s.size:=by omega
   clear hk
   have hlen:bs.length≤8388700:=by
    rw[H.out.2.2,List.length_cons]
    have h1:=esc_le (s.data.toList.take k)
    have h2:(s.data.toList.take k).length≤s.size:=by rw[List.length_take,HL.out];omega
    omega
   by_cases hlt:k<s.size
   ·have hlt':k<s.data.toList.length:=by rw[HL.out];exact hlt
    have HC:=hid (show s.data.toList[k]'hlt'=s[k]from rfl)
    have HT:=hid (esc_take hlt')
    have HB:=hid H.out.2.1
    have HW:=hid H.out.1
    have HE:=hid H.out.2.2
    clear H
    by_cases hc:s[k]=34
    ·have c1:(((s[k]'hlt).toNat:Int)==34)=true:=byte_eq (n:=34) (by decide) hc
     have HY:=hid (show bs++[92]++[s[k]]=34::(s.data.toList.take (k+1)).flatMap esc by rw[HT.out,HC.out,esc_odd (.inl hc),HE.out];simp)
     clear hc
     go_wp2_with (first|(at_builtin;refine Ci.wpList_push (a0:=w) (W:=wr) rfl (.tmp 27) (.tmp 28) 48 rfl 5 (.int .u8 0) 1 1 Tryz.underlying48 uint8_infos rfl (by decide) (.slice x4 bs.length p4) bs.length _ (by rfl) HB.out HW.out #[.int .u8 92] (by rfl) (by rfl) (by intro u hu;simp at hu;subst hu;rfl) (by unfold maxLen;omega) (by omega) ?_;intro x' p' w' hown hb;have HO:=hid hown;have HB':=hid hb;clear hown hb)|(at_builtin;refine Ci.wpList_push (a0:=w) (W:=w') rfl (.tmp 30) (.tmp 34) 48 rfl 5 (.int .u8 0) 1 1 Tryz.underlying48 uint8_infos rfl (by decide) (.slice x' (bs.length+1:Nat) p') (bs.length+1) _ (by rfl) HO.out HB'.out #[.int .u8 (s[k]).toNat] (by rfl) (by rfl) (by intro u hu;simp at hu;subst hu;rfl) (by unfold maxLen;omega) (by omega) ?_;intro x2 p2 w2 hown hb;have HO2:=hid hown;have HB2:=hid hb;clear hown hb))
     have HM:=hid (show Byts w w2 (.slice x2 (bs.length+1+1:Nat) p2) (bs++[92]++[s[k]])from byts_snoc (byts_map HO2.out) (by rw[List.length_append];rfl))
     go_roundg (gk-1)
     case measure=>have:=HK.out;omega
     case rel=>exact⟨bs++[92]++[s[k]],x2,p2,k+1,by rw[List.length_append,List.length_append];rfl,by go_num,by have:=HK.out;omega,hid ⟨HB2.out,byts_len HM.out,HY.out⟩⟩
    ·have c1:(((s[k]'hlt).toNat:Int)==34)=false:=byte_ne (n:=34) (by decide) hc
     have HC0:=hid hc
     clear hc
     by_cases hc:s[k]=92
     ·have c2:(((s[k]'hlt).toNat:Int)==92)=true:=byte_eq (n:=92) (by decide) hc
      have HY:=hid (show bs++[92]++[s[k]]=34::(s.data.toList.take (k+1)).flatMap esc by rw[HT.out,HC.out,esc_odd (.inr hc),HE.out];simp)
      clear hc
      go_wp2_with (first|(at_builtin;refine Ci.wpList_push (a0:=w) (W:=wr) rfl (.tmp 27) (.tmp 28) 48 rfl 5 (.int .u8 0) 1 1 Tryz.underlying48 uint8_infos rfl (by decide) (.slice x4 bs.length p4) bs.length _ (by rfl) HB.out HW.out #[.int .u8 92] (by rfl) (by rfl) (by intro u hu;simp at hu;subst hu;rfl) (by unfold maxLen;omega) (by omega) ?_;intro x' p' w' hown hb;have HO:=hid hown;have HB':=hid hb;clear hown hb)|(at_builtin;refine Ci.wpList_push (a0:=w) (W:=w') rfl (.tmp 30) (.tmp 34) 48 rfl 5 (.int .u8 0) 1 1 Tryz.underlying48 uint8_infos rfl (by decide) (.slice x' (bs.length+1:Nat) p') (bs.length+1) _ (by rfl) HO.out HB'.out #[.int .u8 (s[k]).toNat] (by rfl) (by rfl) (by intro u hu;simp at hu;subst hu;rfl) (by unfold maxLen;omega) (by omega) ?_;intro x2 p2 w2 hown hb;have HO2:=hid hown;have HB2:=hid hb;clear hown hb))
      have HM:=hid (show Byts w w2 (.slice x2 (bs.length+1+1:Nat) p2) (bs++[92]++[s[k]])from byts_snoc (byts_map HO2.out) (by rw[List.length_append];rfl))
      go_roundg (gk-1)
      case measure=>have:=HK.out;omega
      case rel=>exact⟨bs++[92]++[s[k]],x2,p2,k+1,by rw[List.length_append,List.length_append];rfl,by go_num,by have:=HK.out;omega,hid ⟨HB2.out,byts_len HM.out,HY.out⟩⟩
     ·have c2:(((s[k]'hlt).toNat:Int)==92)=false:=byte_ne (n:=92) (by decide) hc
      have HY:=hid (show bs++[s[k]]=34::(s.data.toList.take (k+1)).flatMap esc by rw[HT.out,HC.out,esc_plain (fun h=>h.elim HC0.out hc),HE.out];simp)
      clear hc
      go_wp2_with (at_builtin;refine Ci.wpList_push (a0:=w) (W:=wr) rfl (.tmp 30) (.tmp 34) 48 rfl 5 (.int .u8 0) 1 1 Tryz.underlying48 uint8_infos rfl (by decide) (.slice x4 bs.length p4) bs.length _ (by rfl) HB.out HW.out #[.int .u8 (s[k]).toNat] (by rfl) (by rfl) (by intro u hu;simp at hu;subst hu;rfl) (by unfold maxLen;omega) (by omega) ?_;intro x2 p2 w2 hown hb)
      have HM:=hid (show Bel w w2∧Byts w w2 (.slice x2 (bs++[s[k]]).length p2) (bs++[s[k]])from⟨hb,byts_snoc (by rw[List.length_append];exact hown) rfl⟩)
      clear HB HW HE hown hb
      go_roundg (gk-1)
      case measure=>have:=HK.out;omega
      case rel=>exact⟨bs++[s[k]],x2,p2,k+1,by rw[List.length_append];rfl,by go_num,by have:=HK.out;omega,hid ⟨HM.out.1,HM.out.2,HY.out⟩⟩
   ·obtain rfl:k=s.size:=by omega
    have HE:=hid H.out.2.2
    rw[List.take_of_length_le (by rw[HL.out];exact Nat.le_refl _)]at HE
    have HB:=hid H.out.2.1
    have HW:=hid H.out.1
    clear H
    have HR:=hid (show(⟨(bs++[(34:UInt8)]).toArray⟩:ByteArray)=⟨r.toArray⟩ by rw[HX.out,HE.out];rfl)
    go_wp2_with (at_builtin;refine Ci.wpList_push (a0:=w) (W:=wr) rfl (.tmp 36) (.tmp 37) 48 rfl 5 (.int .u8 0) 1 1 Tryz.underlying48 uint8_infos rfl (by decide) (.slice x4 bs.length p4) bs.length _ (by rfl) HB.out HW.out #[.int .u8 34] (by rfl) (by rfl) (by intro u hu;simp at hu;subst hu;rfl) (by unfold maxLen;omega) (by omega) ?_;intro x2 p2 w2 hown hb;have hcv:=conv_byts (byts_snoc (b:=34) hown rfl);rw[HR.out]at hcv;have HBl:=hid hb;clear hown hb)
    go_ret
    exact⟨rfl,HBl.out⟩
end Go.Proofs.YtmlmkmhkmifnkaaGreatDoor.Ma