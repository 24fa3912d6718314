import Derived.Test.YtmlmkmhkmifnkaaGreatDoorK20
import Derived.Lib.Strings
import Derived.StillTailTactics
set_option maxHeartbeats 16000000
set_option maxRecDepth 1000000
namespace Go.Proofs.YtmlmkmhkmifnkaaGreatDoor.Tb
open Go.RowKit
open Ci (Bel Lay hid Aft wp_region_aft)
open Ma (Pt domainQ rightP mbQ zeroP ptC ptC_one ptC_range pt_size load_pt mbI_new MbI pdomain_run Mailbox_run wpList_store_blk)
theorem has64:∀l:List UInt8,Lib.hasPrefix l [64]=decide (l.head?=some 64)
 |[]=>rfl
 |b::l=>by
  show((64==b)&&List.isPrefixOf [] l)=decide (some b=some 64)
  by_cases h:b=64
  ·subst h;simp
  ·rw[beq_false_of_ne fun e=>h e.symm,decide_eq_false fun e=>h (Option.some.inj e)];rfl
theorem cutin_run(s:ByteArray)(w:World):Calls Tryz.prog 142 #[.string s,.string ⟨#[64]⟩] w fun e w'=>e=.returned (.tuple #[.string (if s.data.toList.head?=some 64 then s.extract 1 s.size else s),.bool (decide (s.data.toList.head?=some 64))])∧w'=w:=by
 have HP:=(show Hid (∀W,Calls Tryz.prog 217 #[.string s,.string ⟨#[64]⟩] W fun e w'=>e=.returned (.bool (decide (s.data.toList.head?=some 64)))∧w'=W)from fun W=>by
  have:=Tryz.stringslite_HasPrefix s ⟨#[64]⟩ W
  rw[show(⟨#[64]⟩:ByteArray).data.toList=[64]from rfl,has64]at this
  exact this)
 by_cases h:s.data.toList.head?=some 64
 ·rw[if_pos h]
  have hs:1≤s.size:=by
   rw[Lib.size_eq]
   cases hl:s.data.toList with
   |nil=>rw[hl]at h;cases h
   |cons b l=>simp
  rw[decide_eq_true h]at HP⊢
  clear h
  go_enter Tryz.func142,Tryz.ntmps142
  go_wp2_with (first|(go_at_call 217;refine(HP.out _).mono ?_;rintro e w1 ⟨rfl,rfl⟩))
  go_ret2
  exact⟨rfl,rfl⟩
 ·rw[if_neg h]
  rw[decide_eq_false h]at HP⊢
  clear h
  go_enter Tryz.func142,Tryz.ntmps142
  go_wp2_with (first|(go_at_call 217;refine(HP.out _).mono ?_;rintro e w1 ⟨rfl,rfl⟩))
  go_ret2
  exact⟨rfl,rfl⟩
theorem cutpre_run(s:ByteArray)(w:World):Calls Tryz.prog 71 #[.string s,.string ⟨#[64]⟩] w fun e w'=>e=.returned (.tuple #[.string (if s.data.toList.head?=some 64 then s.extract 1 s.size else s),.bool (decide (s.data.toList.head?=some 64))])∧w'=w:=by
 have HP:=hid (fun W=>cutin_run s W)
 generalize (if s.data.toList.head?=some 64 then s.extract 1 s.size else s)=r at HP⊢
 generalize decide (s.data.toList.head?=some 64)=d at HP⊢
 go_enter Tryz.func71,Tryz.ntmps71
 go_wp2_with (first|(go_at_call 142;refine(HP.out _).mono ?_;rintro e w1 ⟨rfl,rfl⟩))
 go_ret2
 exact⟨rfl,rfl⟩
theorem pt_set{W:World}{b:Nat}{a0 a1 a2 a3:Value}{T:TypeId}(h:W.heap[b]?=some (.cells #[a0,a1,a2,a3] T (0,0)))(v0 v1 v2 v3:Value):((((W.setCell ⟨b,0,none⟩ v0).setCell ⟨b,1,none⟩ v1).setCell ⟨b,2,none⟩ v2).setCell ⟨b,3,none⟩ v3).heap[b]?=some (.cells #[v0,v1,v2,v3] T (0,0)):=by
 have h0:(W.setCell ⟨b,0,none⟩ v0).heap[b]?=some (.cells #[v0,a1,a2,a3] T (0,0)):=heap_setCell_same _ _ _ _ _ _ h
 have h1:((W.setCell ⟨b,0,none⟩ v0).setCell ⟨b,1,none⟩ v1).heap[b]?=some (.cells #[v0,v1,a2,a3] T (0,0)):=heap_setCell_same _ _ _ _ _ _ h0
 have h2:(((W.setCell ⟨b,0,none⟩ v0).setCell ⟨b,1,none⟩ v1).setCell ⟨b,2,none⟩ v2).heap[b]?=some (.cells #[v0,v1,v2,a3] T (0,0)):=heap_setCell_same _ _ _ _ _ _ h1
 exact heap_setCell_same _ _ _ _ _ _ h2
def VcV(v:List UInt8):Value:=.tuple #[.agg (ptC (valueC v).1).toArray,.bool (valueC v).2.1,.bool (valueC v).2.2]
theorem cvalue_run(s:ByteArray)(w:World)(hw:Lay w)(hs:s.size≤4000000):Calls Tryz.prog 30 #[.string s] w fun e w'=>e=.returned (VcV s.data.toList)∧Bel w w':=by
 have HW:=hid hw
 have H0:=hid (mbI_new w)
 have HC:=(show Hid (∀W,Calls Tryz.prog 71 #[.string s,.string ⟨#[64]⟩] W fun e w'=>e=.returned (.tuple #[.string (if s.data.toList.head?=some 64 then s.extract 1 s.size else s),.bool (decide (s.data.toList.head?=some 64))])∧w'=W)from fun W=>cutpre_run s W)
 by_cases h:s.data.toList.head?=some 64
 ·rw[if_pos h,decide_eq_true h]at HC
  have HD:=(show Hid (∀W,Lay W→Calls Tryz.prog 26 #[.string (s.extract 1 s.size)] W fun e w'=>e=.returned (.tuple #[.string ⟨(domainQ (s.data.toList.drop 1)).1.toArray⟩,.bool (domainQ (s.data.toList.drop 1)).2.1,.int .i64 (domainQ (s.data.toList.drop 1)).2.2])∧Bel W w')from fun W hW=>by
   have:=pdomain_run (s.extract 1 s.size) W hW (by rw[ByteArray.size_extract];omega)
   rw[Lib.extract_to_end s 1]at this
   exact this)
  have HV:=hid (show VcV s.data.toList=.tuple #[.agg (ptC ⟨false,[],(domainQ (s.data.toList.drop 1)).1,false⟩).toArray,.bool true,.bool (decide ((domainQ (s.data.toList.drop 1)).2.2=0)&& !(domainQ (s.data.toList.drop 1)).2.1)] by unfold VcV valueC;rw[if_pos h])
  clear h
  rw[HV.out]
  generalize domainQ (s.data.toList.drop 1)=D at HD⊢
  obtain⟨d,lit,e⟩:=D
  simp only at HD⊢
  by_cases he:e=0
  ·subst he
   go_enter Tryz.func30,Tryz.ntmps30
   go_wp2_with (first|(go_at_call 71;refine(HC.out _).mono ?_;rintro e w1 ⟨rfl,rfl⟩)|(go_at_call 26;refine(HD.out _ (HW.out.next H0.out.1)).mono ?_;rintro e w2 ⟨rfl,hb2⟩;have HB2:=hid (H0.out.next hb2);clear hb2)|(refine wpList_store_blk rfl 26 (.tmp 2) (.tmp 25) rfl w.heap.size (ptC ⟨false,[],d,false⟩) rfl rfl pt_size (ptC_one _) (ptC zeroP) _ HB2.out.2 rfl ?_;intro w9 hc9 ho9 hs9 hb9;have HB9:=hid (hb9 w HB2.out.1 (Nat.le_refl _));have HC9:=hid hc9;clear ho9 hs9 hb9 hc9))
   have hl2:=load_pt (cs:=ptC ⟨false,[],d,false⟩) HC9.out rfl
   exact bodyPost_ret (v:=.tuple #[.agg (ptC ⟨false,[],d,false⟩).toArray,.bool true,.bool (!lit)]) (by simp[results,Tryz.results30,asAddr,hl2]) rfl ⟨by simp,HB9.out⟩
  ·have b1:(e==0)=false:=by simpa using he
   go_enter Tryz.func30,Tryz.ntmps30
   go_wp2_with (first|(go_at_call 71;refine(HC.out _).mono ?_;rintro e w1 ⟨rfl,rfl⟩)|(go_at_call 26;refine(HD.out _ (HW.out.next H0.out.1)).mono ?_;rintro e w2 ⟨rfl,hb2⟩;have HB2:=hid (H0.out.next hb2);clear hb2)|(refine wpList_store_blk rfl 26 (.tmp 2) (.tmp 25) rfl w.heap.size (ptC ⟨false,[],d,false⟩) rfl rfl pt_size (ptC_one _) (ptC zeroP) _ HB2.out.2 rfl ?_;intro w9 hc9 ho9 hs9 hb9;have HB9:=hid (hb9 w HB2.out.1 (Nat.le_refl _));have HC9:=hid hc9;clear ho9 hs9 hb9 hc9))
   have hl2:=load_pt (cs:=ptC ⟨false,[],d,false⟩) HC9.out rfl
   exact bodyPost_ret (v:=.tuple #[.agg (ptC ⟨false,[],d,false⟩).toArray,.bool true,.bool false]) (by simp[results,Tryz.results30,asAddr,hl2]) rfl ⟨by simp[he],HB9.out⟩
 ·rw[if_neg h,decide_eq_false h]at HC
  have HM:=(show Hid (∀W,Lay W→Calls Tryz.prog 72 #[.string s] W fun e w'=>e=.returned (.tuple #[.agg (ptC (mbQ s.data.toList).1).toArray,.int .i64 (mbQ s.data.toList).2])∧Bel W w')from fun W hW=>Mailbox_run s W hW hs)
  have HV:=hid (show VcV s.data.toList=.tuple #[.agg (ptC (mbQ s.data.toList).1).toArray,.bool false,.bool (decide ((mbQ s.data.toList).2=0)&&(!(mbQ s.data.toList).1.null&& !(mbQ s.data.toList).1.dom.isEmpty))] by unfold VcV valueC;rw[if_neg h])
  clear h
  rw[HV.out]
  generalize mbQ s.data.toList=M at HM⊢
  obtain⟨p,e⟩:=M
  simp only at HM⊢
  by_cases he:e=0
  ·subst he
   cases hn:p.null with
   |true=>
    have HFin:=hid (show(decide ((0:Int)=0)&&(!p.null&& !p.dom.isEmpty))=false by rw[hn];rfl)
    go_enter Tryz.func30,Tryz.ntmps30
    go_wp2_with (first|(go_at_call 71;refine(HC.out _).mono ?_;rintro _ w1 ⟨rfl,rfl⟩)|(go_at_call 72;refine(HM.out _ (HW.out.next H0.out.1)).mono ?_;rintro _ w2 ⟨rfl,hb2⟩;have HB2:=hid (H0.out.next hb2);clear hb2)|(refine wpList_store_blk rfl 26 (.tmp 10) (.tmp 35) rfl w2.heap.size (ptC p) rfl rfl pt_size (ptC_one _) (ptC zeroP) _ (heap_alloc_new w2 _) rfl ?_;intro w9 hc9 ho9 hs9 hb9;have HB9:=hid (hb9 w2 ((Bel.refl w2).alloc _) (Nat.le_refl _));have HC9:=hid hc9;have hs9':=hs9;clear ho9 hb9 hc9))
    have k0:w9.cell? ⟨w2.heap.size,0,none⟩=some (.bool p.null):=by rw[Lib.cell_of_heap HC9.out];rfl
    have k2:w9.cell? ⟨w2.heap.size,2,none⟩=some (.string ⟨p.dom.toArray⟩):=by rw[Lib.cell_of_heap HC9.out];rfl
    rw[hn]at k0
    have k1:w9.cell? ⟨w2.heap.size,1,none⟩=some (.string ⟨p.loc.toArray⟩):=by rw[Lib.cell_of_heap HC9.out];rfl
    have k3:w9.cell? ⟨w2.heap.size,3,none⟩=some (.bool p.lit):=by rw[Lib.cell_of_heap HC9.out];rfl
    have hz9:=HB9.out.heap HB2.out.2
    have z0:w9.cell? ⟨w.heap.size,0,none⟩=some (.bool false):=by rw[Lib.cell_of_heap hz9];rfl
    have z1:w9.cell? ⟨w.heap.size,1,none⟩=some (.string ⟨#[]⟩):=by rw[Lib.cell_of_heap hz9];rfl
    have z2:w9.cell? ⟨w.heap.size,2,none⟩=some (.string ⟨#[]⟩):=by rw[Lib.cell_of_heap hz9];rfl
    have z3:w9.cell? ⟨w.heap.size,3,none⟩=some (.bool false):=by rw[Lib.cell_of_heap hz9];rfl
    have f0:w9.frozen? ⟨w.heap.size,0,none⟩=false:=Lib.frozen_of_heap hz9 0
    have f1:w9.frozen? ⟨w.heap.size,1,none⟩=false:=Lib.frozen_of_heap hz9 1
    have f2:w9.frozen? ⟨w.heap.size,2,none⟩=false:=Lib.frozen_of_heap hz9 2
    have f3:w9.frozen? ⟨w.heap.size,3,none⟩=false:=Lib.frozen_of_heap hz9 3
    have hltz:w.heap.size<w2.heap.size:=(Array.getElem?_eq_some_iff.1 HB2.out.2).1
    have hne1:¬w2.heap.size=w.heap.size:=by omega
    have hne2:¬w.heap.size=w2.heap.size:=by omega
    have HZ9:=hid hz9
    clear hz9
    go_region
    go_wp2_with fail
    have hs4:=pt_set HZ9.out (.bool p.null) (.string ⟨p.loc.toArray⟩) (.string ⟨p.dom.toArray⟩) (.bool p.lit)
    have hl2:=load_pt (w:=((((w9.setCell ⟨w.heap.size,0,none⟩ (.bool p.null)).setCell ⟨w.heap.size,1,none⟩ (.string ⟨p.loc.toArray⟩)).setCell ⟨w.heap.size,2,none⟩ (.string ⟨p.dom.toArray⟩)).setCell ⟨w.heap.size,3,none⟩ (.bool p.lit)).drew) (cs:=ptC p) hs4 rfl
    rw[hn]at hl2 hs4
    refine bodyPost_ret (v:=.tuple #[.agg (ptC p).toArray,.bool false,.bool false]) (by simp[results,Tryz.results30,asAddr,hl2]) rfl ⟨by simp,?_⟩
    exact(((((HB2.out.1.trans HB9.out).setCell (Nat.le_refl _) _).setCell (Nat.le_refl _) _).setCell (Nat.le_refl _) _).setCell (Nat.le_refl _) _).drew
   |false=>
    by_cases hd:p.dom=[]
    ·have d0:((⟨p.dom.toArray⟩:ByteArray).toList==[])=true:=by rw[ByteArray.toList_eq,hd];rfl
     have d1:(⟨p.dom.toArray⟩:ByteArray).toList=[]:=by rw[ByteArray.toList_eq,hd]
     have HFin:=hid (show(decide ((0:Int)=0)&&(!p.null&& !p.dom.isEmpty))=false by rw[hn,hd];rfl)
     go_enter Tryz.func30,Tryz.ntmps30
     go_wp2_with (first|(go_at_call 71;refine(HC.out _).mono ?_;rintro _ w1 ⟨rfl,rfl⟩)|(go_at_call 72;refine(HM.out _ (HW.out.next H0.out.1)).mono ?_;rintro _ w2 ⟨rfl,hb2⟩;have HB2:=hid (H0.out.next hb2);clear hb2)|(refine wpList_store_blk rfl 26 (.tmp 10) (.tmp 35) rfl w2.heap.size (ptC p) rfl rfl pt_size (ptC_one _) (ptC zeroP) _ (heap_alloc_new w2 _) rfl ?_;intro w9 hc9 ho9 hs9 hb9;have HB9:=hid (hb9 w2 ((Bel.refl w2).alloc _) (Nat.le_refl _));have HC9:=hid hc9;have hs9':=hs9;clear ho9 hb9 hc9))
     have k0:w9.cell? ⟨w2.heap.size,0,none⟩=some (.bool p.null):=by rw[Lib.cell_of_heap HC9.out];rfl
     have k2:w9.cell? ⟨w2.heap.size,2,none⟩=some (.string ⟨p.dom.toArray⟩):=by rw[Lib.cell_of_heap HC9.out];rfl
     rw[hn]at k0
     have k1:w9.cell? ⟨w2.heap.size,1,none⟩=some (.string ⟨p.loc.toArray⟩):=by rw[Lib.cell_of_heap HC9.out];rfl
     have k3:w9.cell? ⟨w2.heap.size,3,none⟩=some (.bool p.lit):=by rw[Lib.cell_of_heap HC9.out];rfl
     have hz9:=HB9.out.heap HB2.out.2
     have z0:w9.cell? ⟨w.heap.size,0,none⟩=some (.bool false):=by rw[Lib.cell_of_heap hz9];rfl
     have z1:w9.cell? ⟨w.heap.size,1,none⟩=some (.string ⟨#[]⟩):=by rw[Lib.cell_of_heap hz9];rfl
     have z2:w9.cell? ⟨w.heap.size,2,none⟩=some (.string ⟨#[]⟩):=by rw[Lib.cell_of_heap hz9];rfl
     have z3:w9.cell? ⟨w.heap.size,3,none⟩=some (.bool false):=by rw[Lib.cell_of_heap hz9];rfl
     have f0:w9.frozen? ⟨w.heap.size,0,none⟩=false:=Lib.frozen_of_heap hz9 0
     have f1:w9.frozen? ⟨w.heap.size,1,none⟩=false:=Lib.frozen_of_heap hz9 1
     have f2:w9.frozen? ⟨w.heap.size,2,none⟩=false:=Lib.frozen_of_heap hz9 2
     have f3:w9.frozen? ⟨w.heap.size,3,none⟩=false:=Lib.frozen_of_heap hz9 3
     have hltz:w.heap.size<w2.heap.size:=(Array.getElem?_eq_some_iff.1 HB2.out.2).1
     have hne1:¬w2.heap.size=w.heap.size:=by omega
     have hne2:¬w.heap.size=w2.heap.size:=by omega
     have HZ9:=hid hz9
     clear hz9
     go_region
     go_wp2_with fail
     have hs4:=pt_set HZ9.out (.bool p.null) (.string ⟨p.loc.toArray⟩) (.string ⟨p.dom.toArray⟩) (.bool p.lit)
     have hl2:=load_pt (w:=((((w9.setCell ⟨w.heap.size,0,none⟩ (.bool p.null)).setCell ⟨w.heap.size,1,none⟩ (.string ⟨p.loc.toArray⟩)).setCell ⟨w.heap.size,2,none⟩ (.string ⟨p.dom.toArray⟩)).setCell ⟨w.heap.size,3,none⟩ (.bool p.lit)).drew) (cs:=ptC p) hs4 rfl
     rw[hn]at hl2 hs4
     rw[hd]at hl2
     refine bodyPost_ret (v:=.tuple #[.agg (ptC p).toArray,.bool false,.bool false]) (by simp[results,Tryz.results30,asAddr,hl2]) rfl ⟨by simp[hd],?_⟩
     exact(((((HB2.out.1.trans HB9.out).setCell (Nat.le_refl _) _).setCell (Nat.le_refl _) _).setCell (Nat.le_refl _) _).setCell (Nat.le_refl _) _).drew
    ·have d1:¬(⟨p.dom.toArray⟩:ByteArray).toList=[]:=by rw[ByteArray.toList_eq];exact hd
     have d0:((⟨p.dom.toArray⟩:ByteArray).toList==[])=false:=by simpa using d1
     have HFin:=hid (show(decide ((0:Int)=0)&&(!p.null&& !p.dom.isEmpty))=true by
      rw[hn]
      cases hx:p.dom with
      |nil=>exact absurd hx hd
      |cons b l=>rfl)
     go_enter Tryz.func30,Tryz.ntmps30
     go_wp2_with (first|(go_at_call 71;refine(HC.out _).mono ?_;rintro _ w1 ⟨rfl,rfl⟩)|(go_at_call 72;refine(HM.out _ (HW.out.next H0.out.1)).mono ?_;rintro _ w2 ⟨rfl,hb2⟩;have HB2:=hid (H0.out.next hb2);clear hb2)|(refine wpList_store_blk rfl 26 (.tmp 10) (.tmp 35) rfl w2.heap.size (ptC p) rfl rfl pt_size (ptC_one _) (ptC zeroP) _ (heap_alloc_new w2 _) rfl ?_;intro w9 hc9 ho9 hs9 hb9;have HB9:=hid (hb9 w2 ((Bel.refl w2).alloc _) (Nat.le_refl _));have HC9:=hid hc9;have hs9':=hs9;clear ho9 hb9 hc9))
     have k0:w9.cell? ⟨w2.heap.size,0,none⟩=some (.bool p.null):=by rw[Lib.cell_of_heap HC9.out];rfl
     have k2:w9.cell? ⟨w2.heap.size,2,none⟩=some (.string ⟨p.dom.toArray⟩):=by rw[Lib.cell_of_heap HC9.out];rfl
     rw[hn]at k0
     have k1:w9.cell? ⟨w2.heap.size,1,none⟩=some (.string ⟨p.loc.toArray⟩):=by rw[Lib.cell_of_heap HC9.out];rfl
     have k3:w9.cell? ⟨w2.heap.size,3,none⟩=some (.bool p.lit):=by rw[Lib.cell_of_heap HC9.out];rfl
     have hz9:=HB9.out.heap HB2.out.2
     have z0:w9.cell? ⟨w.heap.size,0,none⟩=some (.bool false):=by rw[Lib.cell_of_heap hz9];rfl
     have z1:w9.cell? ⟨w.heap.size,1,none⟩=some (.string ⟨#[]⟩):=by rw[Lib.cell_of_heap hz9];rfl
     have z2:w9.cell? ⟨w.heap.size,2,none⟩=some (.string ⟨#[]⟩):=by rw[Lib.cell_of_heap hz9];rfl
     have z3:w9.cell? ⟨w.heap.size,3,none⟩=some (.bool false):=by rw[Lib.cell_of_heap hz9];rfl
     have f0:w9.frozen? ⟨w.heap.size,0,none⟩=false:=Lib.frozen_of_heap hz9 0
     have f1:w9.frozen? ⟨w.heap.size,1,none⟩=false:=Lib.frozen_of_heap hz9 1
     have f2:w9.frozen? ⟨w.heap.size,2,none⟩=false:=Lib.frozen_of_heap hz9 2
     have f3:w9.frozen? ⟨w.heap.size,3,none⟩=false:=Lib.frozen_of_heap hz9 3
     have hltz:w.heap.size<w2.heap.size:=(Array.getElem?_eq_some_iff.1 HB2.out.2).1
     have hne1:¬w2.heap.size=w.heap.size:=by omega
     have hne2:¬w.heap.size=w2.heap.size:=by omega
     have HZ9:=hid hz9
     clear hz9
     go_region
     go_wp2_with fail
     have hs4:=pt_set HZ9.out (.bool p.null) (.string ⟨p.loc.toArray⟩) (.string ⟨p.dom.toArray⟩) (.bool p.lit)
     have hl2:=load_pt (w:=((((w9.setCell ⟨w.heap.size,0,none⟩ (.bool p.null)).setCell ⟨w.heap.size,1,none⟩ (.string ⟨p.loc.toArray⟩)).setCell ⟨w.heap.size,2,none⟩ (.string ⟨p.dom.toArray⟩)).setCell ⟨w.heap.size,3,none⟩ (.bool p.lit)).drew) (cs:=ptC p) hs4 rfl
     rw[hn]at hl2 hs4
     refine bodyPost_ret (v:=.tuple #[.agg (ptC p).toArray,.bool false,.bool true]) (by simp[results,Tryz.results30,asAddr,hl2,hd]) rfl ⟨by simp[hd],?_⟩
     exact(((((HB2.out.1.trans HB9.out).setCell (Nat.le_refl _) _).setCell (Nat.le_refl _) _).setCell (Nat.le_refl _) _).setCell (Nat.le_refl _) _).drew
  ·have b1:(e==0)=false:=by simpa using he
   have HFin:=hid (show(decide (e=0)&&(!p.null&& !p.dom.isEmpty))=false by rw[decide_eq_false he];rfl)
   go_enter Tryz.func30,Tryz.ntmps30
   go_wp2_with (first|(go_at_call 71;refine(HC.out _).mono ?_;rintro _ w1 ⟨rfl,rfl⟩)|(go_at_call 72;refine(HM.out _ (HW.out.next H0.out.1)).mono ?_;rintro _ w2 ⟨rfl,hb2⟩;have HB2:=hid (H0.out.next hb2);clear hb2)|(refine wpList_store_blk rfl 26 (.tmp 10) (.tmp 35) rfl w2.heap.size (ptC p) rfl rfl pt_size (ptC_one _) (ptC zeroP) _ (heap_alloc_new w2 _) rfl ?_;intro w9 hc9 ho9 hs9 hb9;have HB9:=hid (hb9 w2 ((Bel.refl w2).alloc _) (Nat.le_refl _));have HC9:=hid hc9;have hs9':=hs9;clear ho9 hb9 hc9))
   have k0:w9.cell? ⟨w2.heap.size,0,none⟩=some (.bool p.null):=by rw[Lib.cell_of_heap HC9.out];rfl
   have k2:w9.cell? ⟨w2.heap.size,2,none⟩=some (.string ⟨p.dom.toArray⟩):=by rw[Lib.cell_of_heap HC9.out];rfl
   have k1:w9.cell? ⟨w2.heap.size,1,none⟩=some (.string ⟨p.loc.toArray⟩):=by rw[Lib.cell_of_heap HC9.out];rfl
   have k3:w9.cell? ⟨w2.heap.size,3,none⟩=some (.bool p.lit):=by rw[Lib.cell_of_heap HC9.out];rfl
   have hz9:=HB9.out.heap HB2.out.2
   have z0:w9.cell? ⟨w.heap.size,0,none⟩=some (.bool false):=by rw[Lib.cell_of_heap hz9];rfl
   have z1:w9.cell? ⟨w.heap.size,1,none⟩=some (.string ⟨#[]⟩):=by rw[Lib.cell_of_heap hz9];rfl
   have z2:w9.cell? ⟨w.heap.size,2,none⟩=some (.string ⟨#[]⟩):=by rw[Lib.cell_of_heap hz9];rfl
   have z3:w9.cell? ⟨w.heap.size,3,none⟩=some (.bool false):=by rw[Lib.cell_of_heap hz9];rfl
   have f0:w9.frozen? ⟨w.heap.size,0,none⟩=false:=Lib.frozen_of_heap hz9 0
   have f1:w9.frozen? ⟨w.heap.size,1,none⟩=false:=Lib.frozen_of_heap hz9 1
   have f2:w9.frozen? ⟨w.heap.size,2,none⟩=false:=Lib.frozen_of_heap hz9 2
   have f3:w9.frozen? ⟨w.heap.size,3,none⟩=false:=Lib.frozen_of_heap hz9 3
   have hltz:w.heap.size<w2.heap.size:=(Array.getElem?_eq_some_iff.1 HB2.out.2).1
   have hne1:¬w2.heap.size=w.heap.size:=by omega
   have hne2:¬w.heap.size=w2.heap.size:=by omega
   have HZ9:=hid hz9
   clear hz9
   go_region
   go_wp2_with fail
   have hs4:=pt_set HZ9.out (.bool p.null) (.string ⟨p.loc.toArray⟩) (.string ⟨p.dom.toArray⟩) (.bool p.lit)
   have hl2:=load_pt (w:=((((w9.setCell ⟨w.heap.size,0,none⟩ (.bool p.null)).setCell ⟨w.heap.size,1,none⟩ (.string ⟨p.loc.toArray⟩)).setCell ⟨w.heap.size,2,none⟩ (.string ⟨p.dom.toArray⟩)).setCell ⟨w.heap.size,3,none⟩ (.bool p.lit)).drew) (cs:=ptC p) hs4 rfl
   skip
   refine bodyPost_ret (v:=.tuple #[.agg (ptC p).toArray,.bool false,.bool false]) (by simp[results,Tryz.results30,asAddr,hl2]) rfl ⟨by simp[he],?_⟩
   exact(((((HB2.out.1.trans HB9.out).setCell (Nat.le_refl _) _).setCell (Nat.le_refl _) _).setCell (Nat.le_refl _) _).setCell (Nat.le_refl _) _).drew
end Go.Proofs.YtmlmkmhkmifnkaaGreatDoor.Tb
namespace Go.Proofs.YtmlmkmhkmifnkaaGreatDoor.Tb
open Go.RowKit
open Ci (Bel hid)
def SMap(w:World)(b:Nat)(l:List (ByteArray×Value)):Prop:=
 ∃es clock,w.heap[b]?=some (.map es clock)∧es.toList.map (fun e=>(e.key,e.val))=l.map fun x=>(Value.string x.1,x.2)
theorem SMap.next{w w':World}{b:Nat}{l:List (ByteArray×Value)}(h:SMap w b l)(hb:Bel w w'):SMap w' b l:=by
 obtain⟨es,c,h1,h2⟩:=h
 exact⟨es,c,hb.heap h1,h2⟩
theorem ba_beq(a b:ByteArray):(a==b)=decide (a=b):=by
 cases a with|mk a=>cases b with|mk b=>
 show(a==b)=_
 rw[Bool.eq_iff_iff];simp
def lookS(l:List (ByteArray×Value))(s:ByteArray):Option Value:=(l.find? fun x=>decide (x.1=s)).map (·.2)
theorem findNow_s(s:ByteArray):∀(es:List MapEntry) (l:List (ByteArray×Value)) (i:Nat),es.map (fun e=>(e.key,e.val))=l.map (fun x=>(Value.string x.1,x.2))→
 ∃r,Instr.findNow .string (.string s) es i=some r∧r.map (·.2)=lookS l s
 |[],l,i,h=>by
  have:l=[]:=by cases l<;>simp_all
  subst this
  exact⟨none,rfl,rfl⟩
 |e::es,l,i,h=>by
  obtain⟨x,l,rfl⟩:∃x l',l=x::l':=by cases l<;>simp_all
  simp only[List.map_cons,List.cons.injEq,Prod.mk.injEq]at h
  obtain⟨⟨h1,h2⟩,h3⟩:=h
  by_cases hx:s=x.1
  ·refine⟨some (i,e.val),?_,?_⟩
   ·simp[Instr.findNow,h1,Instr.sameNow,ba_beq,hx]
   ·simp[lookS,List.find?,hx,h2]
  ·obtain⟨r,hr,hr2⟩:=findNow_s s es l (i+1) h3
   refine⟨r,?_,?_⟩
   ·simp[Instr.findNow,h1,Instr.sameNow,ba_beq,hx,hr]
   ·have hx':¬x.1=s:=fun e=>hx e.symm
    rw[hr2]
    simp[lookS,List.find?,hx']
section
variable {P:Program} {t k e:TypeId}
theorem run_lookup_s (w:World) (b:Nat) (l:List (ByteArray×Value)) (s:ByteArray) (z:Value) (ht:P.underlying t=some (.map k e)) (hk:P.underlying k=some .string)
 (hz:∀w,(zeroValue e).run P w=.ok z w) (h:SMap w b l):(Instr.lookup t (.map (some b)) (.string s) false).run P w=.ok ((lookS l s).getD z) w:=by
 obtain⟨es,clock,hb,hl⟩:=h
 obtain⟨r,hr,hr2⟩:=findNow_s s es.toList l 0 hl
 have hck:∀em,(Instr.checkKey em 10000 k (.string s)).run P w=.ok () w:=by
  intro em
  have:∀n,(Instr.checkKey em (n+1) k (.string s)).run P w=.ok () w:=fun n=>by simp[Instr.checkKey,run_underlying hk]
  exact this 9999
 have hgo:(getObj b).run P w=.ok (.map es clock) w:=by simp[getObj,Sem.run,hb]
 have hf:(Instr.findKey k (.string s) es.toList).run P w=.ok r w:=by
  simp[Instr.findKey,run_underlying hk,hr]
 rw[←hr2]
 cases r with
 |none=>simp[Instr.lookup,run_underlying ht,hgo,hck,hf,hz]
 |some p=>simp[Instr.lookup,run_underlying ht,hgo,hck,hf]
theorem run_insert_s (w:World) (b:Nat) (l:List (ByteArray×Value)) (s:ByteArray) (v:Value) (ht:P.underlying t=some (.map k e)) (hk:P.underlying k=some .string)
 (h:SMap w b l) (hno:lookS l s=none):∃w',(Instr.mapUpdate t (.map (some b)) (.string s) v).run P w=.ok () w'∧SMap w' b (l++[(s,v)])∧(∀U,Bel U w→U.heap.size≤b→Bel U w')∧∀k,k≠b→w'.heap[k]?=w.heap[k]?:=by
 obtain⟨es,clock,hb,hl⟩:=h
 obtain⟨r,hr,hr2⟩:=findNow_s s es.toList l 0 hl
 have hrn:r=none:=by
  rw[hno]at hr2
  cases r with
  |none=>rfl
  |some _=>simp at hr2
 subst hrn
 have hck:∀em,(Instr.checkKey em 10000 k (.string s)).run P w=.ok () w:=by
  intro em
  have:∀n,(Instr.checkKey em (n+1) k (.string s)).run P w=.ok () w:=fun n=>by simp[Instr.checkKey,run_underlying hk]
  exact this 9999
 have hgo:(getObj b).run P w=.ok (.map es clock) w:=by simp[getObj,Sem.run,hb]
 have hf:(Instr.findKey k (.string s) es.toList).run P w=.ok none w:=by
  simp[Instr.findKey,run_underlying hk,hr]
 have hlt:b<w.heap.size:=(Array.getElem?_eq_some_iff.1 hb).1
 refine⟨{w with heap:=w.heap.setIfInBounds b (.map (es.push {key:=.string s,val:=v,born:=clock}) (clock+1))},?_,?_,?_,fun k hk=> ?_⟩
 ·have hset:∀o,(setObj b o).run P w=.ok () {w with heap:=w.heap.setIfInBounds b o}:=by intro o;simp[setObj,Sem.run,hb]
  simp[Instr.mapUpdate,run_underlying ht,hgo,hck,hf,hset]
 ·refine⟨_,_,by simp[hlt];exact⟨rfl,rfl⟩,?_⟩
  simp[hl]
 ·intro U hU hUb
  refine⟨hU.os,hU.tape,hU.output,Nat.le_trans hU.size (by simp),fun k hk=> ?_⟩
  rw[←hU.block k hk]
  simp only[Array.getElem?_setIfInBounds]
  rw[if_neg (by omega)]
 ·simp only[Array.getElem?_setIfInBounds]
  rw[if_neg (fun e=>hk e.symm)]
end
def nmsL:List (List UInt8):=[[66,99,99],[67,99],[70,114,111,109],[82,101,112,108,121,45,84,111],[82,101,115,101,110,116,45,66,99,99],[82,101,115,101,110,116,45,67,99],[82,101,115,101,110,116,45,70,114,111,109],[82,101,115,101,110,116,45,82,101,112,108,121,45,84,111],[82,101,115,101,110,116,45,83,101,110,100,101,114],[82,101,115,101,110,116,45,84,111],[83,101,110,100,101,114],[84,111]]
def nmsV:List Value:=nmsL.map fun x=>Value.string ⟨x.toArray⟩
theorem names_run(w:World):Calls Tryz.prog 15 #[] w fun e w'=>e=.returned (.slice (some ⟨w.heap.size,0,none⟩) 12 12)∧w'=w.alloc (.cells nmsV.toArray 9):=by
 go_enter Tryz.func15,Tryz.ntmps15
 go_wp2_with fail
 go_ret
 exact⟨rfl,rfl⟩
theorem rnames_run(w:World):Calls Tryz.prog 16 #[] w fun e w'=>e=.returned (.slice (some ⟨w.heap.size,0,none⟩) 12 12)∧w'=w.alloc (.cells nmsV.toArray 9):=by
 go_enter Tryz.func16,Tryz.ntmps16
 go_wp2_with fail
 go_ret
 exact⟨rfl,rfl⟩
theorem nms_at:∀i,i<12→nmsV.toArray[i]?=some (.string ⟨((nmsL[i]?).getD []).toArray⟩):=by
 intro i hi
 have hl:i<nmsL.length:=hi
 show(nmsL.map fun x=>Value.string ⟨x.toArray⟩).toArray[i]?=_
 rw[List.getElem?_toArray,List.getElem?_map,List.getElem?_eq_getElem hl]
 rfl
def lowN(k:Nat):ByteArray:=⟨(Lib.toLowerA ((nmsL[k]?).getD [])).toArray⟩
def fldL(k:Nat):List (ByteArray×Value):=(List.range k).map fun i=>(lowN i,Value.bool true)
theorem fld_snoc(k:Nat):fldL (k+1)=fldL k++[(lowN k,.bool true)]:=by unfold fldL;rw[List.range_succ,List.map_append];rfl
theorem fld_new:∀k,k<12→lookS (fldL k) (lowN k)=none:=by decide+kernel
theorem nms_ascii:∀k,k<12→∀b∈(nmsL[k]?).getD [],b.toNat<128:=by decide+kernel
theorem lowN_run(k:Nat)(hk:k<12)(w:World):Calls Tryz.prog 31 #[.string ⟨((nmsL[k]?).getD []).toArray⟩] w fun e w'=>e=.returned (.string (lowN k))∧Bel w w':=by
 have:=Tryz.strings_ToLower_ascii ⟨((nmsL[k]?).getD []).toArray⟩ w (by
  rw[Lib.size_eq]
  have:∀k,k<12→((nmsL[k]?).getD []).length≤20:=by decide+kernel
  have:=this k hk
  show((nmsL[k]?).getD []).length≤_
  omega) (fun j b hb=>nms_ascii k hk b (List.mem_of_getElem? hb))
 exact this
end Go.Proofs.YtmlmkmhkmifnkaaGreatDoor.Tb