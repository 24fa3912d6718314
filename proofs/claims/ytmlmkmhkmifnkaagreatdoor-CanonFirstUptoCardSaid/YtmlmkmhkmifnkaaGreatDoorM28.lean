import Derived.Test.YtmlmkmhkmifnkaaGreatDoorM16
import Derived.Test.YtmlmkmhkmifnkaaGreatDoorM27
set_option maxHeartbeats 16000000
set_option maxRecDepth 1000000
namespace Go.Proofs.YtmlmkmhkmifnkaaGreatDoor.Tb
open Go.RowKit
open Ci (Bel Lay hid Aft wp_region_aft)
open Ma (Pt domainQ rightP mbQ zeroP ptC ptC_one ptC_range pt_size load_pt mbI_new MbI rdomain_run rMailbox_run wpList_store_blk byte_eq byte_ne)
theorem rcvalue_run(s:ByteArray)(w:World)(hs:s.size≤4000000):Calls Tryz.prog 35 #[.string s] w fun e w'=>e=.returned (VcV s.data.toList)∧Bel w w':=by
 have H0:=hid (mbI_new w)
 by_cases h:s.data.toList.head?=some 64
 ·have h0:0<s.size:=by
   rw[Lib.size_eq]
   cases hl:s.data.toList with
   |nil=>rw[hl]at h;cases h
   |cons b l=>simp
  have hb:s[0]=64:=by
   rw[bytes_cons h0]at h
   exact Option.some.inj h
  have c64:(((s[0]'h0).toNat:Int)==64)=true:=byte_eq (n:=64) (by decide) hb
  have hs1:(1:Int)≤(s.size:Int):=by omega
  have hp0:(0:Int)<(s.size:Int):=by omega
  clear hb
  have HD:=(show Hid (∀W,Calls Tryz.prog 33 #[.string (s.extract 1 s.size)] W fun e w'=>e=.returned (.tuple #[.string ⟨(domainQ (s.data.toList.drop 1)).1.toArray⟩,.bool (domainQ (s.data.toList.drop 1)).2.1,.int .i64 (domainQ (s.data.toList.drop 1)).2.2])∧Bel W w')from fun W=>by
   have:=rdomain_run (s.extract 1 s.size) W (by rw[ByteArray.size_extract];omega)
   rw[Lib.extract_to_end s 1]at this
   exact this)
  have HV:=hid (show VcV s.data.toList=.tuple #[.agg (ptC ⟨false,[],(domainQ (s.data.toList.drop 1)).1,false⟩).toArray,.bool true,.bool (decide ((domainQ (s.data.toList.drop 1)).2.2=0)&& !(domainQ (s.data.toList.drop 1)).2.1)] by unfold VcV valueC;rw[if_pos h])
  clear h
  rw[HV.out]
  generalize domainQ (s.data.toList.drop 1)=D at HD⊢
  obtain⟨d,lit,e⟩:=D
  simp only at HD⊢
  by_cases he:e=0
  ·subst he
   go_enter Tryz.func35,Tryz.ntmps35
   go_wp2_with (first|(go_at_call 33;refine(HD.out _).mono ?_;rintro e w2 ⟨rfl,hb2⟩;have HB2:=hid (H0.out.next hb2);clear hb2)|(refine wpList_store_blk rfl 26 (.tmp 2) (.tmp 26) rfl w.heap.size (ptC ⟨false,[],d,false⟩) rfl rfl pt_size (ptC_one _) (ptC zeroP) _ HB2.out.2 rfl ?_;intro w9 hc9 ho9 hs9 hb9;have HB9:=hid (hb9 w HB2.out.1 (Nat.le_refl _));have HC9:=hid hc9;clear ho9 hs9 hb9 hc9))
   have hl2:=load_pt (cs:=ptC ⟨false,[],d,false⟩) HC9.out rfl
   exact bodyPost_ret (v:=.tuple #[.agg (ptC ⟨false,[],d,false⟩).toArray,.bool true,.bool (!lit)]) (by simp[results,Tryz.results35,asAddr,hl2]) rfl ⟨by simp,HB9.out⟩
  ·have b1:(e==0)=false:=by simpa using he
   go_enter Tryz.func35,Tryz.ntmps35
   go_wp2_with (first|(go_at_call 33;refine(HD.out _).mono ?_;rintro e w2 ⟨rfl,hb2⟩;have HB2:=hid (H0.out.next hb2);clear hb2)|(refine wpList_store_blk rfl 26 (.tmp 2) (.tmp 26) rfl w.heap.size (ptC ⟨false,[],d,false⟩) rfl rfl pt_size (ptC_one _) (ptC zeroP) _ HB2.out.2 rfl ?_;intro w9 hc9 ho9 hs9 hb9;have HB9:=hid (hb9 w HB2.out.1 (Nat.le_refl _));have HC9:=hid hc9;clear ho9 hs9 hb9 hc9))
   have hl2:=load_pt (cs:=ptC ⟨false,[],d,false⟩) HC9.out rfl
   exact bodyPost_ret (v:=.tuple #[.agg (ptC ⟨false,[],d,false⟩).toArray,.bool true,.bool false]) (by simp[results,Tryz.results35,asAddr,hl2]) rfl ⟨by simp[he],HB9.out⟩
 ·have hcase:s.size=0∨∃h0:0<s.size,s[0]≠64:=by
   rcases Nat.eq_zero_or_pos s.size with h0|h0
   ·exact .inl h0
   ·refine .inr ⟨h0,fun e=>h ?_⟩
    rw[bytes_cons h0,e];rfl
  have HM:=(show Hid (∀W,Calls Tryz.prog 86 #[.string s] W fun e w'=>e=.returned (.tuple #[.agg (ptC (mbQ s.data.toList).1).toArray,.int .i64 (mbQ s.data.toList).2])∧Bel W w')from fun W=>rMailbox_run s W hs)
  have HV:=hid (show VcV s.data.toList=.tuple #[.agg (ptC (mbQ s.data.toList).1).toArray,.bool false,.bool (decide ((mbQ s.data.toList).2=0)&&(!(mbQ s.data.toList).1.null&& !(mbQ s.data.toList).1.dom.isEmpty))] by unfold VcV valueC;rw[if_neg h])
  clear h
  rw[HV.out]
  generalize mbQ s.data.toList=M at HM⊢
  obtain⟨p,e⟩:=M
  simp only at HM⊢
  rcases hcase with h0|⟨h0,hne⟩
  ·have hp0:¬(0:Int)<(s.size:Int):=by omega
   by_cases he:e=0
   ·subst he
    cases hn:p.null with
    |true=>
     have HFin:=hid (show(decide ((0:Int)=0)&&(!p.null&& !p.dom.isEmpty))=false by rw[hn];rfl)
     go_enter Tryz.func35,Tryz.ntmps35
     go_wp2_with (first|(go_at_call 86;refine(HM.out _).mono ?_;rintro _ w2 ⟨rfl,hb2⟩;have HB2:=hid (H0.out.next hb2);clear hb2)|(refine wpList_store_blk rfl 26 (.tmp 8) (.tmp 36) rfl w2.heap.size (ptC p) rfl rfl pt_size (ptC_one _) (ptC zeroP) _ (heap_alloc_new w2 _) rfl ?_;intro w9 hc9 ho9 hs9 hb9;have HB9:=hid (hb9 w2 ((Bel.refl w2).alloc _) (Nat.le_refl _));have HC9:=hid hc9;have hs9':=hs9;clear ho9 hb9 hc9))
     have k0:w9.cell? ⟨w2.heap.size,0,none⟩=some (.bool p.null):=by rw[Lib.cell_of_heap HC9.out];rfl
     have k2:w9.cell? ⟨w2.heap.size,2,none⟩=some (.string ⟨p.dom.toArray⟩):=by rw[Lib.cell_of_heap HC9.out];rfl
     rw[hn]at k0
     have k1:w9.cell? ⟨w2.heap.size,1,none⟩=some (.string ⟨p.loc.toArray⟩):=by rw[Lib.cell_of_heap HC9.out];rfl
     have k3:w9.cell? ⟨w2.heap.size,3,none⟩=some (.bool p.lit):=by rw[Lib.cell_of_heap HC9.out];rfl
     have hz9:=HB9.out.heap HB2.out.2
     have z0:w9.cell? ⟨w.heap.size,0,none⟩=some (.bool false):=by rw[Lib.cell_of_heap hz9];rfl
     have z1:w9.cell? ⟨w.heap.size,1,none⟩=some (.string ⟨#[]⟩):=by rw[Lib.cell_of_heap hz9];rfl
     have z2:w9.cell? ⟨w.heap.size,2,none⟩=some (.string ⟨#[]⟩):=by rw[Lib.cell_of_heap hz9];rfl
     have z3:w9.cell? ⟨w.heap.size,3,none⟩=some (.bool false):=by rw[Lib.cell_of_heap hz9];rfl
     have f0:w9.frozen? ⟨w.heap.size,0,none⟩=false:=Lib.frozen_of_heap hz9 0
     have f1:w9.frozen? ⟨w.heap.size,1,none⟩=false:=Lib.frozen_of_heap hz9 1
     have f2:w9.frozen? ⟨w.heap.size,2,none⟩=false:=Lib.frozen_of_heap hz9 2
     have f3:w9.frozen? ⟨w.heap.size,3,none⟩=false:=Lib.frozen_of_heap hz9 3
     have hltz:w.heap.size<w2.heap.size:=(Array.getElem?_eq_some_iff.1 HB2.out.2).1
     have hne1:¬w2.heap.size=w.heap.size:=by omega
     have hne2:¬w.heap.size=w2.heap.size:=by omega
     have HZ9:=hid hz9
     clear hz9
     go_region
     go_wp2_with fail
     have hs4:=pt_set HZ9.out (.bool p.null) (.string ⟨p.loc.toArray⟩) (.string ⟨p.dom.toArray⟩) (.bool p.lit)
     have hl2:=load_pt (w:=((((w9.setCell ⟨w.heap.size,0,none⟩ (.bool p.null)).setCell ⟨w.heap.size,1,none⟩ (.string ⟨p.loc.toArray⟩)).setCell ⟨w.heap.size,2,none⟩ (.string ⟨p.dom.toArray⟩)).setCell ⟨w.heap.size,3,none⟩ (.bool p.lit)).drew) (cs:=ptC p) hs4 rfl
     rw[hn]at hl2 hs4
     refine bodyPost_ret (v:=.tuple #[.agg (ptC p).toArray,.bool false,.bool false]) (by simp[results,Tryz.results35,asAddr,hl2]) rfl ⟨by simp,?_⟩
     exact(((((HB2.out.1.trans HB9.out).setCell (Nat.le_refl _) _).setCell (Nat.le_refl _) _).setCell (Nat.le_refl _) _).setCell (Nat.le_refl _) _).drew
    |false=>
     by_cases hd:p.dom=[]
     ·have d0:((⟨p.dom.toArray⟩:ByteArray).toList==[])=true:=by rw[ByteArray.toList_eq,hd];rfl
      have d1:(⟨p.dom.toArray⟩:ByteArray).toList=[]:=by rw[ByteArray.toList_eq,hd]
      have HFin:=hid (show(decide ((0:Int)=0)&&(!p.null&& !p.dom.isEmpty))=false by rw[hn,hd];rfl)
      go_enter Tryz.func35,Tryz.ntmps35
      go_wp2_with (first|(go_at_call 86;refine(HM.out _).mono ?_;rintro _ w2 ⟨rfl,hb2⟩;have HB2:=hid (H0.out.next hb2);clear hb2)|(refine wpList_store_blk rfl 26 (.tmp 8) (.tmp 36) rfl w2.heap.size (ptC p) rfl rfl pt_size (ptC_one _) (ptC zeroP) _ (heap_alloc_new w2 _) rfl ?_;intro w9 hc9 ho9 hs9 hb9;have HB9:=hid (hb9 w2 ((Bel.refl w2).alloc _) (Nat.le_refl _));have HC9:=hid hc9;have hs9':=hs9;clear ho9 hb9 hc9))
      have k0:w9.cell? ⟨w2.heap.size,0,none⟩=some (.bool p.null):=by rw[Lib.cell_of_heap HC9.out];rfl
      have k2:w9.cell? ⟨w2.heap.size,2,none⟩=some (.string ⟨p.dom.toArray⟩):=by rw[Lib.cell_of_heap HC9.out];rfl
      rw[hn]at k0
      have k1:w9.cell? ⟨w2.heap.size,1,none⟩=some (.string ⟨p.loc.toArray⟩):=by rw[Lib.cell_of_heap HC9.out];rfl
      have k3:w9.cell? ⟨w2.heap.size,3,none⟩=some (.bool p.lit):=by rw[Lib.cell_of_heap HC9.out];rfl
      have hz9:=HB9.out.heap HB2.out.2
      have z0:w9.cell? ⟨w.heap.size,0,none⟩=some (.bool false):=by rw[Lib.cell_of_heap hz9];rfl
      have z1:w9.cell? ⟨w.heap.size,1,none⟩=some (.string ⟨#[]⟩):=by rw[Lib.cell_of_heap hz9];rfl
      have z2:w9.cell? ⟨w.heap.size,2,none⟩=some (.string ⟨#[]⟩):=by rw[Lib.cell_of_heap hz9];rfl
      have z3:w9.cell? ⟨w.heap.size,3,none⟩=some (.bool false):=by rw[Lib.cell_of_heap hz9];rfl
      have f0:w9.frozen? ⟨w.heap.size,0,none⟩=false:=Lib.frozen_of_heap hz9 0
      have f1:w9.frozen? ⟨w.heap.size,1,none⟩=false:=Lib.frozen_of_heap hz9 1
      have f2:w9.frozen? ⟨w.heap.size,2,none⟩=false:=Lib.frozen_of_heap hz9 2
      have f3:w9.frozen? ⟨w.heap.size,3,none⟩=false:=Lib.frozen_of_heap hz9 3
      have hltz:w.heap.size<w2.heap.size:=(Array.getElem?_eq_some_iff.1 HB2.out.2).1
      have hne1:¬w2.heap.size=w.heap.size:=by omega
      have hne2:¬w.heap.size=w2.heap.size:=by omega
      have HZ9:=hid hz9
      clear hz9
      go_region
      go_wp2_with fail
      have hs4:=pt_set HZ9.out (.bool p.null) (.string ⟨p.loc.toArray⟩) (.string ⟨p.dom.toArray⟩) (.bool p.lit)
      have hl2:=load_pt (w:=((((w9.setCell ⟨w.heap.size,0,none⟩ (.bool p.null)).setCell ⟨w.heap.size,1,none⟩ (.string ⟨p.loc.toArray⟩)).setCell ⟨w.heap.size,2,none⟩ (.string ⟨p.dom.toArray⟩)).setCell ⟨w.heap.size,3,none⟩ (.bool p.lit)).drew) (cs:=ptC p) hs4 rfl
      rw[hn]at hl2 hs4
      rw[hd]at hl2
      refine bodyPost_ret (v:=.tuple #[.agg (ptC p).toArray,.bool false,.bool false]) (by simp[results,Tryz.results35,asAddr,hl2]) rfl ⟨by simp[hd],?_⟩
      exact(((((HB2.out.1.trans HB9.out).setCell (Nat.le_refl _) _).setCell (Nat.le_refl _) _).setCell (Nat.le_refl _) _).setCell (Nat.le_refl _) _).drew
     ·have d1:¬(⟨p.dom.toArray⟩:ByteArray).toList=[]:=by rw[ByteArray.toList_eq];exact hd
      have d0:((⟨p.dom.toArray⟩:ByteArray).toList==[])=false:=by simpa using d1
      have HFin:=hid (show(decide ((0:Int)=0)&&(!p.null&& !p.dom.isEmpty))=true by
       rw[hn]
       cases hx:p.dom with
       |nil=>exact absurd hx hd
       |cons b l=>rfl)
      go_enter Tryz.func35,Tryz.ntmps35
      go_wp2_with (first|(go_at_call 86;refine(HM.out _).mono ?_;rintro _ w2 ⟨rfl,hb2⟩;have HB2:=hid (H0.out.next hb2);clear hb2)|(refine wpList_store_blk rfl 26 (.tmp 8) (.tmp 36) rfl w2.heap.size (ptC p) rfl rfl pt_size (ptC_one _) (ptC zeroP) _ (heap_alloc_new w2 _) rfl ?_;intro w9 hc9 ho9 hs9 hb9;have HB9:=hid (hb9 w2 ((Bel.refl w2).alloc _) (Nat.le_refl _));have HC9:=hid hc9;have hs9':=hs9;clear ho9 hb9 hc9))
      have k0:w9.cell? ⟨w2.heap.size,0,none⟩=some (.bool p.null):=by rw[Lib.cell_of_heap HC9.out];rfl
      have k2:w9.cell? ⟨w2.heap.size,2,none⟩=some (.string ⟨p.dom.toArray⟩):=by rw[Lib.cell_of_heap HC9.out];rfl
      rw[hn]at k0
      have k1:w9.cell? ⟨w2.heap.size,1,none⟩=some (.string ⟨p.loc.toArray⟩):=by rw[Lib.cell_of_heap HC9.out];rfl
      have k3:w9.cell? ⟨w2.heap.size,3,none⟩=some (.bool p.lit):=by rw[Lib.cell_of_heap HC9.out];rfl
      have hz9:=HB9.out.heap HB2.out.2
      have z0:w9.cell? ⟨w.heap.size,0,none⟩=some (.bool false):=by rw[Lib.cell_of_heap hz9];rfl
      have z1:w9.cell? ⟨w.heap.size,1,none⟩=some (.string ⟨#[]⟩):=by rw[Lib.cell_of_heap hz9];rfl
      have z2:w9.cell? ⟨w.heap.size,2,none⟩=some (.string ⟨#[]⟩):=by rw[Lib.cell_of_heap hz9];rfl
      have z3:w9.cell? ⟨w.heap.size,3,none⟩=some (.bool false):=by rw[Lib.cell_of_heap hz9];rfl
      have f0:w9.frozen? ⟨w.heap.size,0,none⟩=false:=Lib.frozen_of_heap hz9 0
      have f1:w9.frozen? ⟨w.heap.size,1,none⟩=false:=Lib.frozen_of_heap hz9 1
      have f2:w9.frozen? ⟨w.heap.size,2,none⟩=false:=Lib.frozen_of_heap hz9 2
      have f3:w9.frozen? ⟨w.heap.size,3,none⟩=false:=Lib.frozen_of_heap hz9 3
      have hltz:w.heap.size<w2.heap.size:=(Array.getElem?_eq_some_iff.1 HB2.out.2).1
      have hne1:¬w2.heap.size=w.heap.size:=by omega
      have hne2:¬w.heap.size=w2.heap.size:=by omega
      have HZ9:=hid hz9
      clear hz9
      go_region
      go_wp2_with fail
      have hs4:=pt_set HZ9.out (.bool p.null) (.string ⟨p.loc.toArray⟩) (.string ⟨p.dom.toArray⟩) (.bool p.lit)
      have hl2:=load_pt (w:=((((w9.setCell ⟨w.heap.size,0,none⟩ (.bool p.null)).setCell ⟨w.heap.size,1,none⟩ (.string ⟨p.loc.toArray⟩)).setCell ⟨w.heap.size,2,none⟩ (.string ⟨p.dom.toArray⟩)).setCell ⟨w.heap.size,3,none⟩ (.bool p.lit)).drew) (cs:=ptC p) hs4 rfl
      rw[hn]at hl2 hs4
      refine bodyPost_ret (v:=.tuple #[.agg (ptC p).toArray,.bool false,.bool true]) (by simp[results,Tryz.results35,asAddr,hl2,hd]) rfl ⟨by simp[hd],?_⟩
      exact(((((HB2.out.1.trans HB9.out).setCell (Nat.le_refl _) _).setCell (Nat.le_refl _) _).setCell (Nat.le_refl _) _).setCell (Nat.le_refl _) _).drew
   ·have b1:(e==0)=false:=by simpa using he
    have HFin:=hid (show(decide (e=0)&&(!p.null&& !p.dom.isEmpty))=false by rw[decide_eq_false he];rfl)
    go_enter Tryz.func35,Tryz.ntmps35
    go_wp2_with (first|(go_at_call 86;refine(HM.out _).mono ?_;rintro _ w2 ⟨rfl,hb2⟩;have HB2:=hid (H0.out.next hb2);clear hb2)|(refine wpList_store_blk rfl 26 (.tmp 8) (.tmp 36) rfl w2.heap.size (ptC p) rfl rfl pt_size (ptC_one _) (ptC zeroP) _ (heap_alloc_new w2 _) rfl ?_;intro w9 hc9 ho9 hs9 hb9;have HB9:=hid (hb9 w2 ((Bel.refl w2).alloc _) (Nat.le_refl _));have HC9:=hid hc9;have hs9':=hs9;clear ho9 hb9 hc9))
    have k0:w9.cell? ⟨w2.heap.size,0,none⟩=some (.bool p.null):=by rw[Lib.cell_of_heap HC9.out];rfl
    have k2:w9.cell? ⟨w2.heap.size,2,none⟩=some (.string ⟨p.dom.toArray⟩):=by rw[Lib.cell_of_heap HC9.out];rfl
    have k1:w9.cell? ⟨w2.heap.size,1,none⟩=some (.string ⟨p.loc.toArray⟩):=by rw[Lib.cell_of_heap HC9.out];rfl
    have k3:w9.cell? ⟨w2.heap.size,3,none⟩=some (.bool p.lit):=by rw[Lib.cell_of_heap HC9.out];rfl
    have hz9:=HB9.out.heap HB2.out.2
    have z0:w9.cell? ⟨w.heap.size,0,none⟩=some (.bool false):=by rw[Lib.cell_of_heap hz9];rfl
    have z1:w9.cell? ⟨w.heap.size,1,none⟩=some (.string ⟨#[]⟩):=by rw[Lib.cell_of_heap hz9];rfl
    have z2:w9.cell? ⟨w.heap.size,2,none⟩=some (.string ⟨#[]⟩):=by rw[Lib.cell_of_heap hz9];rfl
    have z3:w9.cell? ⟨w.heap.size,3,none⟩=some (.bool false):=by rw[Lib.cell_of_heap hz9];rfl
    have f0:w9.frozen? ⟨w.heap.size,0,none⟩=false:=Lib.frozen_of_heap hz9 0
    have f1:w9.frozen? ⟨w.heap.size,1,none⟩=false:=Lib.frozen_of_heap hz9 1
    have f2:w9.frozen? ⟨w.heap.size,2,none⟩=false:=Lib.frozen_of_heap hz9 2
    have f3:w9.frozen? ⟨w.heap.size,3,none⟩=false:=Lib.frozen_of_heap hz9 3
    have hltz:w.heap.size<w2.heap.size:=(Array.getElem?_eq_some_iff.1 HB2.out.2).1
    have hne1:¬w2.heap.size=w.heap.size:=by omega
    have hne2:¬w.heap.size=w2.heap.size:=by omega
    have HZ9:=hid hz9
    clear hz9
    go_region
    go_wp2_with fail
    have hs4:=pt_set HZ9.out (.bool p.null) (.string ⟨p.loc.toArray⟩) (.string ⟨p.dom.toArray⟩) (.bool p.lit)
    have hl2:=load_pt (w:=((((w9.setCell ⟨w.heap.size,0,none⟩ (.bool p.null)).setCell ⟨w.heap.size,1,none⟩ (.string ⟨p.loc.toArray⟩)).setCell ⟨w.heap.size,2,none⟩ (.string ⟨p.dom.toArray⟩)).setCell ⟨w.heap.size,3,none⟩ (.bool p.lit)).drew) (cs:=ptC p) hs4 rfl
    skip
    refine bodyPost_ret (v:=.tuple #[.agg (ptC p).toArray,.bool false,.bool false]) (by simp[results,Tryz.results35,asAddr,hl2]) rfl ⟨by simp[he],?_⟩
    exact(((((HB2.out.1.trans HB9.out).setCell (Nat.le_refl _) _).setCell (Nat.le_refl _) _).setCell (Nat.le_refl _) _).setCell (Nat.le_refl _) _).drew
  ·have hp0:(0:Int)<(s.size:Int):=by omega
   have c64:(((s[0]'h0).toNat:Int)==64)=false:=byte_ne (n:=64) (by decide) hne
   have c64':¬((s[0]'h0).toNat:Int)=64:=by rw[beq_eq_false_iff_ne]at c64;exact c64
   clear hne
   by_cases he:e=0
   ·subst he
    cases hn:p.null with
    |true=>
     have HFin:=hid (show(decide ((0:Int)=0)&&(!p.null&& !p.dom.isEmpty))=false by rw[hn];rfl)
     go_enter Tryz.func35,Tryz.ntmps35
     go_wp2_with (first|(go_at_call 86;refine(HM.out _).mono ?_;rintro _ w2 ⟨rfl,hb2⟩;have HB2:=hid (H0.out.next hb2);clear hb2)|(refine wpList_store_blk rfl 26 (.tmp 8) (.tmp 36) rfl w2.heap.size (ptC p) rfl rfl pt_size (ptC_one _) (ptC zeroP) _ (heap_alloc_new w2 _) rfl ?_;intro w9 hc9 ho9 hs9 hb9;have HB9:=hid (hb9 w2 ((Bel.refl w2).alloc _) (Nat.le_refl _));have HC9:=hid hc9;have hs9':=hs9;clear ho9 hb9 hc9))
     have k0:w9.cell? ⟨w2.heap.size,0,none⟩=some (.bool p.null):=by rw[Lib.cell_of_heap HC9.out];rfl
     have k2:w9.cell? ⟨w2.heap.size,2,none⟩=some (.string ⟨p.dom.toArray⟩):=by rw[Lib.cell_of_heap HC9.out];rfl
     rw[hn]at k0
     have k1:w9.cell? ⟨w2.heap.size,1,none⟩=some (.string ⟨p.loc.toArray⟩):=by rw[Lib.cell_of_heap HC9.out];rfl
     have k3:w9.cell? ⟨w2.heap.size,3,none⟩=some (.bool p.lit):=by rw[Lib.cell_of_heap HC9.out];rfl
     have hz9:=HB9.out.heap HB2.out.2
     have z0:w9.cell? ⟨w.heap.size,0,none⟩=some (.bool false):=by rw[Lib.cell_of_heap hz9];rfl
     have z1:w9.cell? ⟨w.heap.size,1,none⟩=some (.string ⟨#[]⟩):=by rw[Lib.cell_of_heap hz9];rfl
     have z2:w9.cell? ⟨w.heap.size,2,none⟩=some (.string ⟨#[]⟩):=by rw[Lib.cell_of_heap hz9];rfl
     have z3:w9.cell? ⟨w.heap.size,3,none⟩=some (.bool false):=by rw[Lib.cell_of_heap hz9];rfl
     have f0:w9.frozen? ⟨w.heap.size,0,none⟩=false:=Lib.frozen_of_heap hz9 0
     have f1:w9.frozen? ⟨w.heap.size,1,none⟩=false:=Lib.frozen_of_heap hz9 1
     have f2:w9.frozen? ⟨w.heap.size,2,none⟩=false:=Lib.frozen_of_heap hz9 2
     have f3:w9.frozen? ⟨w.heap.size,3,none⟩=false:=Lib.frozen_of_heap hz9 3
     have hltz:w.heap.size<w2.heap.size:=(Array.getElem?_eq_some_iff.1 HB2.out.2).1
     have hne1:¬w2.heap.size=w.heap.size:=by omega
     have hne2:¬w.heap.size=w2.heap.size:=by omega
     have HZ9:=hid hz9
     clear hz9
     go_region
     go_wp2_with fail
     have hs4:=pt_set HZ9.out (.bool p.null) (.string ⟨p.loc.toArray⟩) (.string ⟨p.dom.toArray⟩) (.bool p.lit)
     have hl2:=load_pt (w:=((((w9.setCell ⟨w.heap.size,0,none⟩ (.bool p.null)).setCell ⟨w.heap.size,1,none⟩ (.string ⟨p.loc.toArray⟩)).setCell ⟨w.heap.size,2,none⟩ (.string ⟨p.dom.toArray⟩)).setCell ⟨w.heap.size,3,none⟩ (.bool p.lit)).drew) (cs:=ptC p) hs4 rfl
     rw[hn]at hl2 hs4
     refine bodyPost_ret (v:=.tuple #[.agg (ptC p).toArray,.bool false,.bool false]) (by simp[results,Tryz.results35,asAddr,hl2]) rfl ⟨by simp,?_⟩
     exact(((((HB2.out.1.trans HB9.out).setCell (Nat.le_refl _) _).setCell (Nat.le_refl _) _).setCell (Nat.le_refl _) _).setCell (Nat.le_refl _) _).drew
    |false=>
     by_cases hd:p.dom=[]
     ·have d0:((⟨p.dom.toArray⟩:ByteArray).toList==[])=true:=by rw[ByteArray.toList_eq,hd];rfl
      have d1:(⟨p.dom.toArray⟩:ByteArray).toList=[]:=by rw[ByteArray.toList_eq,hd]
      have HFin:=hid (show(decide ((0:Int)=0)&&(!p.null&& !p.dom.isEmpty))=false by rw[hn,hd];rfl)
      go_enter Tryz.func35,Tryz.ntmps35
      go_wp2_with (first|(go_at_call 86;refine(HM.out _).mono ?_;rintro _ w2 ⟨rfl,hb2⟩;have HB2:=hid (H0.out.next hb2);clear hb2)|(refine wpList_store_blk rfl 26 (.tmp 8) (.tmp 36) rfl w2.heap.size (ptC p) rfl rfl pt_size (ptC_one _) (ptC zeroP) _ (heap_alloc_new w2 _) rfl ?_;intro w9 hc9 ho9 hs9 hb9;have HB9:=hid (hb9 w2 ((Bel.refl w2).alloc _) (Nat.le_refl _));have HC9:=hid hc9;have hs9':=hs9;clear ho9 hb9 hc9))
      have k0:w9.cell? ⟨w2.heap.size,0,none⟩=some (.bool p.null):=by rw[Lib.cell_of_heap HC9.out];rfl
      have k2:w9.cell? ⟨w2.heap.size,2,none⟩=some (.string ⟨p.dom.toArray⟩):=by rw[Lib.cell_of_heap HC9.out];rfl
      rw[hn]at k0
      have k1:w9.cell? ⟨w2.heap.size,1,none⟩=some (.string ⟨p.loc.toArray⟩):=by rw[Lib.cell_of_heap HC9.out];rfl
      have k3:w9.cell? ⟨w2.heap.size,3,none⟩=some (.bool p.lit):=by rw[Lib.cell_of_heap HC9.out];rfl
      have hz9:=HB9.out.heap HB2.out.2
      have z0:w9.cell? ⟨w.heap.size,0,none⟩=some (.bool false):=by rw[Lib.cell_of_heap hz9];rfl
      have z1:w9.cell? ⟨w.heap.size,1,none⟩=some (.string ⟨#[]⟩):=by rw[Lib.cell_of_heap hz9];rfl
      have z2:w9.cell? ⟨w.heap.size,2,none⟩=some (.string ⟨#[]⟩):=by rw[Lib.cell_of_heap hz9];rfl
      have z3:w9.cell? ⟨w.heap.size,3,none⟩=some (.bool false):=by rw[Lib.cell_of_heap hz9];rfl
      have f0:w9.frozen? ⟨w.heap.size,0,none⟩=false:=Lib.frozen_of_heap hz9 0
      have f1:w9.frozen? ⟨w.heap.size,1,none⟩=false:=Lib.frozen_of_heap hz9 1
      have f2:w9.frozen? ⟨w.heap.size,2,none⟩=false:=Lib.frozen_of_heap hz9 2
      have f3:w9.frozen? ⟨w.heap.size,3,none⟩=false:=Lib.frozen_of_heap hz9 3
      have hltz:w.heap.size<w2.heap.size:=(Array.getElem?_eq_some_iff.1 HB2.out.2).1
      have hne1:¬w2.heap.size=w.heap.size:=by omega
      have hne2:¬w.heap.size=w2.heap.size:=by omega
      have HZ9:=hid hz9
      clear hz9
      go_region
      go_wp2_with fail
      have hs4:=pt_set HZ9.out (.bool p.null) (.string ⟨p.loc.toArray⟩) (.string ⟨p.dom.toArray⟩) (.bool p.lit)
      have hl2:=load_pt (w:=((((w9.setCell ⟨w.heap.size,0,none⟩ (.bool p.null)).setCell ⟨w.heap.size,1,none⟩ (.string ⟨p.loc.toArray⟩)).setCell ⟨w.heap.size,2,none⟩ (.string ⟨p.dom.toArray⟩)).setCell ⟨w.heap.size,3,none⟩ (.bool p.lit)).drew) (cs:=ptC p) hs4 rfl
      rw[hn]at hl2 hs4
      rw[hd]at hl2
      refine bodyPost_ret (v:=.tuple #[.agg (ptC p).toArray,.bool false,.bool false]) (by simp[results,Tryz.results35,asAddr,hl2]) rfl ⟨by simp[hd],?_⟩
      exact(((((HB2.out.1.trans HB9.out).setCell (Nat.le_refl _) _).setCell (Nat.le_refl _) _).setCell (Nat.le_refl _) _).setCell (Nat.le_refl _) _).drew
     ·have d1:¬(⟨p.dom.toArray⟩:ByteArray).toList=[]:=by rw[ByteArray.toList_eq];exact hd
      have d0:((⟨p.dom.toArray⟩:ByteArray).toList==[])=false:=by simpa using d1
      have HFin:=hid (show(decide ((0:Int)=0)&&(!p.null&& !p.dom.isEmpty))=true by
       rw[hn]
       cases hx:p.dom with
       |nil=>exact absurd hx hd
       |cons b l=>rfl)
      go_enter Tryz.func35,Tryz.ntmps35
      go_wp2_with (first|(go_at_call 86;refine(HM.out _).mono ?_;rintro _ w2 ⟨rfl,hb2⟩;have HB2:=hid (H0.out.next hb2);clear hb2)|(refine wpList_store_blk rfl 26 (.tmp 8) (.tmp 36) rfl w2.heap.size (ptC p) rfl rfl pt_size (ptC_one _) (ptC zeroP) _ (heap_alloc_new w2 _) rfl ?_;intro w9 hc9 ho9 hs9 hb9;have HB9:=hid (hb9 w2 ((Bel.refl w2).alloc _) (Nat.le_refl _));have HC9:=hid hc9;have hs9':=hs9;clear ho9 hb9 hc9))
      have k0:w9.cell? ⟨w2.heap.size,0,none⟩=some (.bool p.null):=by rw[Lib.cell_of_heap HC9.out];rfl
      have k2:w9.cell? ⟨w2.heap.size,2,none⟩=some (.string ⟨p.dom.toArray⟩):=by rw[Lib.cell_of_heap HC9.out];rfl
      rw[hn]at k0
      have k1:w9.cell? ⟨w2.heap.size,1,none⟩=some (.string ⟨p.loc.toArray⟩):=by rw[Lib.cell_of_heap HC9.out];rfl
      have k3:w9.cell? ⟨w2.heap.size,3,none⟩=some (.bool p.lit):=by rw[Lib.cell_of_heap HC9.out];rfl
      have hz9:=HB9.out.heap HB2.out.2
      have z0:w9.cell? ⟨w.heap.size,0,none⟩=some (.bool false):=by rw[Lib.cell_of_heap hz9];rfl
      have z1:w9.cell? ⟨w.heap.size,1,none⟩=some (.string ⟨#[]⟩):=by rw[Lib.cell_of_heap hz9];rfl
      have z2:w9.cell? ⟨w.heap.size,2,none⟩=some (.string ⟨#[]⟩):=by rw[Lib.cell_of_heap hz9];rfl
      have z3:w9.cell? ⟨w.heap.size,3,none⟩=some (.bool false):=by rw[Lib.cell_of_heap hz9];rfl
      have f0:w9.frozen? ⟨w.heap.size,0,none⟩=false:=Lib.frozen_of_heap hz9 0
      have f1:w9.frozen? ⟨w.heap.size,1,none⟩=false:=Lib.frozen_of_heap hz9 1
      have f2:w9.frozen? ⟨w.heap.size,2,none⟩=false:=Lib.frozen_of_heap hz9 2
      have f3:w9.frozen? ⟨w.heap.size,3,none⟩=false:=Lib.frozen_of_heap hz9 3
      have hltz:w.heap.size<w2.heap.size:=(Array.getElem?_eq_some_iff.1 HB2.out.2).1
      have hne1:¬w2.heap.size=w.heap.size:=by omega
      have hne2:¬w.heap.size=w2.heap.size:=by omega
      have HZ9:=hid hz9
      clear hz9
      go_region
      go_wp2_with fail
      have hs4:=pt_set HZ9.out (.bool p.null) (.string ⟨p.loc.toArray⟩) (.string ⟨p.dom.toArray⟩) (.bool p.lit)
      have hl2:=load_pt (w:=((((w9.setCell ⟨w.heap.size,0,none⟩ (.bool p.null)).setCell ⟨w.heap.size,1,none⟩ (.string ⟨p.loc.toArray⟩)).setCell ⟨w.heap.size,2,none⟩ (.string ⟨p.dom.toArray⟩)).setCell ⟨w.heap.size,3,none⟩ (.bool p.lit)).drew) (cs:=ptC p) hs4 rfl
      rw[hn]at hl2 hs4
      refine bodyPost_ret (v:=.tuple #[.agg (ptC p).toArray,.bool false,.bool true]) (by simp[results,Tryz.results35,asAddr,hl2,hd]) rfl ⟨by simp[hd],?_⟩
      exact(((((HB2.out.1.trans HB9.out).setCell (Nat.le_refl _) _).setCell (Nat.le_refl _) _).setCell (Nat.le_refl _) _).setCell (Nat.le_refl _) _).drew
   ·have b1:(e==0)=false:=by simpa using he
    have HFin:=hid (show(decide (e=0)&&(!p.null&& !p.dom.isEmpty))=false by rw[decide_eq_false he];rfl)
    go_enter Tryz.func35,Tryz.ntmps35
    go_wp2_with (first|(go_at_call 86;refine(HM.out _).mono ?_;rintro _ w2 ⟨rfl,hb2⟩;have HB2:=hid (H0.out.next hb2);clear hb2)|(refine wpList_store_blk rfl 26 (.tmp 8) (.tmp 36) rfl w2.heap.size (ptC p) rfl rfl pt_size (ptC_one _) (ptC zeroP) _ (heap_alloc_new w2 _) rfl ?_;intro w9 hc9 ho9 hs9 hb9;have HB9:=hid (hb9 w2 ((Bel.refl w2).alloc _) (Nat.le_refl _));have HC9:=hid hc9;have hs9':=hs9;clear ho9 hb9 hc9))
    have k0:w9.cell? ⟨w2.heap.size,0,none⟩=some (.bool p.null):=by rw[Lib.cell_of_heap HC9.out];rfl
    have k2:w9.cell? ⟨w2.heap.size,2,none⟩=some (.string ⟨p.dom.toArray⟩):=by rw[Lib.cell_of_heap HC9.out];rfl
    have k1:w9.cell? ⟨w2.heap.size,1,none⟩=some (.string ⟨p.loc.toArray⟩):=by rw[Lib.cell_of_heap HC9.out];rfl
    have k3:w9.cell? ⟨w2.heap.size,3,none⟩=some (.bool p.lit):=by rw[Lib.cell_of_heap HC9.out];rfl
    have hz9:=HB9.out.heap HB2.out.2
    have z0:w9.cell? ⟨w.heap.size,0,none⟩=some (.bool false):=by rw[Lib.cell_of_heap hz9];rfl
    have z1:w9.cell? ⟨w.heap.size,1,none⟩=some (.string ⟨#[]⟩):=by rw[Lib.cell_of_heap hz9];rfl
    have z2:w9.cell? ⟨w.heap.size,2,none⟩=some (.string ⟨#[]⟩):=by rw[Lib.cell_of_heap hz9];rfl
    have z3:w9.cell? ⟨w.heap.size,3,none⟩=some (.bool false):=by rw[Lib.cell_of_heap hz9];rfl
    have f0:w9.frozen? ⟨w.heap.size,0,none⟩=false:=Lib.frozen_of_heap hz9 0
    have f1:w9.frozen? ⟨w.heap.size,1,none⟩=false:=Lib.frozen_of_heap hz9 1
    have f2:w9.frozen? ⟨w.heap.size,2,none⟩=false:=Lib.frozen_of_heap hz9 2
    have f3:w9.frozen? ⟨w.heap.size,3,none⟩=false:=Lib.frozen_of_heap hz9 3
    have hltz:w.heap.size<w2.heap.size:=(Array.getElem?_eq_some_iff.1 HB2.out.2).1
    have hne1:¬w2.heap.size=w.heap.size:=by omega
    have hne2:¬w.heap.size=w2.heap.size:=by omega
    have HZ9:=hid hz9
    clear hz9
    go_region
    go_wp2_with fail
    have hs4:=pt_set HZ9.out (.bool p.null) (.string ⟨p.loc.toArray⟩) (.string ⟨p.dom.toArray⟩) (.bool p.lit)
    have hl2:=load_pt (w:=((((w9.setCell ⟨w.heap.size,0,none⟩ (.bool p.null)).setCell ⟨w.heap.size,1,none⟩ (.string ⟨p.loc.toArray⟩)).setCell ⟨w.heap.size,2,none⟩ (.string ⟨p.dom.toArray⟩)).setCell ⟨w.heap.size,3,none⟩ (.bool p.lit)).drew) (cs:=ptC p) hs4 rfl
    skip
    refine bodyPost_ret (v:=.tuple #[.agg (ptC p).toArray,.bool false,.bool false]) (by simp[results,Tryz.results35,asAddr,hl2]) rfl ⟨by simp[he],?_⟩
    exact(((((HB2.out.1.trans HB9.out).setCell (Nat.le_refl _) _).setCell (Nat.le_refl _) _).setCell (Nat.le_refl _) _).setCell (Nat.le_refl _) _).drew
end Go.Proofs.YtmlmkmhkmifnkaaGreatDoor.Tb
namespace Go.Proofs.YtmlmkmhkmifnkaaGreatDoor.Tb
open Go.RowKit
open Ci (Bel hid Lay)
open Ma (byte_eq byte_ne)
theorem rblank_run(b:UInt8)(w:World):Calls Tryz.prog 153 #[.int .u8 (b.toNat:Int)] w fun e w'=>e=.returned (.bool (isBl b))∧w'=w:=by
 have HX:=hid (show isBl b=((b==32)||(b==9)) by unfold isBl bl2;rw[List.contains_cons,List.contains_cons,List.contains_nil,Bool.or_false])
 generalize hr:isBl b=r at HX
 clear hr
 by_cases h1:b=32
 ·have c1:((b.toNat:Int)==32)=true:=byte_eq (n:=32) (by decide) h1
  have HY:=hid (show r=true by rw[HX.out,h1];rfl)
  clear h1
  go_enter Tryz.func153,Tryz.ntmps153
  go_wp2_with fail
  go_ret
  exact⟨by rw[HY.out];rfl,rfl⟩
 ·have c1:((b.toNat:Int)==32)=false:=byte_ne (n:=32) (by decide) h1
  by_cases h2:b=9
  ·have c2:((b.toNat:Int)==9)=true:=byte_eq (n:=9) (by decide) h2
   have HY:=hid (show r=true by rw[HX.out,h2];rfl)
   clear h1 h2
   go_enter Tryz.func153,Tryz.ntmps153
   go_wp2_with fail
   go_ret
   exact⟨by rw[HY.out];rfl,rfl⟩
  ·have c2:((b.toNat:Int)==9)=false:=byte_ne (n:=9) (by decide) h2
   have HY:=hid (show r=false by rw[HX.out,beq_eq_false_iff_ne.2 h1,beq_eq_false_iff_ne.2 h2];rfl)
   clear h1 h2
   go_enter Tryz.func153,Tryz.ntmps153
   go_wp2_with fail
   go_ret
   exact⟨by rw[HY.out];rfl,rfl⟩
theorem inner_stop{x:ByteArray}(h:∀h0:0<x.size,isBl x[0]=false):innerL x.data.toList=x.data.toList:=by
 by_cases h0:0<x.size
 ·rw[bytes_cons h0,trimL_neg (h h0)]
 ·have:x.data.toList=[]:=List.eq_nil_of_length_eq_zero (by rw[←Lib.size_eq];omega)
  rw[this];rfl
theorem right_stop{x:ByteArray}(h:∀h0:x.size-1<x.size,isBl x[x.size-1]=false):Lib.trimRightS x.data.toList bl2=x.data.toList:=by
 by_cases h0:0<x.size
 ·rw[bytes_snoc h0,trimR_neg (h (by omega))]
 ·have:x.data.toList=[]:=List.eq_nil_of_length_eq_zero (by rw[←Lib.size_eq];omega)
  rw[this];rfl
theorem rtrim_run(s:ByteArray)(w:World)(hs:s.size<9223372036854775807):Calls Tryz.prog 152 #[.string s] w fun e w'=>e=.returned (.string ⟨(trm s.data.toList).toArray⟩)∧w'=w:=by
 have HB:=(show Hid (∀(b:UInt8) W,Calls Tryz.prog 153 #[.int .u8 (b.toNat:Int)] W fun e w'=>e=.returned (.bool (isBl b))∧w'=W)from fun b W=>rblank_run b W)
 have HT:=hid (trm_alt s.data.toList)
 generalize trm s.data.toList=T at HT
 go_enter Tryz.func152,Tryz.ntmps152
 go_wp2_with fail
 go_loopg [0] s.size (fun gg v0 wr=>∃x:ByteArray,v0=.string x∧x.size≤s.size∧Hid (x.size=gg)∧Hid (wr=w∧innerL x.data.toList=innerL s.data.toList))
 case atStart=>exact⟨s,rfl,Nat.le_refl _,hid rfl,hid ⟨rfl,rfl⟩⟩
 case round=>
  obtain⟨x,rfl,hx,HG,H⟩:=hrel
  by_cases h0:0<x.size
  ·have b0:decide ((0:Int)<(x.size:Int))=true:=decide_eq_true (by omega)
   have HB1:=(show Hid (∀W,Calls Tryz.prog 153 #[.int .u8 ((x[0]'h0).toNat:Int)] W fun e w'=>e=.returned (.bool (isBl x[0]))∧w'=W)from fun W=>HB.out _ W)
   cases hb:isBl x[0]with
   |true=>
    rw[hb]at HB1
    have HN:=hid (show innerL (x.extract 1 x.size).data.toList=innerL s.data.toList by rw[←H.out.2,bytes_cons h0,trimL_pos hb])
    have HZ:=hid (show(x.extract 1 x.size).size+1=x.size by rw[ByteArray.size_extract];omega)
    clear hb
    go_wp2_with (first|(go_at_call 153;refine(HB1.out _).mono ?_;rintro e w1 ⟨rfl,h1⟩;have h1:=h1.symm;subst h1))
    go_roundg (gk-1)
    case measure=>have:=HG.out;omega
    case rel=>exact⟨x.extract 1 x.size,rfl,by have:=HZ.out;omega,hid (by have:=HZ.out;have:=HG.out;omega),hid ⟨H.out.1,HN.out⟩⟩
   |false=>
    rw[hb]at HB1
    have HS:=hid (inner_stop (x:=x) fun _=>hb)
    clear hb
    go_wp2_with (first|(go_at_call 153;refine(HB1.out _).mono ?_;rintro e w1 ⟨rfl,h1⟩;have h1:=h1.symm;subst h1))
    have HT2:=hid (show T=Lib.trimRightS x.data.toList bl2 by rw[HT.out,←H.out.2,HS.out])
    obtain⟨wz,hwz⟩:∃wz,wz=wr:=⟨_,rfl⟩
    have HWZ:=hid (show wz=w by rw[hwz];exact H.out.1)
    rw[←hwz]
    clear hwz
    go_loopg [0] x.size (fun gg v0 wr=>∃y:ByteArray,v0=.string y∧y.size≤x.size∧Hid (y.size=gg)∧Hid (wr=wz∧T=Lib.trimRightS y.data.toList bl2))
    case atStart=>exact⟨x,rfl,Nat.le_refl _,hid rfl,hid ⟨rfl,HT2.out⟩⟩
    case round=>
     obtain⟨y,rfl,hy,HGy,Hy⟩:=hrel
     by_cases k0:0<y.size
     ·have b1:decide ((0:Int)<(y.size:Int))=true:=decide_eq_true (by omega)
      have hlm:y.size-1<y.size:=by omega
      have hix:(1:Int)≤(y.size:Int)∧(y.size:Int)-1<(y.size:Int):=⟨by omega,by omega⟩
      have HB2:=(show Hid (∀W,Calls Tryz.prog 153 #[.int .u8 ((y[y.size-1]'hlm).toNat:Int)] W fun e w'=>e=.returned (.bool (isBl y[y.size-1]))∧w'=W)from fun W=>HB.out _ W)
      cases hb2:isBl y[y.size-1]with
      |true=>
       rw[hb2]at HB2
       have HN2:=hid (show T=Lib.trimRightS (y.extract 0 (y.size-1)).data.toList bl2 by rw[Hy.out.2,bytes_snoc k0,trimR_pos hb2])
       have HZ2:=hid (show(y.extract 0 (y.size-1)).size+1=y.size by rw[ByteArray.size_extract];omega)
       clear hb2
       go_wp2_with (first|(go_at_call 153;refine(HB2.out _).mono ?_;rintro e w2 ⟨rfl,h2⟩;have h2:=h2.symm;subst h2))
       go_roundg (gk-1)
       case measure=>have:=HGy.out;omega
       case rel=>exact⟨y.extract 0 (y.size-1),rfl,by have:=HZ2.out;omega,hid (by have:=HZ2.out;have:=HGy.out;omega),hid ⟨Hy.out.1,HN2.out⟩⟩
      |false=>
       rw[hb2]at HB2
       have HE:=hid (show T=y.data.toList by rw[Hy.out.2];exact right_stop fun _=>hb2)
       clear hb2
       go_wp2_with (first|(go_at_call 153;refine(HB2.out _).mono ?_;rintro e w2 ⟨rfl,h2⟩;have h2:=h2.symm;subst h2))
       go_ret
       exact⟨by rw[HE.out];rfl,Hy.out.1.trans HWZ.out⟩
     ·have b1:decide ((0:Int)<(y.size:Int))=false:=decide_eq_false (by omega)
      have HE:=hid (show T=y.data.toList by rw[Hy.out.2];exact right_stop fun h=>absurd h (by omega))
      go_wp2_with fail
      go_ret
      exact⟨by rw[HE.out];rfl,Hy.out.1.trans HWZ.out⟩
  ·have b0:decide ((0:Int)<(x.size:Int))=false:=decide_eq_false (by omega)
   have HS:=hid (inner_stop (x:=x) fun h=>absurd h h0)
   go_wp2_with fail
   have HT2:=hid (show T=Lib.trimRightS x.data.toList bl2 by rw[HT.out,←H.out.2,HS.out])
   obtain⟨wz,hwz⟩:∃wz,wz=wr:=⟨_,rfl⟩
   have HWZ:=hid (show wz=w by rw[hwz];exact H.out.1)
   rw[←hwz]
   clear hwz
   go_loopg [0] x.size (fun gg v0 wr=>∃y:ByteArray,v0=.string y∧y.size≤x.size∧Hid (y.size=gg)∧Hid (wr=wz∧T=Lib.trimRightS y.data.toList bl2))
   case atStart=>exact⟨x,rfl,Nat.le_refl _,hid rfl,hid ⟨rfl,HT2.out⟩⟩
   case round=>
    obtain⟨y,rfl,hy,HGy,Hy⟩:=hrel
    by_cases k0:0<y.size
    ·have b1:decide ((0:Int)<(y.size:Int))=true:=decide_eq_true (by omega)
     have hlm:y.size-1<y.size:=by omega
     have hix:(1:Int)≤(y.size:Int)∧(y.size:Int)-1<(y.size:Int):=⟨by omega,by omega⟩
     have HB2:=(show Hid (∀W,Calls Tryz.prog 153 #[.int .u8 ((y[y.size-1]'hlm).toNat:Int)] W fun e w'=>e=.returned (.bool (isBl y[y.size-1]))∧w'=W)from fun W=>HB.out _ W)
     cases hb2:isBl y[y.size-1]with
     |true=>
      rw[hb2]at HB2
      have HN2:=hid (show T=Lib.trimRightS (y.extract 0 (y.size-1)).data.toList bl2 by rw[Hy.out.2,bytes_snoc k0,trimR_pos hb2])
      have HZ2:=hid (show(y.extract 0 (y.size-1)).size+1=y.size by rw[ByteArray.size_extract];omega)
      clear hb2
      go_wp2_with (first|(go_at_call 153;refine(HB2.out _).mono ?_;rintro e w2 ⟨rfl,h2⟩;have h2:=h2.symm;subst h2))
      go_roundg (gk-1)
      case measure=>have:=HGy.out;omega
      case rel=>exact⟨y.extract 0 (y.size-1),rfl,by have:=HZ2.out;omega,hid (by have:=HZ2.out;have:=HGy.out;omega),hid ⟨Hy.out.1,HN2.out⟩⟩
     |false=>
      rw[hb2]at HB2
      have HE:=hid (show T=y.data.toList by rw[Hy.out.2];exact right_stop fun _=>hb2)
      clear hb2
      go_wp2_with (first|(go_at_call 153;refine(HB2.out _).mono ?_;rintro e w2 ⟨rfl,h2⟩;have h2:=h2.symm;subst h2))
      go_ret
      exact⟨by rw[HE.out];rfl,Hy.out.1.trans HWZ.out⟩
    ·have b1:decide ((0:Int)<(y.size:Int))=false:=decide_eq_false (by omega)
     have HE:=hid (show T=y.data.toList by rw[Hy.out.2];exact right_stop fun h=>absurd h (by omega))
     go_wp2_with fail
     go_ret
     exact⟨by rw[HE.out];rfl,Hy.out.1.trans HWZ.out⟩
end Go.Proofs.YtmlmkmhkmifnkaaGreatDoor.Tb
namespace Go.Proofs.YtmlmkmhkmifnkaaGreatDoor.Tb
open Go.RowKit
open Ci (Bel hid own_bel row_shape own_base addr_add splitL)
structure RAddP (base b o:Nat) (pv:Value) (cur:Array Value) (L:List (List UInt8)) (w w':World) (pv':Value):Prop where
 blk:w'.heap[b]?=some (.cells (cur.setIfInBounds (o+2) pv') 147 (0,0))
 row:w'.ownsRow base 9 1 pv' L.length (strs L)
 keep:∀k,k<w.heap.size→k≠b→some k≠pv.ownBlock→w'.heap[k]?=w.heap[k]?
 os:w'.os=w.os
 tape:w'.tape=w.tape
 output:w'.output=w.output
 size:w.heap.size≤w'.heap.size
 fresh:pv'.ownBlock=pv.ownBlock∨∃g,pv'.ownBlock=some g∧w.heap.size≤g
structure RnM (w0 W:World) (v:Value) (M:List (Ln×Value)):Prop where
 row:W.ownsRow w0.heap.size 147 3 v M.length (lnCs M)
 pcs:∀x∈M,W.ownsRow w0.heap.size 9 1 x.2 x.1.pcs.length (strs x.1.pcs)
 apart:M.Pairwise fun x y=>x.2.ownBlock=none∨x.2.ownBlock≠y.2.ownBlock
theorem RnM.next{w0 W W':World}{v:Value}{M:List (Ln×Value)}(h:RnM w0 W v M)(hb:Bel W W'):RnM w0 W' v M:=⟨own_bel h.row hb,fun x hx=>own_bel (h.pcs x hx) hb,h.apart⟩
theorem rnM_nil(w0 W:World):RnM w0 W (.slice none 0 0) []:=⟨World.ownsRow_nil _ _ _ _,fun x hx=>(by cases hx),.nil⟩
theorem RAddP.bel{w0 w w':World}{b o:Nat}{pv pv':Value}{cur:Array Value}{L L0:List (List UInt8)}(h:RAddP w0.heap.size b o pv cur L w w' pv')(hB:Bel w0 w)(hb:w0.heap.size≤b)(hown:w.ownsRow w0.heap.size 9 1 pv L0.length (strs L0)):Bel w0 w':=
 ⟨h.os.trans hB.os,h.tape.trans hB.tape,h.output.trans hB.output,Nat.le_trans hB.size h.size,fun k hk=>(h.keep k (Nat.lt_of_lt_of_le hk hB.size) (by omega) (fun e=>by have:=own_lt hown e.symm;omega)).trans (hB.block k hk)⟩
theorem RnM.more {w0 W W2:World} {g cap:Nat} {cur:Array Value} {M:List (Ln×Value)} {l:Ln} {pv pv':Value} {L:List (List UInt8)} (h:RnM w0 W (.slice (some ⟨g,0,none⟩) (M.length+1) cap) (M++[(l,pv)]))
 (hg:W.heap[g]?=some (.cells cur 147 (0,0))) (hA:RAddP w0.heap.size g (M.length*3) pv cur L W W2 pv'):RnM w0 W2 (.slice (some ⟨g,0,none⟩) (M.length+1) cap) (M++[(⟨l.at_,l.key,L⟩,pv')]):=by
 have hpv:=h.pcs (l,pv) (by simp)
 have hap:∀x∈M,x.2.ownBlock=none∨x.2.ownBlock≠pv.ownBlock:=fun x hx=>(List.pairwise_append.1 h.apart).2.2 x hx _ (List.mem_singleton.2 rfl)
 have hlen:(M++[(l,pv)]).length=M.length+1:=by simp
 have hrow:=h.row
 rw[hlen]at hrow
 rcases hrow.2 with⟨e,-⟩|⟨g2,cap2,cu,e,hbg,hh,hnc,hcm,hcs,htk⟩
 ·cases e
 cases e
 rw[hg]at hh
 cases hh
 have hne:∀(y:Value) (n:Nat) (xs:List Value),W.ownsRow w0.heap.size 9 1 y n xs→∀k,y.ownBlock=some k→k≠g:=fun y n xs hy k hk e=>own_ne hy hg (by decide) (by rw[hk,e])
 refine⟨?_,?_,?_⟩
 ·rw[show(M++[((⟨l.at_,l.key,L⟩:Ln),pv')]).length=M.length+1 by simp]
  refine⟨by rw[lnCs_len];simp,.inr ⟨g,cap,_,rfl,hbg,hA.blk,hnc,hcm,by rw[Array.size_setIfInBounds];exact hcs,?_⟩⟩
  rw[Array.toList_setIfInBounds,List.take_set,htk,lnCs_snoc,lnCs_snoc,List.set_append_right _ _ (by rw[lnCs_len];omega),lnCs_len]
  rw[show M.length*3+2-M.length*3=2 by omega]
  rfl
 ·intro x hx
  rcases List.mem_append.1 hx with hx|hx
  ·have hx0:=h.pcs x (List.mem_append_left _ hx)
   refine own_keep hx0 fun k hk=>hA.keep k (own_lt hx0 hk).2 (hne _ _ _ hx0 k hk) fun e=> ?_
   rcases hap x hx with f|f
   ·rw[f]at hk;cases hk
   ·exact f (by rw[hk,e])
  ·rw[List.mem_singleton.1 hx];exact hA.row
 ·rw[List.pairwise_append]
  refine⟨(List.pairwise_append.1 h.apart).1,List.pairwise_singleton ..,fun x hx y hy=> ?_⟩
  rw[List.mem_singleton.1 hy]
  show x.2.ownBlock=none∨x.2.ownBlock≠pv'.ownBlock
  rcases hA.fresh with f|⟨g3,f,hg3⟩
  ·rw[f];exact hap x hx
  ·cases hxb:x.2.ownBlock with
   |none=>exact .inl rfl
   |some k=>
    refine .inr fun e=> ?_
    rw[f]at e
    cases e
    have:=(own_lt (h.pcs x (List.mem_append_left _ hx)) hxb).2
    omega
theorem RnM.push {w0 W W3:World} {v v':Value} {M:List (Ln×Value)} {at_:Nat} {key:List UInt8} {o:Obj} (h:RnM w0 W v M) (hg:(W.alloc o).grownBy W3 v.ownBlock)
 (hrow:W3.ownsRow w0.heap.size 147 3 v' (M.length+1) (lnCs M++lnC (⟨at_,key,[]⟩,.slice none 0 0))):RnM w0 W3 v' (M++[(⟨at_,key,[]⟩,.slice none 0 0)]):=by
 have hk3:∀k,k<W.heap.size→some k≠v.ownBlock→W3.heap[k]?=W.heap[k]?:=fun k hk hne=>(hg.block k (by rw[World.size_alloc];omega) hne).trans (heap_alloc_old W _ hk)
 have hvT:∀(y:Value) (n:Nat) (xs:List Value),W.ownsRow w0.heap.size 9 1 y n xs→∀g,y.ownBlock=some g→some g≠v.ownBlock:=fun y n xs hy g hgy e=>by
  rcases h.row.2 with⟨rfl,-⟩|⟨g2,cap,cu,rfl,-,hh,-⟩
  ·cases e
  ·cases e
   exact own_ne hy hh (by decide) hgy
 refine⟨?_,?_,?_⟩
 ·rw[List.length_append,lnCs_snoc];exact hrow
 ·intro x hx
  rcases List.mem_append.1 hx with hx|hx
  ·exact own_keep (h.pcs x hx) fun g hg'=>hk3 g (own_lt (h.pcs x hx) hg').2 (hvT _ _ _ (h.pcs x hx) g hg')
  ·rw[List.mem_singleton.1 hx]
   exact World.ownsRow_nil _ _ _ _
 ·rw[List.pairwise_append]
  refine⟨h.apart,List.pairwise_singleton ..,fun x hx y hy=> ?_⟩
  rw[List.mem_singleton.1 hy]
  cases hxb:x.2.ownBlock with
  |none=>exact .inl rfl
  |some g=>exact .inr fun e=>by cases e
end Go.Proofs.YtmlmkmhkmifnkaaGreatDoor.Tb
namespace Go.Proofs.YtmlmkmhkmifnkaaGreatDoor.Tb
open Go.RowKit
open Ci (splitL splitL_app splitL_none)
structure RCutI (s:List UInt8) (c:Rs):Prop where
 eq:rsAll s=(restL s c.at_).foldl rsStep c
 le:c.at_≤s.length+1
 num:c.out.length≤c.at_
 few:∀l∈c.out,l.pcs.length≤c.at_
 nb:c.bads.length≤s.length+c.at_
theorem bads_len:∀(s:List UInt8) (k:Nat),(badsOf s k).length≤s.length
 |[],_=>Nat.le_refl _
 |b::l,k=>by
  unfold badsOf
  have:=bads_len l (k+1)
  split
  ·rw[List.length_cons,List.length_cons];omega
  ·rw[List.length_cons];omega
theorem RCutI.start(s:List UInt8):RCutI s ⟨0,[],badsOf s 0⟩:=
 ⟨by unfold restL;rw[if_pos (Nat.zero_le _),List.drop_zero];rfl,Nat.zero_le _,Nat.le_refl _,fun l hl=>(by cases hl),by have:=bads_len s 0;show(badsOf s 0).length≤s.length+0;omega⟩
theorem rest_line{s:List UInt8}{a e:Nat}(hlt:a<s.length)(hae:a≤e)(he:e≤s.length)(hn:(10:UInt8)∉(s.drop a).take (e-a))(hend:e=s.length∨∃h:e<s.length,s[e]=10):
 restL s a=(s.drop a).take (e-a)::restL s (e+1):=by
 unfold restL
 rw[if_pos (by omega)]
 rcases hend with rfl|⟨h,h10⟩
 ·rw[if_neg (by omega),List.take_of_length_le (by rw[List.length_drop];exact Nat.le_refl _)]at*
  exact splitL_none 10 _ hn
 ·rw[if_pos (by omega)]
  have e1:s.drop a=(s.drop a).take (e-a)++10::s.drop (e+1):=by
   rw[←h10]
   have h1:s[e]::s.drop (e+1)=s.drop e:=(List.drop_eq_getElem_cons h).symm
   rw[h1]
   have h2:s.drop e=(s.drop a).drop (e-a):=by rw[List.drop_drop];congr 1;omega
   rw[h2,List.take_append_drop]
  have e2:=splitL_app 10 ((s.drop a).take (e-a)) (s.drop (e+1)) hn
  rw[←e1]at e2
  exact e2
theorem RCutI.step{s:List UInt8}{c:Rs}{e:Nat}(h:RCutI s c)(hlt:c.at_<s.length)(hae:c.at_≤e)(he:e≤s.length)(hn:(10:UInt8)∉(s.drop c.at_).take (e-c.at_))(hend:e=s.length∨∃h:e<s.length,s[e]=10):
 RCutI s (rsStep c ((s.drop c.at_).take (e-c.at_)))∧(rsStep c ((s.drop c.at_).take (e-c.at_))).at_=e+1:=by
 have hl:((s.drop c.at_).take (e-c.at_)).length=e-c.at_:=by rw[List.length_take,List.length_drop];omega
 have hat:(rsStep c ((s.drop c.at_).take (e-c.at_))).at_=e+1:=by
  show c.at_+((s.drop c.at_).take (e-c.at_)).length+1=e+1
  rw[hl];omega
 refine⟨⟨?_,?_,?_,?_,?_⟩,hat⟩
 ·rw[h.eq,rest_line hlt hae he hn hend,List.foldl_cons,hat]
 ·rw[hat];omega
 ·rw[hat]
  have hnum:=h.num
  show(if skipR _ then c.out else if blankR _ then(if c.out=[]then c.out else addLast c.out (trm _))else c.out++[_]).length≤e+1
  split
  ·omega
  ·split
   ·split
    ·omega
    ·unfold addLast
     split
     ·omega
     ·rename_i l hl2
      have:c.out≠[]:=by intro f;rw[f]at hl2;cases hl2
      have:=List.length_pos_iff.2 this
      simp only[List.length_append,List.length_dropLast,List.length_cons,List.length_nil];omega
   ·rw[List.length_append];simp;omega
 ·rw[hat]
  have hf:=h.few
  show∀l∈(if skipR _ then c.out else if blankR _ then(if c.out=[]then c.out else addLast c.out (trm _))else c.out++[_]),l.pcs.length≤e+1
  split
  ·intro l hl2;have:=hf l hl2;omega
  ·split
   ·split
    ·intro l hl2;have:=hf l hl2;omega
    ·unfold addLast
     split
     ·intro l hl2;have:=hf l hl2;omega
     ·rename_i l0 hl0
      intro l hl2
      rcases List.mem_append.1 hl2 with hl2|hl2
      ·have:=hf l (List.dropLast_subset _ hl2);omega
      ·rw[List.mem_singleton.1 hl2]
       have:=hf l0 (List.mem_of_getLast? hl0)
       show(l0.pcs++[_]).length≤_
       rw[List.length_append];simp;omega
   ·intro l hl2
    rcases List.mem_append.1 hl2 with hl2|hl2
    ·have:=hf l hl2;omega
    ·rw[List.mem_singleton.1 hl2];exact Nat.zero_le _
 ·have hnb:=h.nb
  rw[hat]
  show(if skipR _ then c.bads else if _ then c.bads++[c.at_]else c.bads).length≤_
  split
  ·omega
  ·split
   ·rw[List.length_append];simp;omega
   ·omega
theorem RCutI.done{s:List UInt8}{c:Rs}(h:RCutI s c)(hge:s.length≤c.at_):(rsAll s).out=c.out∧(rsAll s).bads=c.bads:=by
 have he:=h.eq
 have hle:=h.le
 unfold restL at he
 by_cases hc:c.at_≤s.length
 ·rw[if_pos hc,List.drop_eq_nil_of_le hge]at he
  have e2:splitL 10 ([]:List UInt8)=[[]]:=rfl
  rw[e2,List.foldl_cons,List.foldl_nil]at he
  rw[he]
  have hs:skipR []=true:=by decide
  unfold rsStep
  simp only
  rw[if_pos hs,if_pos hs]
  exact⟨rfl,rfl⟩
 ·rw[if_neg hc,List.foldl_nil]at he
  rw[he];exact⟨rfl,rfl⟩
theorem bad_int(b:UInt8):badB b= !(((b==9)||(b==10))||(decide ((32:Int)≤(b.toNat:Int))&&decide ((b.toNat:Int)≤126))):=by
 unfold badB
 have e1:decide (b.toNat<32)= !decide ((32:Int)≤(b.toNat:Int)):=by
  by_cases h:b.toNat<32
  ·rw[decide_eq_true h,decide_eq_false (by omega)];rfl
  ·rw[decide_eq_false h,decide_eq_true (by omega)];rfl
 have e2:decide (126<b.toNat)= !decide ((b.toNat:Int)≤126):=by
  by_cases h:126<b.toNat
  ·rw[decide_eq_true h,decide_eq_false (by omega)];rfl
  ·rw[decide_eq_false h,decide_eq_true (by omega)];rfl
 rw[e1,e2]
 show(!(b==9)&& !(b==10)&&_)=_
 cases(b==9)<;>cases(b==10)<;>cases decide ((32:Int)≤(b.toNat:Int))<;>cases decide ((b.toNat:Int)≤126)<;>rfl
theorem bads_at{s:List UInt8}{k:Nat}(hk:k<s.length):badsOf (s.drop k) k=(if badB s[k]then[k]else[])++badsOf (s.drop (k+1)) (k+1):=by
 rw[List.drop_eq_getElem_cons hk]
 show(if badB s[k]then k::badsOf (s.drop (k+1)) (k+1)else badsOf (s.drop (k+1)) (k+1))=_
 split<;>rfl
end Go.Proofs.YtmlmkmhkmifnkaaGreatDoor.Tb