import Derived.Test.YtmlmkmhkmifnkaaGreatDoorM32
import Derived.Test.YtmlmkmhkmifnkaaGreatDoorRows
import Derived.ProofKit
import Derived.OpenShut
import Derived.ChangeArms
import Derived.DataShut
import Derived.Deep.Slices
import Derived.Deep.Fields
import Derived.ChangeSame
import Derived.Carry
import Derived.Deep.DeepHandedRow
import Derived.Deep.DeepWitnessRowRef
import Derived.Lib.LaidIn
import Derived.Lib.LaidTab
import Derived.Lib.LaidU8
import Derived.Lib.LaidCaseMet
import Derived.PinnedBridge
import Derived.Stop.LaidErr
import Derived.HandedShaped
import Derived.WalkSmall
set_option maxHeartbeats 16000000
set_option maxRecDepth 1000000
namespace Go.Proofs.YtmlmkmhkmifnkaaGreatDoor.Tb
open Go.RowKit
open Ci (Bel hid own_bel row_shape own_base addr_add Aft wp_region_aft Lay Calls.aft)
open Ma (Pt ptC ptC_one ptC_range pt_size zeroP domainQ rightP wpList_store_blk load_pt)
def mxE:List UInt8:=[109,120,46,101,120,97,109,112,108,101]
def awT:List UInt8:=[97,64,120,46,101,120,97,109,112,108,101,32,98,64,121,46,101,120,97,109,112,108,101,10]
def awE:En:=⟨[97,64,120,46,101,120,97,109,112,108,101],[98,64,121,46,101,120,97,109,112,108,101]⟩
def awA:Pt:=⟨false,[97],[120,46,101,120,97,109,112,108,101],false⟩
def awB:Pt:=⟨false,[98],[121,46,101,120,97,109,112,108,101],false⟩
theorem aw_parse:tparse awT=some [awE]:=by kernel_rfl
theorem aw_vals:valsC [awE]=true:=by kernel_rfl
theorem aw_host:hostC mxE=true:=by kernel_rfl
theorem aw_new:newC mxE [awT]=.ok [[awE]]:=by
 unfold newC
 rw[aw_host]
 have:newT [awT] []=some [[awE]]:=by
  unfold newT
  rw[aw_parse]
  show(if valsC [awE]then newT [] ([]++[[awE]])else none)=_
  rw[aw_vals];rfl
 rw[this];rfl
theorem aw_path:pathC mxE [[awE]] awA=awB:=by kernel_rfl
theorem cawake_run(w:World)(hw:Lat w):Calls Tryz.prog 10 #[] w fun e w'=>e=.returned (.bool true)∧Bel w w':=by
 obtain⟨W1,hW1⟩:∃W1,W1=w.alloc (.cells #[.string ⟨#[97,64,120,46,101,120,97,109,112,108,101,32,98,64,121,46,101,120,97,109,112,108,101,10]⟩] 9):=⟨_,rfl⟩
 have HB1:=hid (show Bel w W1 by rw[hW1];exact(Bel.refl w).alloc _)
 have hS:Sts W1 (some ⟨w.heap.size,0,none⟩) [⟨awT.toArray⟩]:=⟨.inr ⟨w.heap.size,0,rfl,by rw[hW1,World.size_alloc];omega,fun k hk=>by
  obtain rfl:k=0:=by simp at hk;omega
  rw[hW1,Lib.cell_of_heap (heap_alloc_new w _)];rfl⟩⟩
 have HN:=(show Hid (Calls Tryz.prog 11 #[.string ⟨mxE.toArray⟩,.slice (some ⟨w.heap.size,0,none⟩) 1 1] W1 fun e w'=>∃a,e=.returned (.tuple #[.pointer a,.int .i64 0])∧Bel W1 w'∧CnAt w' a mxE [[awE]])from by
  have h:=cnew_run ⟨mxE.toArray⟩ (some ⟨w.heap.size,0,none⟩) [⟨awT.toArray⟩] 1 W1 (hw.next HB1.out) (by rw[Lib.size_eq];exact of_decide_eq_true (by kernel_rfl)) hS
  have e:([⟨awT.toArray⟩]:List ByteArray).map (·.data.toList)=[awT]:=rfl
  rw[e]at h
  refine h.mono fun e w' hp=> ?_
  unfold CnPost at hp
  rw[show newC (⟨mxE.toArray⟩:ByteArray).data.toList [awT]=.ok [[awE]]from aw_new]at hp
  exact hp)
 have HP:=(show Hid (∀W,Bel W1 W→∀a,CnAt W a mxE [[awE]]→Calls Tryz.prog 13 #[.pointer a,.agg (ptC awA).toArray] W fun e w'=>e=.returned (.agg (ptC awB).toArray)∧Bel W w')from fun W hW a hC=>by
  have h:=cpath_run a mxE [[awE]] awA W (hw.next (HB1.out.trans hW)) hC (by decide) (by decide)
  rw[aw_path]at h
  exact h)
 have heq:∀W:World,(Op.equalIn 10000 26 (.agg (ptC awB).toArray) (.agg #[.bool false,.string ⟨#[98]⟩,.string ⟨#[121,46,101,120,97,109,112,108,101]⟩,.bool false])).run Tryz.prog W=.ok true W:=fun W=>by
  have:=eq_ptc awB awB W
  rw[decide_eq_true rfl]at this
  exact this
 clear hw hS
 go_enter Tryz.func10,Tryz.ntmps10
 go_wp2_with (first|(go_at_call 11;(try rw[←hW1]);refine HN.out.mono ?_;rintro _ w2 ⟨a,rfl,hb2,hc2⟩;obtain⟨cb,ct,mb,hab,-⟩:=hc2.at_;subst hab;have HB2:=hid hb2;have HC2:=hid hc2;clear hb2 hc2)|(go_at_call 13;refine(HP.out w2 HB2.out _ HC2.out).mono ?_;rintro _ w3 ⟨rfl,hb3⟩;have HB3:=hid (HB2.out.trans hb3);clear hb3)|(refine wpList_store_blk rfl 26 (.tmp 3) (.tmp 17) rfl w3.heap.size (ptC awB) rfl rfl pt_size (ptC_one _) (ptC zeroP) _ (heap_alloc_new w3 _) rfl ?_;intro w9 hc9 ho9 hs9 hb9;have HB9:=hid (hb9 w3 ((Bel.refl w3).alloc _) (Nat.le_refl _));have HC9:=hid hc9;clear ho9 hs9 hb9 hc9)|(refine wpList_load_mid rfl 26 (.tmp 3) rfl w3.heap.size 0 rfl (ptC awB) _ (ptC_range HC9.out) Tryz.underlying26 rfl pt_size ?_))
 go_ret
 exact⟨rfl,HB1.out.trans (HB3.out.trans HB9.out)⟩
end Go.Proofs.YtmlmkmhkmifnkaaGreatDoor.Tb
namespace Go.Proofs.YtmlmkmhkmifnkaaGreatDoor.Tb
open Go.RowKit
open Ci (Bel hid own_bel row_shape own_base addr_add Aft wp_region_aft Lay Calls.aft quiet_load_aft)
open Ma (Pt ptC ptC_one ptC_range pt_size zeroP domainQ rightP wpList_store_blk load_pt)
theorem new_err{h:ByteArray}{x:Option Addr}{bs:List ByteArray}{c:Nat}{w:World}{k:Int}(hw:Lat w)(hh:h.size≤4194304)(hS:Sts w x bs)(hn:newC h.data.toList (bs.map (·.data.toList))=.error k)(W:World)(hW:Bel w W):Calls Tryz.prog 11 #[.string h,.slice x bs.length c] W fun e w'=>e=.returned (.tuple #[.pointer none,.int .i64 k])∧Bel W w':=by
 refine(cnew_run h x bs c W (hw.next hW) hh (hS.next hW)).mono fun e w' hp=> ?_
 unfold CnPost at hp
 rw[hn]at hp
 exact hp
theorem rnew_err{h:ByteArray}{x:Option Addr}{bs:List ByteArray}{c:Nat}{w:World}{k:Int}(hh:h.size≤4194304)(hS:Sts w x bs)(hn:newC h.data.toList (bs.map (·.data.toList))=.error k)(W:World)(hW:Bel w W):Calls Tryz.prog 12 #[.string h,.slice x bs.length c] W fun e w'=>e=.returned (.tuple #[.pointer none,.int .i64 k])∧Bel W w':=by
 refine(rcnew_run h x bs c W hh (hS.next hW)).mono fun e w' hp=> ?_
 unfold RcPost at hp
 rw[hn]at hp
 exact hp
theorem new_good{h:ByteArray}{x:Option Addr}{bs:List ByteArray}{c:Nat}{w:World}{ts:List (List En)}(hw:Lat w)(hh:h.size≤4194304)(hS:Sts w x bs)(hn:newC h.data.toList (bs.map (·.data.toList))=.ok ts)(W:World)(hW:Bel w W):Calls Tryz.prog 11 #[.string h,.slice x bs.length c] W fun e w'=>∃b:Nat,e=.returned (.tuple #[.pointer (some ⟨b,0,none⟩),.int .i64 0])∧Bel W w'∧CnAt w' (some ⟨b,0,none⟩) h.data.toList ts:=by
 refine(cnew_run h x bs c W (hw.next hW) hh (hS.next hW)).mono fun e w' hp=> ?_
 unfold CnPost at hp
 rw[hn]at hp
 obtain⟨a,h1,h2,h3⟩:=hp
 obtain⟨b,t,mb,rfl,-⟩:=h3.at_
 exact⟨b,h1,h2,h3⟩
theorem rnew_good{h:ByteArray}{x:Option Addr}{bs:List ByteArray}{c:Nat}{w:World}{ts:List (List En)}(hh:h.size≤4194304)(hS:Sts w x bs)(hn:newC h.data.toList (bs.map (·.data.toList))=.ok ts)(W:World)(hW:Bel w W):Calls Tryz.prog 12 #[.string h,.slice x bs.length c] W fun e w'=>∃b:Nat,e=.returned (.tuple #[.pointer (some ⟨b,0,none⟩),.int .i64 0])∧Bel W w'∧RCnAt w' (some ⟨b,0,none⟩) h.data.toList ts:=by
 refine(rcnew_run h x bs c W hh (hS.next hW)).mono fun e w' hp=> ?_
 unfold RcPost at hp
 rw[hn]at hp
 obtain⟨a,h1,h2,h3⟩:=hp
 obtain⟨b,xx,n,rfl,-⟩:=h3.at_
 exact⟨b,h1,h2,h3⟩
theorem path_small{h:List UInt8}{ts:List (List En)}{p:Pt}(hh:hostC h=true)(hok:∀es∈ts,valsC es=true)(hp:p.loc.length≤4194304∧p.dom.length≤4194304):(pathC h ts p).loc.length≤4194304∧(pathC h ts p).dom.length≤4194304:=by
 have hd:(domC h p).loc.length≤4194304∧(domC h p).dom.length≤4194304:=by
  unfold domC
  split
  ·have:=host_small hh
   exact⟨hp.1,by show h.length≤_;omega⟩
  ·exact hp
 unfold pathC
 split
 ·exact hp
 ·split
  ·exact hp
  ·unfold askC
   split
   ·exact hd
   ·rename_i v hv
    exact toC_small (ask_ok hok hv) hd.1
theorem paths_law(hs:ByteArray)(x:Option Addr)(bs:List ByteArray)(cap:Nat)(pa:Pt)(w:World)(hw:Lat w)(hh:hs.size≤4194304)(hS:Sts w x bs)(hp:pa.loc.length≤4194304∧pa.dom.length≤4194304):
 Calls Tryz.prog 3 #[.agg #[.string hs,.slice x bs.length cap],.agg (ptC pa).toArray] w fun e w'=>e=.returned (.bool true)∧Bel w w':=by
 obtain⟨W1,hW1⟩:∃W1,W1=(w.alloc (.cells #[.string hs,.slice x bs.length cap] 24)).alloc (.cells (ptC pa).toArray 26):=⟨_,rfl⟩
 have HB1:=hid (show Bel w W1 by rw[hW1];exact((Bel.refl w).alloc _).alloc _)
 have HK:=hid (show∀W,Bel W1 W→W.cell? ⟨w.heap.size,0,none⟩=some (.string hs)∧W.cell? ⟨w.heap.size,1,none⟩=some (.slice x bs.length cap)from fun W hW=>by
  have h0:W1.heap[w.heap.size]?=some (.cells #[.string hs,.slice x bs.length cap] 24 (0,0)):=by rw[hW1];exact Bel.heap ((Bel.refl _).alloc _) (heap_alloc_new w _)
  exact⟨by rw[Lib.cell_of_heap (hW.heap h0)];rfl,by rw[Lib.cell_of_heap (hW.heap h0)];rfl⟩)
 have HPt:=hid (show∀W,Bel W1 W→W.heap[w.heap.size+1]?=some (.cells (ptC pa).toArray 26 (0,0))from fun W hW=>hW.heap (by rw[hW1];exact Ci.alloc_second w _ _))
 have HAw:=hid (fun W (hW:Bel w W)=>cawake_run W (hw.next hW))
 cases hn:newC hs.data.toList (bs.map (·.data.toList))with
 |error k=>
  have HN:=hid (new_err (c:=cap) hw hh hS hn)
  have HR:=hid (rnew_err (c:=cap) hh hS hn)
  clear hw hS hn
  generalize bs.length=n at hW1 HK HN HR⊢
  go_enter Tryz.func3,Tryz.ntmps3
  go_wp2_with (first|(go_at_call 10;(try rw[←hW1]);refine(HAw.out W1 HB1.out).mono ?_;rintro _ W2 ⟨rfl,hb2⟩;have HX2:=hid hb2;have HB2:=hid (HB1.out.trans hb2);have c0:=(HK.out W2 hb2).1;have c1:=(HK.out W2 hb2).2;clear hb2)|(go_at_call 11;refine(HN.out W2 HB2.out).mono ?_;rintro _ W3 ⟨rfl,hb3⟩;have HX3:=hid (HX2.out.trans hb3);have HB3:=hid (HB2.out.trans hb3);have e3:=(HK.out W3 HX3.out).1;have g3:=(HK.out W3 HX3.out).2;clear hb3)|(go_at_call 12;refine(HR.out W3 HB3.out).mono ?_;rintro _ W4 ⟨rfl,hb4⟩;have HX4:=hid (HX3.out.trans hb4);have HB4:=hid (HB3.out.trans hb4);have e4:=(HK.out W4 HX4.out).1;have g4:=(HK.out W4 HX4.out).2;clear hb4))
  go_ret
  exact⟨rfl,HB4.out⟩
 |ok ts=>
  have HN:=hid (new_good (c:=cap) hw hh hS hn)
  have HR:=hid (rnew_good (c:=cap) hh hS hn)
  have HP:=(show Hid (∀W b,Bel w W→CnAt W (some ⟨b,0,none⟩) hs.data.toList ts→Calls Tryz.prog 13 #[.pointer (some ⟨b,0,none⟩),.agg (ptC pa).toArray] W fun e w'=>e=.returned (.agg (ptC (pathC hs.data.toList ts pa)).toArray)∧Bel W w')from fun W b hW hC=>cpath_run _ _ ts pa W (hw.next hW) hC hp.1 hp.2)
  have HQ:=(show Hid (∀W b,RCnAt W (some ⟨b,0,none⟩) hs.data.toList ts→Calls Tryz.prog 14 #[.pointer (some ⟨b,0,none⟩),.agg (ptC pa).toArray] W fun e w'=>e=.returned (.agg (ptC (pathC hs.data.toList ts pa)).toArray)∧Bel W w')from fun W b hC=>rcpath_run _ _ ts pa W hC hp.1 hp.2)
  clear hw hS hn
  generalize bs.length=n at hW1 HK HN HR⊢
  generalize pathC hs.data.toList ts pa=q at HP HQ
  have heq:∀W:World,(Op.equalIn 10000 26 (.agg (ptC q).toArray) (.agg (ptC q).toArray)).run Tryz.prog W=.ok true W:=fun W=>by
   have:=eq_ptc q q W
   rw[decide_eq_true rfl]at this
   exact this
  go_enter Tryz.func3,Tryz.ntmps3
  go_wp2_with (first|(go_at_call 10;(try rw[←hW1]);refine(HAw.out W1 HB1.out).mono ?_;rintro _ W2 ⟨rfl,hb2⟩;have HX2:=hid hb2;have HB2:=hid (HB1.out.trans hb2);have c0:=(HK.out W2 hb2).1;have c1:=(HK.out W2 hb2).2;clear hb2)|(go_at_call 11;refine(HN.out W2 HB2.out).mono ?_;rintro _ W3 ⟨b3,rfl,hb3,hc3⟩;have HX3:=hid (HX2.out.trans hb3);have HB3:=hid (HB2.out.trans hb3);have e3:=(HK.out W3 HX3.out).1;have g3:=(HK.out W3 HX3.out).2;have HC3:=hid hc3;clear hc3;clear hb3)|(go_at_call 12;refine(HR.out W3 HB3.out).mono ?_;rintro _ W4 ⟨b4,rfl,hb4,hc4⟩;have HX4:=hid (HX3.out.trans hb4);have HB4:=hid (HB3.out.trans hb4);have e4:=(HK.out W4 HX4.out).1;have g4:=(HK.out W4 HX4.out).2;have HC4:=hid hc4;have HD4:=hid (HC3.out.next hb4);clear hc4;clear hb4)|(refine wpList_load_mid rfl 26 (.tmp 3) rfl (w.heap.size+1) 0 rfl (ptC pa) _ (ptC_range (HPt.out _ HX4.out)) Tryz.underlying26 rfl pt_size ?_)|(go_at_call 13;refine(HP.out W4 b3 HB4.out HD4.out).mono ?_;rintro _ W5 ⟨rfl,hb5⟩;have HX5:=hid hb5;clear hb5)|(refine wpList_store_blk rfl 26 (.tmp 10) (.tmp 47) rfl (W5.heap.size) (ptC q) rfl rfl pt_size (ptC_one _) (ptC zeroP) _ (heap_alloc_new W5 _) rfl ?_;intro W6 hc6 ho6 hs6 hb6;have HB6:=hid (HX5.out.trans (hb6 W5 ((Bel.refl W5).alloc _) (Nat.le_refl _)));have HC6:=hid hc6;clear hc6 ho6 hs6 hb6)|(refine wpList_load_mid rfl 26 (.tmp 3) rfl (w.heap.size+1) 0 rfl (ptC pa) _ (ptC_range (HPt.out _ (HX4.out.trans HB6.out))) Tryz.underlying26 rfl pt_size ?_)|(go_at_call 14;refine(HQ.out W6 b4 (HC4.out.next HB6.out)).mono ?_;rintro _ W7 ⟨rfl,hb7⟩;have HB7:=hid hb7;clear hb7)|(refine wpList_store_blk rfl 26 (.tmp 11) (.tmp 50) rfl (W7.heap.size) (ptC q) rfl rfl pt_size (ptC_one _) (ptC zeroP) _ (heap_alloc_new W7 _) rfl ?_;intro W8 hc8 ho8 hs8 hb8;have HB8:=hid (HB7.out.trans (hb8 W7 ((Bel.refl W7).alloc _) (Nat.le_refl _)));have HC8:=hid hc8;clear hc8 ho8 hs8 hb8)|(refine wpList_load_mid rfl 26 (.tmp 10) rfl (W5.heap.size) 0 rfl (ptC q) _ (ptC_range (HB8.out.heap HC6.out)) Tryz.underlying26 rfl pt_size ?_)|(refine wpList_load_mid rfl 26 (.tmp 11) rfl (W7.heap.size) 0 rfl (ptC q) _ (ptC_range (HC8.out)) Tryz.underlying26 rfl pt_size ?_))
  go_ret
  exact⟨rfl,HB4.out.trans (HB6.out.trans HB8.out)⟩
end Go.Proofs.YtmlmkmhkmifnkaaGreatDoor.Tb
namespace Go.Proofs.YtmlmkmhkmifnkaaGreatDoor.Ma
open Go.ChangeShapes Go.WideShapes Go.Deep
theorem cellsPt:Tryz.prog.cellsOf 26=4:=by kernel_rfl
theorem cellsB:Tryz.prog.cellsOf 4=1:=by kernel_rfl
theorem cellsS:Tryz.prog.cellsOf 9=1:=by kernel_rfl
theorem bulk_mem{H:Type}:∀(l:List (DataW H)) (d:DataW H),d∈l→Rows.uptoBulk d≤Rows.uptoBulkAll l
 |[],d,h=>by cases h
 |e::l,d,h=>by
  rw[Rows.uptoBulkAll]
  rcases List.mem_cons.1 h with rfl|h
  ·omega
  ·have:=bulk_mem l d h;omega
theorem pt_trod {H:Type} {enc:TypeId×Value→H} {W:World} {spare:Nat→Bool} {held:Bool} {b0 fuel:Nat} {cs:List Value} {x:DataW H×List MemPlace}
 (h:DataW.trod enc Tryz.prog W b0 spare held fuel 26 cs=some x):∃p:Pt,cs=ptC p∧p.loc.length≤Rows.uptoBulk x.1∧p.dom.length≤Rows.uptoBulk x.1:=by
 obtain⟨ys,n',hn',hy,hlen,hyl,hf⟩:=DataW.trod_struct Tryz.underlying26 h
 rw[cellsPt]at hlen
 have h0:DataW.trod enc Tryz.prog W b0 spare held n' 4 ((cs.drop 0).take (Tryz.prog.cellsOf 4))=ys[0]?:=hf 0 _ rfl
 have h1:DataW.trod enc Tryz.prog W b0 spare held n' 9 ((cs.drop 1).take (Tryz.prog.cellsOf 9))=ys[1]?:=hf 1 _ rfl
 have h2:DataW.trod enc Tryz.prog W b0 spare held n' 9 ((cs.drop 2).take (Tryz.prog.cellsOf 9))=ys[2]?:=hf 2 _ rfl
 have h3:DataW.trod enc Tryz.prog W b0 spare held n' 4 ((cs.drop 3).take (Tryz.prog.cellsOf 4))=ys[3]?:=hf 3 _ rfl
 rw[cellsB]at h0 h3
 rw[cellsS]at h1 h2
 have hyl4:ys.length=4:=hyl
 match ys,hyl4 with
 |[y0,y1,y2,y3],_=>
  match cs,hlen with
  |[a0,a1,a2,a3],_=>
   obtain⟨b,e0,-⟩:=DataW.trod_bool Tryz.underlying4 (x:=y0) h0
   obtain⟨s1,e1,d1,-⟩:=DataW.trod_string Tryz.underlying9 (x:=y1) h1
   obtain⟨s2,e2,d2,-⟩:=DataW.trod_string Tryz.underlying9 (x:=y2) h2
   obtain⟨b3,e3,-⟩:=DataW.trod_bool Tryz.underlying4 (x:=y3) h3
   have f0:a0=.bool b:=by simpa using e0
   have f1:a1=.string s1:=by simpa using e1
   have f2:a2=.string s2:=by simpa using e2
   have f3:a3=.bool b3:=by simpa using e3
   rw[f0,f1,f2,f3]
   have hb:Rows.uptoBulk x.1=Rows.uptoBulk y0.1+(Rows.uptoBulk y1.1+(Rows.uptoBulk y2.1+(Rows.uptoBulk y3.1+0)))+1:=by
    rw[hy];rfl
   have k1:Rows.uptoBulk y1.1=s1.data.toList.length+1:=by rw[d1];rfl
   have k2:Rows.uptoBulk y2.1=s2.data.toList.length+1:=by rw[d2];rfl
   exact⟨⟨b,s1.data.toList,s2.data.toList,b3⟩,rfl,by show s1.data.toList.length≤_;omega,by show s2.data.toList.length≤_;omega⟩
end Go.Proofs.YtmlmkmhkmifnkaaGreatDoor.Ma
namespace Go.Proofs.YtmlmkmhkmifnkaaGreatDoor.Ci
open Go.RowKit Go.ChangeShapes Go.WideShapes Go.ChangeAt Go.Lib Go.Proofs
theorem own:ownKnob Tryz.prog.godebug=none:=by kernel_rfl
def laidL:List (String×DataW Unit):=[("math/bits.deBruijn32tab",Rows.laid_math_bits_deBruijn32tab),("math/bits.deBruijn64tab",Rows.laid_math_bits_deBruijn64tab),("internal/strconv.uint64pow10",Rows.laid_internal_strconv_uint64pow10),("unicode/utf8.acceptRanges",Rows.laid_unicode_utf8_acceptRanges),("strconv.ErrRange",Rows.laid_strconv_ErrRange),("strconv.ErrSyntax",Rows.laid_strconv_ErrSyntax),("unicode.CaseRanges",Rows.laid_unicode_CaseRanges),("unicode/utf8.first",Rows.laid_unicode_utf8_first)]
def db64:List Int:=[0,1,56,2,57,49,28,3,61,58,42,50,38,29,17,4,62,47,59,36,45,43,51,22,53,39,33,30,24,18,12,5,63,55,48,27,60,41,37,16,46,35,44,21,52,32,23,11,54,26,40,15,34,20,31,10,25,14,19,9,13,8,7,6]
theorem star: "*"++ "errors.errorString"= "*errors.errorString":=by decide
theorem rowE(u:TypeId)(h:Tryz.prog.typeName? 3 u=some "*errors.errorString"):u=317:=
 typeName_ptr_named (nm:= "errors.errorString") (by rw[star];kernel_rfl) (by kernel_rfl) (by decide) u (by rw[star];exact h)
theorem gPow:Tryz.prog.globalNamed "internal/strconv.uint64pow10"=some 4:=by kernel_rfl
theorem gDb:Tryz.prog.globalNamed "math/bits.deBruijn64tab"=some 8:=by kernel_rfl
theorem gErr:Tryz.prog.globalNamed "strconv.ErrSyntax"=some 5:=by kernel_rfl
theorem lay_of{W:World}(hL:laidMet Tryz.prog laidL W)(hS:W.ShapedOpen Tryz.prog):Lay W:=by
 have hdb:Lib.TabIs Tryz.prog W "math/bits.deBruijn64tab" .u8 db64:=
  Lib.tabIs_of_head (e:=5) gDb (by kernel_rfl) Tryz.underlying321 Tryz.underlying5 (by kernel_rfl) (by kernel_rfl) (show laidMet Tryz.prog (("math/bits.deBruijn64tab",Lib.tabData .u8 db64)::_) W from hL.tail)
 have hpw:Lib.TabIs Tryz.prog W "internal/strconv.uint64pow10" .u64 Lib.pow10Tab:=
  Lib.tabIs_of_head (e:=241) gPow (by kernel_rfl) Tryz.underlying309 Tryz.underlying241 (by kernel_rfl) (by kernel_rfl) (show laidMet Tryz.prog (("internal/strconv.uint64pow10",Lib.tabData .u64 Lib.pow10Tab)::_) W from hL.tail.tail)
 obtain⟨a0,t0,hv0,-,-,-⟩:=laid_sentinel (g:=5) hL.tail.tail.tail.tail.tail (by kernel_rfl) (by kernel_rfl) Tryz.underlying130 rowE Tryz.underlying317 Tryz.underlying319 rfl rfl Tryz.underlying9 (by kernel_rfl) (by kernel_rfl)
 have c15:W.cell? ⟨8,15,none⟩=some (.int .u8 4):=hdb.cell gDb 15 (by decide)
 have hsz:8<W.heap.size:=by
  rcases Nat.lt_or_ge 8 W.heap.size with f|f
  ·exact f
  ·simp[World.cell?,Array.getElem?_eq_none f]at c15
 refine⟨hsz,?_,⟨_,_,World.var?_cell gErr hv0 0⟩,fun w' hb=> ?_,c15⟩
 ·exact Go.Proofs.cell_of_shapedOpen_int (g:=1) (zero:=#[.int .i64 0]) (t:=3) hS (of_decide_eq_true (by kernel_rfl)) (by kernel_rfl) rfl (by kernel_rfl) (by kernel_rfl) Tryz.underlying3
 ·exact var?_below hb gPow (by omega) hpw
noncomputable def laidWorld(os:Os):World:=
 let N:=(World.settled Tryz.prog os).heap.size
 let w0:=World.holding Tryz.prog os ⟨#[.cells #[.string ⟨#[105,110,118,97,108,105,100,32,115,121,110,116,97,120]⟩] 319,.cells #[.string ⟨#[118,97,108,117,101,32,111,117,116,32,111,102,32,114,97,110,103,101]⟩] 319,.cells Lib.caseCells5 301],#[],[]⟩
 let put (h:Array Obj) (g:Nat) (cs:Array Value):Array Obj:=h.modify g fun
  |.cells _ t frozen=>.cells cs t frozen
  |o=>o
 let h0:=put (put w0.heap 5 #[.iface 317 (.pointer (some ⟨N,0,none⟩))]) 6 #[.iface 317 (.pointer (some ⟨N+1,0,none⟩))]
 let h1:=put h0 2 (Lib.firstTab.map fun z=>Value.int .u8 z).toArray
 let h2:=put h1 3 ((List.range 16).flatMap fun i=>[Value.int .u8 (Lib.accLo i),Value.int .u8 (Lib.accHi i)]).toArray
 let h3:=put h2 4 (Lib.pow10Tab.map fun z=>Value.int .u64 z).toArray
 let h4:=put h3 8 (db64.map fun z=>Value.int .u8 z).toArray
 let h5:=put h4 7 (([0,1,28,2,29,14,24,3,30,22,20,15,25,17,4,8,31,27,13,23,21,19,16,7,26,12,18,6,11,5,10,9]:List Int).map fun z=>Value.int .u8 z).toArray
 let h6:=put h5 0 #[.slice (some ⟨N+2,0,none⟩) caseA.size caseA.size]
 {w0 with heap:=h6}
noncomputable abbrev N0:Nat:=(World.settled Tryz.prog default).heap.size
theorem laidVars_split{P:Program}{w:World}:∀{l l':List (String×DataW Unit)} {ps:List MemPlace},DataW.LaidVars P w (l++l') ps→∃p q,ps=p++q∧DataW.LaidVars P w l p∧DataW.LaidVars P w l' q
 |[],_,ps,h=>⟨[],ps,rfl,rfl,h⟩
 | (n,d)::r,l',ps,h=>by
  obtain⟨g,t,cs,fuel,p,q,h1,h2,h3,h4,h5,rfl⟩:=h
  obtain⟨p',q',rfl,h6,h7⟩:=laidVars_split h5
  exact⟨MemPlace.row ⟨g,0,none⟩ cs.size++p++p',q',by simp[List.append_assoc],⟨g,t,cs,fuel,p,p',h1,h2,h3,h4,h6,rfl⟩,h7⟩
theorem laidMet_turn{P:Program}{w:World}{a b c:List (String×DataW Unit)}(h:laidMet P (a++b++c) w):laidMet P (a++c++b) w:=by
 obtain⟨ps,h1,h2,h3⟩:=h
 obtain⟨p,r,rfl,h4,h5⟩:=laidVars_split h1
 obtain⟨p,q,rfl,h6,h7⟩:=laidVars_split h4
 have hp:(p++r++q).Perm (p++q++r):=by
  rw[List.append_assoc,List.append_assoc]
  exact List.Perm.append_left _ List.perm_append_comm
 exact⟨p++r++q,LaidVars_append (LaidVars_append h6 h5) h7,hp.nodup_iff.2 h2,fun x o hx=>h3 x o (hp.mem_iff.1 hx)⟩
def laidA:List (String×DataW Unit):=[("math/bits.deBruijn32tab",Rows.laid_math_bits_deBruijn32tab),("math/bits.deBruijn64tab",Rows.laid_math_bits_deBruijn64tab),("internal/strconv.uint64pow10",Rows.laid_internal_strconv_uint64pow10),("unicode/utf8.acceptRanges",Rows.laid_unicode_utf8_acceptRanges),("strconv.ErrRange",Rows.laid_strconv_ErrRange),("strconv.ErrSyntax",Rows.laid_strconv_ErrSyntax)]
def laidF:List (String×DataW Unit):=[("unicode/utf8.first",Rows.laid_unicode_utf8_first)]
theorem case_extra:CaseExtra Tryz.prog Tryz.lays204_ren:=⟨by kernel_rfl,by kernel_rfl,by kernel_rfl,by kernel_rfl,by kernel_rfl,by kernel_rfl⟩
theorem laid_met(os:Os)(args:Array Value):laidMet Tryz.prog laidL ((laidWorld os).forCall (fun _ _=>0) ⟨#[],args,[]⟩).memory:=by
 have h:=laidMet_with_case (P:=Tryz.prog) (ρ:=Tryz.lays204_ren) {Tryz.lays204 with} Tryz.underlying298 case_extra (w:=((laidWorld os).forCall (fun _ _=>0) ⟨#[],args,[]⟩).memory) (l:=laidA++laidF) 8 (by kernel_rfl) (by kernel_rfl) (by kernel_rfl) (N0+2) 301 (of_decide_eq_true (by kernel_rfl)) (by kernel_rfl) (by kernel_rfl) (by kernel_rfl)
 have e:Rows.laid_unicode_CaseRanges=caseData:=Pinned.caseRanges_eq
 have:=laidMet_turn h
 rw[←e]at this
 exact this
end Go.Proofs.YtmlmkmhkmifnkaaGreatDoor.Ci
namespace Go.Proofs.YtmlmkmhkmifnkaaGreatDoor.Tb
open Go.ChangeShapes Go.WideShapes Go.Deep Go.RowKit Go.Lib
open Ma (Pt Pts ptC)
open Ci (Bel Lay laidL lay_of)
theorem laid_first:("unicode/utf8.first",Lib.firstData)∈laidL:=by
 have e:Rows.laid_unicode_utf8_first=Lib.firstData:=by kernel_rfl
 rw[←e]
 unfold laidL
 simp
theorem laid_accept:("unicode/utf8.acceptRanges",Lib.acceptData)∈laidL:=by
 have e:Rows.laid_unicode_utf8_acceptRanges=Lib.acceptData:=by kernel_rfl
 rw[←e]
 unfold laidL
 simp
theorem nF:Tryz.prog.globalNamed "unicode/utf8.first"=some 2:=by kernel_rfl
theorem nA:Tryz.prog.globalNamed "unicode/utf8.acceptRanges"=some 3:=by kernel_rfl
theorem tabs_of{W:World}(hL:laidMet Tryz.prog laidL W):Lib.Utf8Tabs 2 3 W:=by
 have h3:=Lib.laidMet.reads hL laid_first
 have h4:=Lib.laidMet.reads hL laid_accept
 refine⟨fun c hc=> ?_,fun i hi=> ?_⟩
 ·obtain⟨g,t,cs,fuel,p,hg,hty,hvar,hd⟩:=h3
  obtain rfl:=Option.some.inj (nF.symm.trans hg)
  obtain rfl:279=t:=Option.some.inj ((show(Tryz.prog.globals[2]?).map (·.type)=some 279 by kernel_rfl).symm.trans hty)
  have hcs:=cells_of_tab Tryz.underlying279 Tryz.underlying5 (by kernel_rfl) (by kernel_rfl) hd
  have:=World.var?_cell hg hvar c
  rw[this,←Array.getElem?_toList,hcs]
  simp[firstTab,hc]
 ·obtain⟨g,t,cs,fuel,p,hg,hty,hvar,hd⟩:=h4
  obtain rfl:=Option.some.inj (nA.symm.trans hg)
  obtain rfl:282=t:=Option.some.inj ((show(Tryz.prog.globals[3]?).map (·.type)=some 282 by kernel_rfl).symm.trans hty)
  obtain⟨fuel',d,q,hdi,he⟩:=array_elem Tryz.underlying282 hd i hi
  simp only[List.getElem?_map,List.getElem?_range hi,Option.map_some,Option.some.injEq]at hdi
  subst hdi
  rw[show Tryz.prog.cellsOf 281=2 by kernel_rfl]at he
  have hcs:=ints_of_struct Tryz.underlying281 (fun j f hj=>by
   match j,hj with
   |0,hj=>simp at hj;subst hj;exact⟨Tryz.underlying5,rfl,by kernel_rfl⟩
   |1,hj=>simp at hj;subst hj;exact⟨Tryz.underlying5,rfl,by kernel_rfl⟩
   |j+2,hj=>simp at hj) (by kernel_rfl) he
  have e0:=congrArg (·[0]?) hcs
  have e1:=congrArg (·[1]?) hcs
  simp only[List.getElem?_take,List.getElem?_drop]at e0 e1
  constructor
  ·rw[World.var?_cell hg hvar (2*i),←Array.getElem?_toList]
   simpa[Nat.mul_comm]using e0
  ·rw[World.var?_cell hg hvar (2*i+1),←Array.getElem?_toList]
   simpa[Nat.mul_comm]using e1
theorem lat_of{W:World}(hL:laidMet Tryz.prog laidL W)(hS:W.ShapedOpen Tryz.prog):Lat W:=by
 exact⟨lay_of hL hS,(lay_of hL hS).size,fun w' hb=>Utf8Tabs_below (tabs_of hL) hb⟩
theorem bulk_le{H:Type}:∀l:List (DataW H),l.length≤Rows.uptoBulkAll l:=by
 intro l
 induction l with
 |nil=>exact Nat.zero_le _
 |cons e l ih=>
  have:1≤Rows.uptoBulk e:=by
   cases e with
   |lit q=>cases q<;>simp[Rows.uptoBulk]
   |_=>simp[Rows.uptoBulk]
  rw[Rows.uptoBulkAll,List.length_cons];omega
theorem sts_of {H:Type} {enc:TypeId×Value→H} {W:World} {x:Option Addr} {len cap:Nat} {d:DataW H} {ps:List MemPlace}
 (h:DataW.Trod enc Tryz.prog W 0 (fun _=>true) true 22 (.slice x len cap) d ps):
 ∃bs:List ByteArray,len=bs.length∧Sts W x bs∧(∀b∈bs,b.size≤Rows.uptoBulk d)∧bs.length≤Rows.uptoBulk d:=by
 obtain⟨fuel,hf⟩:=h
 rcases open_strings Tryz.underlying22 Tryz.underlying9 Ma.cellsS hf with⟨hcs,-⟩|⟨a,l,c,ss,hcs,-,hl,hm,hz,hx,hc,hsz⟩
 ·simp[Value.cells]at hcs
  obtain⟨rfl,rfl,rfl⟩:=hcs
  exact⟨[],rfl,⟨.inl rfl⟩,by simp,by simp⟩
 ·simp[Value.cells]at hcs
  obtain⟨rfl,rfl,rfl⟩:=hcs
  simp only[if_true]at hz
  simp only[Prod.mk.injEq]at hx
  have hlen:(ss.take len).length=len:=by rw[List.length_take,hz];omega
  have hbd:∀b∈ss.take len,b.size≤Rows.uptoBulk d:=by
   intro b hb
   rw[hx.1]
   have:=Ma.bulk_mem (H:=H) (Go.ChangeShapes.strs (ss.take len)) (.lit (.string b.data.toList)) (List.mem_map.2 ⟨b,hb,rfl⟩)
   have e:Rows.uptoBulk (DataW.lit (.string b.data.toList):DataW H)=b.data.toList.length+1:=rfl
   rw[e,←Lib.size_eq]at this
   rw[Rows.uptoBulk];omega
  have hln:len≤Rows.uptoBulk d:=by
   rw[hx.1,Rows.uptoBulk]
   have:=bulk_le (H:=H) (Go.ChangeShapes.strs (ss.take len))
   have e:(Go.ChangeShapes.strs (ss.take len):List (DataW H)).length=len:=by unfold Go.ChangeShapes.strs;rw[List.length_map,hlen]
   rw[e]at this
   omega
  refine⟨ss.take len,hlen.symm,⟨?_⟩,hbd,by rw[hlen];exact hln⟩
  by_cases h0:len=0
  ·left;rw[h0];rfl
  ·right
   have h00:=hc 0 (by omega)
   obtain⟨b,o,sp⟩:=a
   have hsp:sp=none:=by simpa[Addr.add]using World.cell?_spot h00
   subst hsp
   refine⟨b,o,rfl,?_,?_⟩
   ·refine Nat.lt_of_not_le fun hge=> ?_
    simp[Addr.add,World.cell?,Array.getElem?_eq_none hge]at h00
   ·intro k hk
    have hk':k<len:=by rw[hlen]at hk;exact hk
    have h:=hc k (by omega)
    rw[Ci.addr_add]at h
    rw[h,List.getElem_take,List.getD_eq_getElem?_getD,List.getElem?_eq_getElem (by omega)]
    rfl
theorem pt_of {H:Type} {enc:TypeId×Value→H} {W:World} {r:Reach} {b0:Nat} {v:Value} {d:DataW H} {ps:List MemPlace} (hv:Value.okWide Tryz.prog W r b0 26 v)
 (h:DataW.Trod enc Tryz.prog W 0 (fun _=>true) true 26 v d ps):∃p:Pt,v=.agg (ptC p).toArray∧p.loc.length≤Rows.uptoBulk d∧p.dom.length≤Rows.uptoBulk d:=by
 obtain⟨cs,rfl,hsz⟩:=okWide_struct Tryz.underlying26 hv
 obtain⟨fuel,hf⟩:=h
 obtain⟨p,e,h1,h2⟩:=Ma.pt_trod hf
 refine⟨p,?_,h1,h2⟩
 rw[←e]
 simp[Value.cells]
end Go.Proofs.YtmlmkmhkmifnkaaGreatDoor.Tb
namespace Go.Proofs.YtmlmkmhkmifnkaaGreatDoor.Tb
open Go.ChangeShapes Go.WideShapes Go.Deep Go.RowKit Go.Lib
open Ma (Pt Pts ptC)
open Ci (Bel Lay)
theorem cellsTx:Tryz.prog.cellsOf 22=1:=by kernel_rfl
theorem cellsAk:Tryz.prog.cellsOf 24=2:=by kernel_rfl
theorem asked_of {H:Type} {enc:TypeId×Value→H} {W:World} {r:Reach} {b0:Nat} {v:Value} {d:DataW H} {ps:List MemPlace} (hv:Value.okWide Tryz.prog W r b0 24 v)
 (h:DataW.Trod enc Tryz.prog W 0 (fun _=>true) true 24 v d ps):∃(hs:ByteArray) (x:Option Addr) (bs:List ByteArray) (cap:Nat),v=.agg #[.string hs,.slice x bs.length cap]∧hs.size≤Rows.uptoBulk d∧Sts W x bs:=by
 obtain⟨cs,rfl,hsz⟩:=okWide_struct Tryz.underlying24 hv
 obtain⟨fuel,hf⟩:=h
 obtain⟨ys,n',hn',hy,hlen,hyl,hfs⟩:=DataW.trod_struct Tryz.underlying24 hf
 rw[cellsAk]at hlen
 have h0:DataW.trod enc Tryz.prog W 0 (fun _=>true) true n' 9 (((Value.agg cs).cells.toList.drop 0).take (Tryz.prog.cellsOf 9))=ys[0]?:=hfs 0 _ rfl
 have h1:DataW.trod enc Tryz.prog W 0 (fun _=>true) true n' 22 (((Value.agg cs).cells.toList.drop 1).take (Tryz.prog.cellsOf 22))=ys[1]?:=hfs 1 _ rfl
 rw[Ma.cellsS]at h0
 rw[cellsTx]at h1
 have hyl2:ys.length=2:=hyl
 match ys,hyl2 with
 |[y0,y1],_=>
  have hcl:(Value.agg cs).cells.toList.length=2:=hlen
  generalize hcs:(Value.agg cs).cells.toList=l at h0 h1 hcl
  match l,hcl with
  |[a0,a1],_=>
   obtain⟨s0,e0,d0,-⟩:=DataW.trod_string Tryz.underlying9 (x:=y0) h0
   have f0:a0=.string s0:=by simpa using e0
   have h1':DataW.trod enc Tryz.prog W 0 (fun _=>true) true n' 22 [a1]=some y1:=h1
   have key:∃x len cap,a1=.slice x len cap:=by
    rcases open_strings Tryz.underlying22 Tryz.underlying9 Ma.cellsS h1' with⟨hc2,-⟩|⟨a,l,c,ss,hc2,-⟩
    ·exact⟨_,_,_,List.head_eq_of_cons_eq hc2⟩
    ·exact⟨_,_,_,List.head_eq_of_cons_eq hc2⟩
   obtain⟨x,len,cap,rfl⟩:=key
   have hT:DataW.Trod enc Tryz.prog W 0 (fun _=>true) true 22 (.slice x len cap) y1.1 y1.2:=⟨n',h1'⟩
   obtain⟨bs,rfl,hS,-,-⟩:=sts_of hT
   refine⟨s0,x,bs,cap,?_,?_,hS⟩
   ·have e:cs=#[a0,.slice x bs.length cap]:=by
     have:cs.toList=[a0,.slice x bs.length cap]:=by simpa[Value.cells]using hcs
     rw[←Array.toArray_toList (xs:=cs),this]
    rw[e,f0]
   ·have hb:d=(.agg [y0.1,y1.1]:DataW H):=by
     have:=congrArg Prod.fst hy
     simpa using this
    rw[hb]
    have k1:Rows.uptoBulk y0.1=s0.data.toList.length+1:=by rw[d0];rfl
    have k2:Rows.uptoBulk (.agg [y0.1,y1.1]:DataW H)=Rows.uptoBulk y0.1+(Rows.uptoBulk y1.1+0)+1:=rfl
    rw[k2,Lib.size_eq]
    omega
end Go.Proofs.YtmlmkmhkmifnkaaGreatDoor.Tb