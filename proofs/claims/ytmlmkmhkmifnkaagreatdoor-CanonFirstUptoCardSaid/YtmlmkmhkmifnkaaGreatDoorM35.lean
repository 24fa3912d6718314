import Derived.Test.YtmlmkmhkmifnkaaGreatDoorM33
set_option maxHeartbeats 16000000
set_option maxRecDepth 1000000
namespace Go.Proofs.YtmlmkmhkmifnkaaGreatDoor.Tb
open Go.RowKit
open Ci (Bel hid own_bel row_shape own_base addr_add Aft wp_region_aft Lay Calls.aft quiet_load_aft)
open Ma (Pt ptC ptC_one ptC_range pt_size zeroP domainQ rightP wpList_store_blk load_pt)
theorem sts_one{w:World}(s:ByteArray):Sts (w.alloc (.cells #[.string s] 9)) (some ⟨w.heap.size,0,none⟩) [s]:=⟨.inr ⟨w.heap.size,0,rfl,by rw[World.size_alloc];omega,fun k hk=>by
 obtain rfl:k=0:=by simp at hk;omega
 rw[Lib.cell_of_heap (heap_alloc_new w _)];rfl⟩⟩
theorem sts_two{w:World}(s t:ByteArray):Sts (w.alloc (.cells #[.string s,.string t] 9)) (some ⟨w.heap.size,0,none⟩) [s,t]:=⟨.inr ⟨w.heap.size,0,rfl,by rw[World.size_alloc];omega,fun k hk=>by
 have hk2:k=0∨k=1:=by simp at hk;omega
 rcases hk2 with rfl|rfl
 ·rw[Lib.cell_of_heap (heap_alloc_new w _)];rfl
 ·rw[Lib.cell_of_heap (heap_alloc_new w _)];rfl⟩⟩
theorem err_ne{h:List UInt8}{L:List (List UInt8)}{k:Int}(hn:newC h L=.error k):(k==0)=false:=by
 have hk:k≠0:=by
  unfold newC at hn
  split at hn
  ·cases hn;decide
  ·split at hn<;>cases hn
   decide
 simpa using hk
theorem two_one{h:List UInt8}{s t:List UInt8}{ts us:List (List En)}(h1:newC h [s]=.ok ts)(h2:newC h [s,t]=.ok us):∃es r,ts=[es]∧us=es::r:=by
 have e1:newT [s] []=match tparse s with|none=>none|some es=>if valsC es then newT [] ([]++[es])else none:=rfl
 have e2:newT [s,t] []=match tparse s with|none=>none|some es=>if valsC es then newT [t] ([]++[es])else none:=rfl
 have g1:newT [s] []=some ts:=by
  unfold newC at h1
  split at h1
  ·cases h1
  ·split at h1
   ·cases h1
   ·rename_i x hx;rw[hx];cases h1;rfl
 have g2:newT [s,t] []=some us:=by
  unfold newC at h2
  split at h2
  ·cases h2
  ·split at h2
   ·cases h2
   ·rename_i x hx;rw[hx];cases h2;rfl
 rw[e1]at g1
 rw[e2]at g2
 cases hp:tparse s with
 |none=>rw[hp]at g1;cases g1
 |some es=>
  rw[hp]at g1 g2
  simp only at g1 g2
  by_cases hv:valsC es=true
  ·rw[if_pos hv]at g1 g2
   cases g1
   obtain⟨r,hr,-⟩:=newT_app _ _ _ g2
   exact⟨es,r,rfl,hr⟩
  ·rw[if_neg hv]at g1;cases g1
theorem first_law(s t:ByteArray)(pa:Pt)(w:World)(hw:Lat w)(hp:pa.loc.length≤4194304∧pa.dom.length≤4194304):
 Calls Tryz.prog 6 #[.string s,.string t,.agg (ptC pa).toArray] w fun e w'=>e=.returned (.bool true)∧Bel w w':=by
 obtain⟨W1,hW1⟩:∃W1,W1=w.alloc (.cells (ptC pa).toArray 26):=⟨_,rfl⟩
 have HB1:=hid (show Bel w W1 by rw[hW1];exact(Bel.refl w).alloc _)
 have HPt:=hid (show∀W,Bel W1 W→W.heap[w.heap.size]?=some (.cells (ptC pa).toArray 26 (0,0))from fun W hW=>hW.heap (by rw[hW1];exact heap_alloc_new w _))
 have HAw:=hid (fun W (hW:Bel w W)=>cawake_run W (hw.next hW))
 have hmx:(⟨mxE.toArray⟩:ByteArray).size≤4194304:=by rw[Lib.size_eq];exact of_decide_eq_true (by kernel_rfl)
 have onee:∀k,newC mxE [s.data.toList]=.error k→∀W,Bel w W→Calls Tryz.prog 11 #[.string ⟨#[109,120,46,101,120,97,109,112,108,101]⟩,.slice (some ⟨W.heap.size,0,none⟩) 1 1] (W.alloc (.cells #[.string s] 9)) fun e w'=>e=.returned (.tuple #[.pointer none,.int .i64 k])∧Bel (W.alloc (.cells #[.string s] 9)) w':=fun k hn W hW=>new_err (h:=⟨mxE.toArray⟩) (bs:=[s]) (c:=1) (hw.next (hW.alloc _)) hmx (sts_one s) hn _ (Bel.refl _)
 have oneo:∀ts,newC mxE [s.data.toList]=.ok ts→∀W,Bel w W→Calls Tryz.prog 11 #[.string ⟨#[109,120,46,101,120,97,109,112,108,101]⟩,.slice (some ⟨W.heap.size,0,none⟩) 1 1] (W.alloc (.cells #[.string s] 9)) fun e w'=>∃b:Nat,e=.returned (.tuple #[.pointer (some ⟨b,0,none⟩),.int .i64 0])∧Bel (W.alloc (.cells #[.string s] 9)) w'∧CnAt w' (some ⟨b,0,none⟩) mxE ts:=fun ts hn W hW=>new_good (h:=⟨mxE.toArray⟩) (bs:=[s]) (c:=1) (hw.next (hW.alloc _)) hmx (sts_one s) hn _ (Bel.refl _)
 have twoe:∀k,newC mxE [s.data.toList,t.data.toList]=.error k→∀W,Bel w W→Calls Tryz.prog 11 #[.string ⟨#[109,120,46,101,120,97,109,112,108,101]⟩,.slice (some ⟨W.heap.size,0,none⟩) 2 2] (W.alloc (.cells #[.string s,.string t] 9)) fun e w'=>e=.returned (.tuple #[.pointer none,.int .i64 k])∧Bel (W.alloc (.cells #[.string s,.string t] 9)) w':=fun k hn W hW=>new_err (h:=⟨mxE.toArray⟩) (bs:=[s,t]) (c:=2) (hw.next (hW.alloc _)) hmx (sts_two s t) hn _ (Bel.refl _)
 have twoo:∀ts,newC mxE [s.data.toList,t.data.toList]=.ok ts→∀W,Bel w W→Calls Tryz.prog 11 #[.string ⟨#[109,120,46,101,120,97,109,112,108,101]⟩,.slice (some ⟨W.heap.size,0,none⟩) 2 2] (W.alloc (.cells #[.string s,.string t] 9)) fun e w'=>∃b:Nat,e=.returned (.tuple #[.pointer (some ⟨b,0,none⟩),.int .i64 0])∧Bel (W.alloc (.cells #[.string s,.string t] 9)) w'∧CnAt w' (some ⟨b,0,none⟩) mxE ts:=fun ts hn W hW=>new_good (h:=⟨mxE.toArray⟩) (bs:=[s,t]) (c:=2) (hw.next (hW.alloc _)) hmx (sts_two s t) hn _ (Bel.refl _)
 have roneo:∀ts,newC mxE [s.data.toList]=.ok ts→∀W,Bel w W→Calls Tryz.prog 12 #[.string ⟨#[109,120,46,101,120,97,109,112,108,101]⟩,.slice (some ⟨W.heap.size,0,none⟩) 1 1] (W.alloc (.cells #[.string s] 9)) fun e w'=>∃b:Nat,e=.returned (.tuple #[.pointer (some ⟨b,0,none⟩),.int .i64 0])∧Bel (W.alloc (.cells #[.string s] 9)) w'∧RCnAt w' (some ⟨b,0,none⟩) mxE ts:=fun ts hn W hW=>rnew_good (h:=⟨mxE.toArray⟩) (bs:=[s]) (c:=1) hmx (sts_one s) hn _ (Bel.refl _)
 cases h1:newC mxE [s.data.toList]with
 |error k1=>
  have hk1:=err_ne h1
  have hk1':¬k1=0:=by simpa using hk1
  have H1:=hid (onee k1 h1)
  cases h2:newC mxE [s.data.toList,t.data.toList]with
  |error k2=>
   have H2:=hid (twoe k2 h2)
   clear onee oneo twoe twoo roneo hw hp h1 h2 hmx
   go_enter Tryz.func6,Tryz.ntmps6
   go_wp2_with (first|(go_at_call 10;(try rw[←hW1]);with_reducible refine(HAw.out W1 HB1.out).mono ?_;rintro _ W2 ⟨rfl,hb2⟩;have HX2:=hid hb2;have HB2:=hid (HB1.out.trans hb2);clear hb2)|(go_at_call 11;with_reducible refine(H1.out W2 HB2.out).mono ?_;rintro _ W3 ⟨rfl,hb3⟩;have HB23:=hid (show Bel W2 W3 from((Bel.refl W2).alloc _).trans hb3);have HX3:=hid (HX2.out.trans HB23.out);have HB3:=hid (HB2.out.trans HB23.out);clear hb3)|(go_at_call 11;with_reducible refine(H2.out W3 HB3.out).mono ?_;rintro _ W4 ⟨rfl,hb4⟩;have HB34:=hid (show Bel W3 W4 from((Bel.refl W3).alloc _).trans hb4);have HX4:=hid (HX3.out.trans HB34.out);have HB4:=hid (HB3.out.trans HB34.out);clear hb4))
   go_ret
   exact⟨rfl,HB4.out⟩
  |ok us=>
   have H2:=hid (twoo us h2)
   clear onee oneo twoe twoo roneo hw hp h1 h2 hmx
   go_enter Tryz.func6,Tryz.ntmps6
   go_wp2_with (first|(go_at_call 10;(try rw[←hW1]);with_reducible refine(HAw.out W1 HB1.out).mono ?_;rintro _ W2 ⟨rfl,hb2⟩;have HX2:=hid hb2;have HB2:=hid (HB1.out.trans hb2);clear hb2)|(go_at_call 11;with_reducible refine(H1.out W2 HB2.out).mono ?_;rintro _ W3 ⟨rfl,hb3⟩;have HB23:=hid (show Bel W2 W3 from((Bel.refl W2).alloc _).trans hb3);have HX3:=hid (HX2.out.trans HB23.out);have HB3:=hid (HB2.out.trans HB23.out);clear hb3)|(go_at_call 11;with_reducible refine(H2.out W3 HB3.out).mono ?_;rintro _ W4 ⟨b4,rfl,hb4,hc4⟩;have HB34:=hid (show Bel W3 W4 from((Bel.refl W3).alloc _).trans hb4);have HX4:=hid (HX3.out.trans HB34.out);have HB4:=hid (HB3.out.trans HB34.out);have HC4:=hid hc4;clear hc4;clear hb4))
   go_ret
   exact⟨rfl,HB4.out⟩
 |ok ts=>
  have H1:=hid (oneo ts h1)
  cases h2:newC mxE [s.data.toList,t.data.toList]with
  |error k2=>
   have hk2:=err_ne h2
   have hk2':¬k2=0:=by simpa using hk2
   have H2:=hid (twoe k2 h2)
   clear onee oneo twoe twoo roneo hw hp h1 h2 hmx
   go_enter Tryz.func6,Tryz.ntmps6
   go_wp2_with (first|(go_at_call 10;(try rw[←hW1]);with_reducible refine(HAw.out W1 HB1.out).mono ?_;rintro _ W2 ⟨rfl,hb2⟩;have HX2:=hid hb2;have HB2:=hid (HB1.out.trans hb2);clear hb2)|(go_at_call 11;with_reducible refine(H1.out W2 HB2.out).mono ?_;rintro _ W3 ⟨b3,rfl,hb3,hc3⟩;have HB23:=hid (show Bel W2 W3 from((Bel.refl W2).alloc _).trans hb3);have HX3:=hid (HX2.out.trans HB23.out);have HB3:=hid (HB2.out.trans HB23.out);have HC3:=hid hc3;clear hc3;clear hb3)|(go_at_call 11;with_reducible refine(H2.out W3 HB3.out).mono ?_;rintro _ W4 ⟨rfl,hb4⟩;have HB34:=hid (show Bel W3 W4 from((Bel.refl W3).alloc _).trans hb4);have HX4:=hid (HX3.out.trans HB34.out);have HB4:=hid (HB3.out.trans HB34.out);clear hb4))
   go_ret
   exact⟨rfl,HB4.out⟩
  |ok us=>
   have H2:=hid (twoo us h2)
   have H3:=hid (roneo ts h1)
   obtain⟨es,r,rfl,rfl⟩:=two_one h1 h2
   have HP1:=(show Hid (∀W b,Bel w W→CnAt W (some ⟨b,0,none⟩) mxE [es]→Calls Tryz.prog 13 #[.pointer (some ⟨b,0,none⟩),.agg (ptC pa).toArray] W fun e w'=>e=.returned (.agg (ptC (pathC mxE [es] pa)).toArray)∧Bel W w')from fun W b hW hC=>cpath_run _ _ [es] pa W (hw.next hW) hC hp.1 hp.2)
   have HP2:=(show Hid (∀W b,Bel w W→CnAt W (some ⟨b,0,none⟩) mxE (es::r)→Calls Tryz.prog 13 #[.pointer (some ⟨b,0,none⟩),.agg (ptC pa).toArray] W fun e w'=>e=.returned (.agg (ptC (pathC mxE (es::r) pa)).toArray)∧Bel W w')from fun W b hW hC=>cpath_run _ _ (es::r) pa W (hw.next hW) hC hp.1 hp.2)
   have HFs:=hid (fun(v:List UInt8) (ha:askQ [es] (domC mxE pa).loc (domC mxE pa).dom=some v)=>first_same (r:=r) ha)
   have HAs:=hid (fun(x:Option Addr) (c:Nat) (W:World) (hT:RTabs W x [es]) (hA:∀e∈[es],Asc e) (l d:List UInt8) (hl:l.length≤4194304) (hd:d.length≤4194304)=>rask_run x c [es] ⟨l.toArray⟩ ⟨d.toArray⟩ W hT hA (by show 1≤8;decide) (by rw[Lib.size_eq];exact hl) (by rw[Lib.size_eq];exact hd))
   have HPp:=hid hp
   clear onee oneo twoe twoo roneo hw hp h1 h2 hmx
   have hdl:(domC mxE pa).loc=pa.loc:=by unfold domC;split<;>rfl
   rw[hdl]at HFs
   have HSd:Hid ((domC mxE pa).dom.length≤4194304):=hid (by
    unfold domC
    split
    ·show mxE.length≤4194304;exact of_decide_eq_true (by kernel_rfl)
    ·exact HPp.out.2)
   generalize hdd:(domC mxE pa).dom=dm at HFs HSd
   have HDD:=hid hdd
   clear hdd hdl
   by_cases hdm:pa.dom=[]
   ·have d1:(⟨pa.dom.toArray⟩:ByteArray).toList=[]:=by rw[ByteArray.toList_eq,hdm]
    have d0:((⟨pa.dom.toArray⟩:ByteArray).toList==[])=true:=by rw[d1];rfl
    have hde:dm=mxE:=by rw[←HDD.out];unfold domC;rw[if_pos hdm]
    have HDe:=hid hde
    clear hde hdm
    obtain⟨db,hdb⟩:∃db:ByteArray,db=⟨pa.dom.toArray⟩:=⟨_,rfl⟩
    rw[←hdb]at d0 d1
    have HDb:=hid hdb
    clear hdb
    go_enter Tryz.func6,Tryz.ntmps6
    go_wp2_with (first|(go_at_call 10;(try rw[←hW1]);with_reducible refine(HAw.out W1 HB1.out).mono ?_;rintro _ W2 ⟨rfl,hb2⟩;have HX2:=hid hb2;have HB2:=hid (HB1.out.trans hb2);clear hb2)|(go_at_call 11;with_reducible refine(H1.out W2 HB2.out).mono ?_;rintro _ W3 ⟨b3,rfl,hb3,hc3⟩;have HB23:=hid (show Bel W2 W3 from((Bel.refl W2).alloc _).trans hb3);have HX3:=hid (HX2.out.trans HB23.out);have HB3:=hid (HB2.out.trans HB23.out);have HC3:=hid hc3;clear hc3;clear hb3)|(go_at_call 11;with_reducible refine(H2.out W3 HB3.out).mono ?_;rintro _ W4 ⟨b4,rfl,hb4,hc4⟩;have HB34:=hid (show Bel W3 W4 from((Bel.refl W3).alloc _).trans hb4);have HX4:=hid (HX3.out.trans HB34.out);have HB4:=hid (HB3.out.trans HB34.out);have HC4:=hid hc4;clear hc4;clear hb4)|(go_at_call 12;with_reducible refine(H3.out W4 HB4.out).mono ?_;rintro _ W5 ⟨b5,rfl,hb5,hc5⟩;have HB45:=hid (show Bel W4 W5 from((Bel.refl W4).alloc _).trans hb5);have HX5:=hid (HX4.out.trans HB45.out);have HB5:=hid (HB4.out.trans HB45.out);have HC5:=hid hc5;clear hc5;have k5:W5.cell? ⟨w.heap.size,2,none⟩=some (.string db):=(by rw[HDb.out];exact(pt_cells (HPt.out _ HX5.out)).2.2.1);clear hb5))
    obtain⟨xt,ct,hcb,hct⟩:∃xt ct,W5.heap[b5]?=some (.cells #[.string ⟨mxE.toArray⟩,.slice xt 1 ct] 44 (0,0))∧RTabs W5 xt [es]:=by
     obtain⟨b,xt,ct,e,h1,h2⟩:=HC5.out.at_
     cases e
     exact⟨xt,ct,h1,h2⟩
    have e1:∀P:Aft W5,P.wd.cell? ⟨b5,1,none⟩=some (.slice xt 1 ct):=fun P=>by rw[Lib.cell_of_heap (P.bel.heap hcb)];rfl
    have e2:∀P:Aft W5,P.wd.cell? ⟨w.heap.size,1,none⟩=some (.string ⟨pa.loc.toArray⟩):=fun P=>(pt_cells (P.bel.heap (HPt.out _ HX5.out))).2.1
    have HAq:=(show Hid (∀P:Aft W5,Calls Tryz.prog 18 #[.slice xt 1 ct,.int .i64 1,.string ⟨pa.loc.toArray⟩,.string ⟨#[109,120,46,101,120,97,109,112,108,101]⟩] P.wd fun e w'=>e=.returned (.tuple (optV (askQ [es] pa.loc dm)))∧Bel P.wd w')from fun P=>by
     have:=HAs.out xt ct P.wd (hct.next P.bel) HC5.out.asc pa.loc dm HPp.out.1 HSd.out
     rw[HDe.out]at this⊢
     exact this)
    clear hcb hct
    generalize hav:askQ [es] pa.loc dm=av at HAq
    cases av with
    |none=>
     have HAq:=(show Hid (∀P:Aft W5,Calls Tryz.prog 18 #[.slice xt 1 ct,.int .i64 1,.string ⟨pa.loc.toArray⟩,.string ⟨#[109,120,46,101,120,97,109,112,108,101]⟩] P.wd fun e w'=>e=.returned (.tuple #[.string ⟨#[]⟩,.bool false])∧Bel P.wd w')from HAq.out)
     clear hav
     refine wp_region_aft (by kernel_rfl) (by kernel_rfl) ?_
     repeat (first|go_big_quiet_skip|go_big_quiet_step (first|(go_at_call 18;exact Calls.aft (HAq.out _)))|quiet_step (first|(go_at_call 18;exact Calls.aft (HAq.out _))))
     refine wpQuiet_nil ?_
     rintro _ ⟨P6,rfl⟩
     obtain⟨W6,hb6⟩:∃W6,W6=P6.wd:=⟨_,rfl⟩
     have HB6:=hid (show Bel W5 W6 by rw[hb6];exact P6.bel)
     rw[←hb6]
     clear hb6 e1 e2
     go_wp2_with fail
     go_ret
     exact⟨rfl,HB5.out.trans HB6.out⟩
    |some v=>
     have HAq:=(show Hid (∀P:Aft W5,Calls Tryz.prog 18 #[.slice xt 1 ct,.int .i64 1,.string ⟨pa.loc.toArray⟩,.string ⟨#[109,120,46,101,120,97,109,112,108,101]⟩] P.wd fun e w'=>e=.returned (.tuple #[.string ⟨v.toArray⟩,.bool true])∧Bel P.wd w')from HAq.out)
     have hsame:=HFs.out v hav
     rw[hsame]at HP2
     clear hsame
     generalize pathC mxE [es] pa=q at HP1 HP2
     have heq:∀W:World,(Op.equalIn 10000 26 (.agg (ptC q).toArray) (.agg (ptC q).toArray)).run Tryz.prog W=.ok true W:=fun W=>by
      have:=eq_ptc q q W
      rw[decide_eq_true rfl]at this
      exact this
     clear hav
     refine wp_region_aft (by kernel_rfl) (by kernel_rfl) ?_
     repeat (first|go_big_quiet_skip|go_big_quiet_step (first|(go_at_call 18;exact Calls.aft (HAq.out _)))|quiet_step (first|(go_at_call 18;exact Calls.aft (HAq.out _))))
     refine wpQuiet_nil ?_
     rintro _ ⟨P6,rfl⟩
     obtain⟨W6,hb6⟩:∃W6,W6=P6.wd:=⟨_,rfl⟩
     have HB6:=hid (show Bel W5 W6 by rw[hb6];exact P6.bel)
     rw[←hb6]
     clear hb6 e1 e2
     go_wp2_with (first|(refine wpList_load_mid rfl 26 (.tmp 5) rfl (w.heap.size) 0 rfl (ptC pa) _ (ptC_range (HPt.out _ (HX5.out.trans HB6.out))) Tryz.underlying26 rfl pt_size ?_)|(go_at_call 13;with_reducible refine(HP1.out W6 b3 (HB5.out.trans HB6.out) (HC3.out.next ((HB34.out.trans HB45.out).trans HB6.out))).mono ?_;rintro _ W7 ⟨rfl,hb7⟩;have HB7:=hid (HB6.out.trans hb7);clear hb7)|(refine wpList_store_blk rfl 26 (.tmp 17) (.tmp 75) rfl (W7.heap.size) (ptC q) rfl rfl pt_size (ptC_one _) (ptC zeroP) _ (heap_alloc_new W7 _) rfl ?_;intro W8 hc8 ho8 hs8 hb8;have HB78:=hid (hb8 W7 ((Bel.refl W7).alloc _) (Nat.le_refl _));have HB8:=hid (HB7.out.trans HB78.out);have HC8:=hid hc8;clear hc8 ho8 hs8 hb8)|(refine wpList_load_mid rfl 26 (.tmp 5) rfl (w.heap.size) 0 rfl (ptC pa) _ (ptC_range (HPt.out _ (HX5.out.trans HB8.out))) Tryz.underlying26 rfl pt_size ?_)|(go_at_call 13;with_reducible refine(HP2.out W8 b4 (HB5.out.trans HB8.out) (HC4.out.next (HB45.out.trans HB8.out))).mono ?_;rintro _ W9 ⟨rfl,hb9⟩;have HB9:=hid hb9;clear hb9)|(refine wpList_store_blk rfl 26 (.tmp 18) (.tmp 78) rfl (W9.heap.size) (ptC q) rfl rfl pt_size (ptC_one _) (ptC zeroP) _ (heap_alloc_new W9 _) rfl ?_;intro W10 hc10 ho10 hs10 hb10;have HB10:=hid (HB9.out.trans (hb10 W9 ((Bel.refl W9).alloc _) (Nat.le_refl _)));have HC10:=hid hc10;clear hc10 ho10 hs10 hb10)|(refine wpList_load_mid rfl 26 (.tmp 17) rfl (W7.heap.size) 0 rfl (ptC q) _ (ptC_range (HB10.out.heap HC8.out)) Tryz.underlying26 rfl pt_size ?_)|(refine wpList_load_mid rfl 26 (.tmp 18) rfl (W9.heap.size) 0 rfl (ptC q) _ (ptC_range (HC10.out)) Tryz.underlying26 rfl pt_size ?_))
     go_ret
     exact⟨rfl,HB5.out.trans (HB8.out.trans HB10.out)⟩
   ·have d1:¬(⟨pa.dom.toArray⟩:ByteArray).toList=[]:=by rw[ByteArray.toList_eq];exact hdm
    have d0:((⟨pa.dom.toArray⟩:ByteArray).toList==[])=false:=by simpa using d1
    have hde:dm=pa.dom:=by rw[←HDD.out];unfold domC;rw[if_neg hdm]
    have HDe:=hid hde
    clear hde hdm
    obtain⟨db,hdb⟩:∃db:ByteArray,db=⟨pa.dom.toArray⟩:=⟨_,rfl⟩
    rw[←hdb]at d0 d1
    have HDb:=hid hdb
    clear hdb
    go_enter Tryz.func6,Tryz.ntmps6
    go_wp2_with (first|(go_at_call 10;(try rw[←hW1]);with_reducible refine(HAw.out W1 HB1.out).mono ?_;rintro _ W2 ⟨rfl,hb2⟩;have HX2:=hid hb2;have HB2:=hid (HB1.out.trans hb2);clear hb2)|(go_at_call 11;with_reducible refine(H1.out W2 HB2.out).mono ?_;rintro _ W3 ⟨b3,rfl,hb3,hc3⟩;have HB23:=hid (show Bel W2 W3 from((Bel.refl W2).alloc _).trans hb3);have HX3:=hid (HX2.out.trans HB23.out);have HB3:=hid (HB2.out.trans HB23.out);have HC3:=hid hc3;clear hc3;clear hb3)|(go_at_call 11;with_reducible refine(H2.out W3 HB3.out).mono ?_;rintro _ W4 ⟨b4,rfl,hb4,hc4⟩;have HB34:=hid (show Bel W3 W4 from((Bel.refl W3).alloc _).trans hb4);have HX4:=hid (HX3.out.trans HB34.out);have HB4:=hid (HB3.out.trans HB34.out);have HC4:=hid hc4;clear hc4;clear hb4)|(go_at_call 12;with_reducible refine(H3.out W4 HB4.out).mono ?_;rintro _ W5 ⟨b5,rfl,hb5,hc5⟩;have HB45:=hid (show Bel W4 W5 from((Bel.refl W4).alloc _).trans hb5);have HX5:=hid (HX4.out.trans HB45.out);have HB5:=hid (HB4.out.trans HB45.out);have HC5:=hid hc5;clear hc5;have k5:W5.cell? ⟨w.heap.size,2,none⟩=some (.string db):=(by rw[HDb.out];exact(pt_cells (HPt.out _ HX5.out)).2.2.1);clear hb5))
    obtain⟨xt,ct,hcb,hct⟩:∃xt ct,W5.heap[b5]?=some (.cells #[.string ⟨mxE.toArray⟩,.slice xt 1 ct] 44 (0,0))∧RTabs W5 xt [es]:=by
     obtain⟨b,xt,ct,e,h1,h2⟩:=HC5.out.at_
     cases e
     exact⟨xt,ct,h1,h2⟩
    have e1:∀P:Aft W5,P.wd.cell? ⟨b5,1,none⟩=some (.slice xt 1 ct):=fun P=>by rw[Lib.cell_of_heap (P.bel.heap hcb)];rfl
    have e2:∀P:Aft W5,P.wd.cell? ⟨w.heap.size,1,none⟩=some (.string ⟨pa.loc.toArray⟩):=fun P=>(pt_cells (P.bel.heap (HPt.out _ HX5.out))).2.1
    have HAq:=(show Hid (∀P:Aft W5,Calls Tryz.prog 18 #[.slice xt 1 ct,.int .i64 1,.string ⟨pa.loc.toArray⟩,.string db] P.wd fun e w'=>e=.returned (.tuple (optV (askQ [es] pa.loc dm)))∧Bel P.wd w')from fun P=>by
     have:=HAs.out xt ct P.wd (hct.next P.bel) HC5.out.asc pa.loc dm HPp.out.1 HSd.out
     rw[HDe.out]at this⊢
     rw[HDb.out];exact this)
    clear hcb hct
    generalize hav:askQ [es] pa.loc dm=av at HAq
    cases av with
    |none=>
     have HAq:=(show Hid (∀P:Aft W5,Calls Tryz.prog 18 #[.slice xt 1 ct,.int .i64 1,.string ⟨pa.loc.toArray⟩,.string db] P.wd fun e w'=>e=.returned (.tuple #[.string ⟨#[]⟩,.bool false])∧Bel P.wd w')from HAq.out)
     clear hav
     refine wp_region_aft (by kernel_rfl) (by kernel_rfl) ?_
     repeat (first|go_big_quiet_skip|go_big_quiet_step (first|(go_at_call 18;exact Calls.aft (HAq.out _)))|quiet_step (first|(go_at_call 18;exact Calls.aft (HAq.out _))))
     refine wpQuiet_nil ?_
     rintro _ ⟨P6,rfl⟩
     obtain⟨W6,hb6⟩:∃W6,W6=P6.wd:=⟨_,rfl⟩
     have HB6:=hid (show Bel W5 W6 by rw[hb6];exact P6.bel)
     rw[←hb6]
     clear hb6 e1 e2
     go_wp2_with fail
     go_ret
     exact⟨rfl,HB5.out.trans HB6.out⟩
    |some v=>
     have HAq:=(show Hid (∀P:Aft W5,Calls Tryz.prog 18 #[.slice xt 1 ct,.int .i64 1,.string ⟨pa.loc.toArray⟩,.string db] P.wd fun e w'=>e=.returned (.tuple #[.string ⟨v.toArray⟩,.bool true])∧Bel P.wd w')from HAq.out)
     have hsame:=HFs.out v hav
     rw[hsame]at HP2
     clear hsame
     generalize pathC mxE [es] pa=q at HP1 HP2
     have heq:∀W:World,(Op.equalIn 10000 26 (.agg (ptC q).toArray) (.agg (ptC q).toArray)).run Tryz.prog W=.ok true W:=fun W=>by
      have:=eq_ptc q q W
      rw[decide_eq_true rfl]at this
      exact this
     clear hav
     refine wp_region_aft (by kernel_rfl) (by kernel_rfl) ?_
     repeat (first|go_big_quiet_skip|go_big_quiet_step (first|(go_at_call 18;exact Calls.aft (HAq.out _)))|quiet_step (first|(go_at_call 18;exact Calls.aft (HAq.out _))))
     refine wpQuiet_nil ?_
     rintro _ ⟨P6,rfl⟩
     obtain⟨W6,hb6⟩:∃W6,W6=P6.wd:=⟨_,rfl⟩
     have HB6:=hid (show Bel W5 W6 by rw[hb6];exact P6.bel)
     rw[←hb6]
     clear hb6 e1 e2
     go_wp2_with (first|(refine wpList_load_mid rfl 26 (.tmp 5) rfl (w.heap.size) 0 rfl (ptC pa) _ (ptC_range (HPt.out _ (HX5.out.trans HB6.out))) Tryz.underlying26 rfl pt_size ?_)|(go_at_call 13;with_reducible refine(HP1.out W6 b3 (HB5.out.trans HB6.out) (HC3.out.next ((HB34.out.trans HB45.out).trans HB6.out))).mono ?_;rintro _ W7 ⟨rfl,hb7⟩;have HB7:=hid (HB6.out.trans hb7);clear hb7)|(refine wpList_store_blk rfl 26 (.tmp 17) (.tmp 75) rfl (W7.heap.size) (ptC q) rfl rfl pt_size (ptC_one _) (ptC zeroP) _ (heap_alloc_new W7 _) rfl ?_;intro W8 hc8 ho8 hs8 hb8;have HB78:=hid (hb8 W7 ((Bel.refl W7).alloc _) (Nat.le_refl _));have HB8:=hid (HB7.out.trans HB78.out);have HC8:=hid hc8;clear hc8 ho8 hs8 hb8)|(refine wpList_load_mid rfl 26 (.tmp 5) rfl (w.heap.size) 0 rfl (ptC pa) _ (ptC_range (HPt.out _ (HX5.out.trans HB8.out))) Tryz.underlying26 rfl pt_size ?_)|(go_at_call 13;with_reducible refine(HP2.out W8 b4 (HB5.out.trans HB8.out) (HC4.out.next (HB45.out.trans HB8.out))).mono ?_;rintro _ W9 ⟨rfl,hb9⟩;have HB9:=hid hb9;clear hb9)|(refine wpList_store_blk rfl 26 (.tmp 18) (.tmp 78) rfl (W9.heap.size) (ptC q) rfl rfl pt_size (ptC_one _) (ptC zeroP) _ (heap_alloc_new W9 _) rfl ?_;intro W10 hc10 ho10 hs10 hb10;have HB10:=hid (HB9.out.trans (hb10 W9 ((Bel.refl W9).alloc _) (Nat.le_refl _)));have HC10:=hid hc10;clear hc10 ho10 hs10 hb10)|(refine wpList_load_mid rfl 26 (.tmp 17) rfl (W7.heap.size) 0 rfl (ptC q) _ (ptC_range (HB10.out.heap HC8.out)) Tryz.underlying26 rfl pt_size ?_)|(refine wpList_load_mid rfl 26 (.tmp 18) rfl (W9.heap.size) 0 rfl (ptC q) _ (ptC_range (HC10.out)) Tryz.underlying26 rfl pt_size ?_))
     go_ret
     exact⟨rfl,HB5.out.trans (HB8.out.trans HB10.out)⟩
end Go.Proofs.YtmlmkmhkmifnkaaGreatDoor.Tb