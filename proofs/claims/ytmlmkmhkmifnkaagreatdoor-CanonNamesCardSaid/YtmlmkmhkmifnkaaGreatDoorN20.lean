/- Walk: Path of canon. -/
import Derived.Test.YtmlmkmhkmifnkaaGreatDoorN19
import Derived.Test.YtmlmkmhkmifnkaaGreatDoorN10
import Derived.Test.YtmlmkmhkmifnkaaGreatDoorN16
namespace Go.Proofs.YtmlmkmhkmifnkaaGreatDoor.Tb
open Go.RowKit
open Ci (Bel hid own_bel row_shape own_base addr_add Aft wp_region_aft Lay Calls.aft)
open Ma (Pt ptC ptC_one ptC_range pt_size zeroP domainQ rightP wpList_store_blk load_pt right_run)

theorem Right_pt (q : Pt) (W : World) (hW : Lay W) (hl : q.loc.length ≤ 4194304) (hd : q.dom.length ≤ 4194304) : Calls Tryz.prog 36 #[.agg (ptC q).toArray] W fun e w' => e = .returned (.int .i64 (rightP q)) ∧ Bel W w' :=
  right_run q.null ⟨q.loc.toArray⟩ ⟨q.dom.toArray⟩ q.lit W hW (by rw [Lib.size_eq]; exact hl) (by rw [Lib.size_eq]; exact hd)
theorem pt_cells {w : World} {b : Nat} {q : Pt} {T : TypeId} (h : w.heap[b]? = some (.cells (ptC q).toArray T (0, 0))) : w.cell? ⟨b, 0, none⟩ = some (.bool q.null) ∧ w.cell? ⟨b, 1, none⟩ = some (.string ⟨q.loc.toArray⟩) ∧ w.cell? ⟨b, 2, none⟩ = some (.string ⟨q.dom.toArray⟩) ∧ w.cell? ⟨b, 3, none⟩ = some (.bool q.lit) := by
  refine ⟨?_, ?_, ?_, ?_⟩ <;> (rw [Lib.cell_of_heap h]; rfl)
theorem vals_le {ts : List (List En)} (hv : ∀ es ∈ ts, ValsOk es) {l d v : List UInt8} (h : askQ ts l d = some v) : v.length ≤ 1000 := by
  obtain ⟨es, h1, e, h2, rfl⟩ := askC_in h
  exact hv es h1 e h2
set_option maxHeartbeats 16000000 in
set_option maxRecDepth 100000 in
theorem cpath_run (a : Option Addr) (h : List UInt8) (ts : List (List En)) (p : Pt) (w : World) (hw : Lat w) (hC : CnAt w a h ts) (hl : p.loc.length ≤ 4194304) (hd : p.dom.length ≤ 4194304) :
    Calls Tryz.prog 13 #[.pointer a, .agg (ptC p).toArray] w fun e w' => e = .returned (.agg (ptC (pathC h ts p)).toArray) ∧ Bel w w' := by
  obtain ⟨cb, ct, mb, rfl, hcb, hch, -⟩ := hC.at_
  have HW := hid hw
  have HCB := hid (show ∀ W, Bel w W → W.cell? ⟨cb, 0, none⟩ = some (.string ⟨h.toArray⟩) ∧ W.cell? ⟨cb, 1, none⟩ = some (.pointer ct) from fun W hW => ⟨by rw [Lib.cell_of_heap (hW.heap hcb)]; rfl, by rw [Lib.cell_of_heap (hW.heap hcb)]; rfl⟩)
  have HA := (show Hid (∀ (l d : List UInt8), l.length ≤ 4194304 → d.length ≤ 4194304 → ∀ W, Bel w W → Calls Tryz.prog 37 #[.pointer ct, .string ⟨l.toArray⟩, .string ⟨d.toArray⟩] W fun e w' => e = .returned (.tuple (optV (askQ ts l d))) ∧ Bel W w') from fun l d hl hd W hW => chAddr_run ct ts ⟨l.toArray⟩ ⟨d.toArray⟩ W (hw.next hW) (hch.next hW) (by rw [Lib.size_eq]; exact hl) (by rw [Lib.size_eq]; exact hd))
  have HV := (show Hid (∀ (v : List UInt8), v.length ≤ 1000 → ∀ W, Bel w W → Calls Tryz.prog 30 #[.string ⟨v.toArray⟩] W fun e w' => e = .returned (.tuple #[.agg (ptC (valueC v).1).toArray, .bool (valueC v).2.1, .bool (valueC v).2.2]) ∧ Bel W w') from fun v hv W hW => cvalue_run ⟨v.toArray⟩ W (hw.next hW).lay (by rw [Lib.size_eq]; show v.length ≤ _; omega))
  have HRq := (show Hid (∀ q : Pt, q.loc.length ≤ 4194304 → q.dom.length ≤ 4194304 → ∀ W, Bel w W → Calls Tryz.prog 36 #[.agg (ptC q).toArray] W fun e w' => e = .returned (.int .i64 (rightP q)) ∧ Bel W w') from fun q hl hd W hW => Right_pt q W (hw.next hW).lay hl hd)
  have HR := (show Hid (∀ W, Lay W → Calls Tryz.prog 36 #[.agg (ptC p).toArray] W fun e w' => e = .returned (.int .i64 (rightP p)) ∧ Bel W w') from fun W hW => Right_pt p W hW hl hd)
  have HVl := hid (fun (l d v : List UInt8) (hq : askQ ts l d = some v) => vals_le hC.vals hq)
  have HOK := hid (fun (l d v : List UInt8) (hq : askQ ts l d = some v) => ask_ok hC.ok hq)
  have hh := host_small hC.host
  obtain ⟨W1, hW1⟩ : ∃ W1, W1 = (w.alloc (.cells (ptC p).toArray 26)).alloc (.cells #[.bool false, .string ⟨#[]⟩, .string ⟨#[]⟩, .bool false] 26) := ⟨_, rfl⟩
  have HB1 := hid (show Bel w W1 by rw [hW1]; exact ((Bel.refl w).alloc _).alloc _)
  have HP1 := hid (show W1.heap[w.heap.size]? = some (.cells (ptC p).toArray 26 (0, 0)) by rw [hW1]; exact Bel.heap ((Bel.refl _).alloc _) (heap_alloc_new w _))
  have HZ1 := hid (show W1.heap[w.heap.size + 1]? = some (.cells (ptC zeroP).toArray 26 (0, 0)) by rw [hW1]; exact Ci.alloc_second w _ _)
  have HL := hid (And.intro hl hd)
  clear hw hcb hch hC hl hd
  by_cases h1 : rightP p = 0
  · rw [h1] at HR
    by_cases h2 : p.null = true
    · have HX := hid (show pathC h ts p = p by unfold pathC; rw [if_pos (.inr (.inl h2))])
      go_enter Tryz.func13, Tryz.ntmps13
      go_wp2_with (first | ((try rw [← hW1]); refine wpList_load_mid rfl 26 (.tmp 3) rfl (w.heap.size) 0 rfl (ptC p) _ (ptC_range HP1.out) Tryz.underlying26 rfl pt_size ?_) | (go_at_call 36; (try rw [← hW1]); refine (HR.out W1 (HW.out.next HB1.out).lay).mono ?_; rintro _ W2 ⟨rfl, hb2⟩; have HB2 := hid hb2; have HP2 := hid (hb2.heap HP1.out); have HZ2 := hid (hb2.heap HZ1.out); have HS2 := hid hb2.size; have k2 := pt_cells (hb2.heap HP1.out); rw [h2] at k2; clear hb2) | (refine wpList_load_mid rfl 26 (.tmp 3) rfl (w.heap.size) 0 rfl (ptC p) _ (ptC_range (HP2.out)) Tryz.underlying26 rfl pt_size ?_) | (refine wpList_store_blk rfl 26 (.tmp 4) (.tmp 22) rfl (w.heap.size + 1) (ptC p) rfl rfl pt_size (ptC_one _) (ptC zeroP) _ (HZ2.out) rfl ?_; intro WZ hcz hoz hsz hbz; have HBZ := hid (hbz w (HB1.out.trans HB2.out) (by omega)); have HCZ := hid hcz; clear hoz hsz hbz hcz))
      have hl2 := load_pt (cs := ptC p) HCZ.out rfl
      exact bodyPost_ret (v := .agg (ptC (p)).toArray) (by simp [results, Tryz.results13, asAddr, hl2, Act.put]) rfl ⟨by rw [HX.out], HBZ.out⟩
    · have h2 : p.null = false := by simpa using h2
      by_cases h3 : p.lit = true
      · have HX := hid (show pathC h ts p = p by unfold pathC; rw [if_pos (.inr (.inr h3))])
        go_enter Tryz.func13, Tryz.ntmps13
        go_wp2_with (first | ((try rw [← hW1]); refine wpList_load_mid rfl 26 (.tmp 3) rfl (w.heap.size) 0 rfl (ptC p) _ (ptC_range HP1.out) Tryz.underlying26 rfl pt_size ?_) | (go_at_call 36; (try rw [← hW1]); refine (HR.out W1 (HW.out.next HB1.out).lay).mono ?_; rintro _ W2 ⟨rfl, hb2⟩; have HB2 := hid hb2; have HP2 := hid (hb2.heap HP1.out); have HZ2 := hid (hb2.heap HZ1.out); have HS2 := hid hb2.size; have k2 := pt_cells (hb2.heap HP1.out); rw [h2, h3] at k2; clear hb2) | (refine wpList_load_mid rfl 26 (.tmp 3) rfl (w.heap.size) 0 rfl (ptC p) _ (ptC_range (HP2.out)) Tryz.underlying26 rfl pt_size ?_) | (refine wpList_store_blk rfl 26 (.tmp 4) (.tmp 22) rfl (w.heap.size + 1) (ptC p) rfl rfl pt_size (ptC_one _) (ptC zeroP) _ (HZ2.out) rfl ?_; intro WZ hcz hoz hsz hbz; have HBZ := hid (hbz w (HB1.out.trans HB2.out) (by omega)); have HCZ := hid hcz; clear hoz hsz hbz hcz))
        have hl2 := load_pt (cs := ptC p) HCZ.out rfl
        exact bodyPost_ret (v := .agg (ptC (p)).toArray) (by simp [results, Tryz.results13, asAddr, hl2, Act.put]) rfl ⟨by rw [HX.out], HBZ.out⟩
      · have h3 : p.lit = false := by simpa using h3
        have HP := hid (show pathC h ts p = if rightP (askC ts (domC h p)) ≠ 0 then p else askC ts (domC h p) from by
          unfold pathC
          rw [if_neg (by rintro (f | f | f); exact f h1; rw [h2] at f; cases f; rw [h3] at f; cases f)])
        by_cases hdm : p.dom = []
        · have d1 : (⟨p.dom.toArray⟩ : ByteArray).toList = [] := by rw [ByteArray.toList_eq, hdm]
          have d0 : ((⟨p.dom.toArray⟩ : ByteArray).toList == []) = true := by rw [d1]; rfl
          obtain ⟨q, hq0⟩ : ∃ q : Pt, q = ⟨p.null, p.loc, h, p.lit⟩ := ⟨_, rfl⟩
          have hq : domC h p = q := by rw [hq0]; unfold domC; rw [if_pos hdm]
          rw [hq] at HP
          have hql : q.loc.length ≤ 4194304 := by rw [hq0]; exact HL.out.1
          have hqd : q.dom.length ≤ 4194304 := by rw [hq0]; exact Nat.le_trans hh (by decide)
          have hqn : q.null = false ∧ q.lit = false := by rw [hq0]; exact ⟨h2, h3⟩
          have HQ0 := hid hq0
          clear hq0 hq
          obtain ⟨db, hdb⟩ : ∃ db : ByteArray, db = ⟨p.dom.toArray⟩ := ⟨_, rfl⟩
          rw [← hdb] at d0 d1
          have HDb := hid hdb
          clear hdb hdm
          go_enter Tryz.func13, Tryz.ntmps13
          go_wp2_with (first | ((try rw [← hW1]); refine wpList_load_mid rfl 26 (.tmp 3) rfl (w.heap.size) 0 rfl (ptC p) _ (ptC_range HP1.out) Tryz.underlying26 rfl pt_size ?_) | (go_at_call 36; (try rw [← hW1]); refine (HR.out W1 (HW.out.next HB1.out).lay).mono ?_; rintro _ W2 ⟨rfl, hb2⟩; have HB2 := hid hb2; have HP2 := hid (hb2.heap HP1.out); have HZ2 := hid (hb2.heap HZ1.out); have HS2 := hid hb2.size; have k2 := pt_cells (hb2.heap HP1.out); rw [h2, h3] at k2; clear hb2) | (refine wpList_load_mid rfl 26 (.tmp 3) rfl (w.heap.size) 0 rfl (ptC p) _ (ptC_range HP2.out) Tryz.underlying26 rfl pt_size ?_) | (refine wpList_store_blk rfl 26 (.tmp 5) (.tmp 23) rfl (W2.heap.size) (ptC p) rfl rfl pt_size (ptC_one _) (ptC zeroP) _ (heap_alloc_new W2 _) rfl ?_; intro W3 hc3 ho3 hs3 hb3; have HB3 := hid (hb3 W2 ((Bel.refl W2).alloc _) (Nat.le_refl _)); have HC3 := hid hc3; have m2 : W3.cell? ⟨W2.heap.size, 2, none⟩ = some (.string db) := (by rw [HDb.out]; exact (pt_cells hc3).2.2.1); have mf : W3.frozen? ⟨W2.heap.size, 2, none⟩ = false := Lib.frozen_of_heap hc3 2; have mh := (HCB.out W3 ((HB1.out.trans HB2.out).trans HB3.out)).1; clear hc3 ho3 hs3 hb3))
          obtain ⟨W4, hW4⟩ : ∃ W4, W4 = W3.setCell ⟨W2.heap.size, 2, none⟩ (.string ⟨h.toArray⟩) := ⟨_, rfl⟩
          have HB4 := hid (show Bel W2 W4 by rw [hW4]; exact HB3.out.setCell (Nat.le_refl _) _)
          have HC4 := hid (show W4.heap[W2.heap.size]? = some (.cells (ptC q).toArray 26 (0, 0)) by rw [hW4, HQ0.out]; exact heap_setCell_same _ _ _ _ _ _ HC3.out)
          rw [← hW4]
          clear hW4
          clear m2 mf mh HB3 HC3 k2 HQ0
          skip
          have HBw := hid ((HB1.out.trans HB2.out).trans HB4.out)
          have e1 : ∀ P : Aft W4, P.wd.cell? ⟨cb, 1, none⟩ = some (.pointer ct) := fun P => (HCB.out P.wd (HBw.out.trans P.bel)).2
          have e2 : ∀ P : Aft W4, P.wd.cell? ⟨W2.heap.size, 1, none⟩ = some (.string ⟨q.loc.toArray⟩) := fun P => (pt_cells (P.bel.heap HC4.out)).2.1
          have e3 : ∀ P : Aft W4, P.wd.cell? ⟨W2.heap.size, 2, none⟩ = some (.string ⟨q.dom.toArray⟩) := fun P => (pt_cells (P.bel.heap HC4.out)).2.2.1
          have HAq := hid (fun P : Aft W4 => HA.out q.loc q.dom hql hqd P.wd (HBw.out.trans P.bel))
          have HPq : Hid (askC ts q = match askQ ts q.loc q.dom with | none => q | some v => toC v q) := hid rfl
          have HOq := hid (HOK.out q.loc q.dom)
          have HVq := hid (HVl.out q.loc q.dom)
          generalize askQ ts q.loc q.dom = av at HAq HPq HOq HVq
          cases av with
          | none =>
            have HAq := (show Hid (∀ P : Aft W4, Calls Tryz.prog 37 #[.pointer ct, .string ⟨q.loc.toArray⟩, .string ⟨q.dom.toArray⟩] P.wd fun e w' => e = .returned (.tuple #[.string ⟨#[]⟩, .bool false]) ∧ Bel P.wd w') from HAq.out)
            rw [show askC ts q = q from HPq.out] at HP
            refine wp_region_aft (by kernel_rfl) (by kernel_rfl) ?_
            repeat (first | go_big_quiet_skip | go_big_quiet_step (first | (go_at_call 37; exact Calls.aft (HAq.out _))) | quiet_step (first | (go_at_call 37; exact Calls.aft (HAq.out _))))
            refine wpQuiet_nil ?_
            rintro _ ⟨P6, rfl⟩
            obtain ⟨W6, hb6⟩ : ∃ W6, W6 = P6.wd := ⟨_, rfl⟩
            have HB6 := hid (show Bel W2 W6 by rw [hb6]; exact HB4.out.trans P6.bel)
            have HQ6 := hid (show W6.heap[W2.heap.size]? = some (.cells (ptC q).toArray 26 (0, 0)) by rw [hb6]; exact P6.bel.heap HC4.out)
            rw [← hb6]
            clear hb6 e1 e2 e3
            by_cases hr : rightP q = 0
            · have HX := hid (show pathC h ts p = q by rw [HP.out, if_neg (fun f => f hr)])
              have HRr := (show Hid (∀ W, Bel w W → Calls Tryz.prog 36 #[.agg (ptC q).toArray] W fun e w' => e = .returned (.int .i64 0) ∧ Bel W w') from fun W hW => by have := HRq.out q hql hqd W hW; rw [hr] at this; exact this)
              go_wp2_with (first | (refine wpList_load_mid rfl 26 (.tmp 5) rfl (W2.heap.size) 0 rfl (ptC q) _ (ptC_range HQ6.out) Tryz.underlying26 rfl pt_size ?_) | (go_at_call 36; refine (HRr.out _ ((HB1.out.trans HB2.out).trans HB6.out)).mono ?_; rintro _ W11 ⟨rfl, hb11⟩; have HB11 := hid (HB6.out.trans hb11); have HQ11 := hid (hb11.heap HQ6.out); clear hb11) | (refine wpList_load_mid rfl 26 (.tmp 3) rfl (w.heap.size) 0 rfl (ptC p) _ (ptC_range (HB11.out.heap HP2.out)) Tryz.underlying26 rfl pt_size ?_) | (refine wpList_load_mid rfl 26 (.tmp 5) rfl (W2.heap.size) 0 rfl (ptC q) _ (ptC_range HQ11.out) Tryz.underlying26 rfl pt_size ?_) | (refine wpList_store_blk rfl 26 (.tmp 4) (.tmp 60) rfl (w.heap.size + 1) (ptC q) rfl rfl pt_size (ptC_one _) (ptC zeroP) _ (HB11.out.heap HZ2.out) rfl ?_; intro WZ hcz hoz hsz hbz; have HBZ := hid (hbz w ((HB1.out.trans HB2.out).trans HB11.out) (by omega)); have HCZ := hid hcz; clear hoz hsz hbz hcz))
              have hl2 := load_pt (cs := ptC q) HCZ.out rfl
              exact bodyPost_ret (v := .agg (ptC (q)).toArray) (by simp [results, Tryz.results13, asAddr, hl2, Act.put]) rfl ⟨by rw [HX.out], HBZ.out⟩
            · have b1 : (rightP q == 0) = false := by simpa using hr
              have HX := hid (show pathC h ts p = p by rw [HP.out, if_pos hr])
              have HRr := hid (HRq.out q hql hqd)
              go_wp2_with (first | (refine wpList_load_mid rfl 26 (.tmp 5) rfl (W2.heap.size) 0 rfl (ptC q) _ (ptC_range HQ6.out) Tryz.underlying26 rfl pt_size ?_) | (go_at_call 36; refine (HRr.out _ ((HB1.out.trans HB2.out).trans HB6.out)).mono ?_; rintro _ W11 ⟨rfl, hb11⟩; have HB11 := hid (HB6.out.trans hb11); have HQ11 := hid (hb11.heap HQ6.out); clear hb11) | (refine wpList_load_mid rfl 26 (.tmp 3) rfl (w.heap.size) 0 rfl (ptC p) _ (ptC_range (HB11.out.heap HP2.out)) Tryz.underlying26 rfl pt_size ?_) | (refine wpList_load_mid rfl 26 (.tmp 5) rfl (W2.heap.size) 0 rfl (ptC q) _ (ptC_range HQ11.out) Tryz.underlying26 rfl pt_size ?_) | (refine wpList_store_blk rfl 26 (.tmp 4) (.tmp 59) rfl (w.heap.size + 1) (ptC p) rfl rfl pt_size (ptC_one _) (ptC zeroP) _ (HB11.out.heap HZ2.out) rfl ?_; intro WZ hcz hoz hsz hbz; have HBZ := hid (hbz w ((HB1.out.trans HB2.out).trans HB11.out) (by omega)); have HCZ := hid hcz; clear hoz hsz hbz hcz))
              have hl2 := load_pt (cs := ptC p) HCZ.out rfl
              exact bodyPost_ret (v := .agg (ptC (p)).toArray) (by simp [results, Tryz.results13, asAddr, hl2, Act.put]) rfl ⟨by rw [HX.out], HBZ.out⟩
          | some v =>
            have HAq := (show Hid (∀ P : Aft W4, Calls Tryz.prog 37 #[.pointer ct, .string ⟨q.loc.toArray⟩, .string ⟨q.dom.toArray⟩] P.wd fun e w' => e = .returned (.tuple #[.string ⟨v.toArray⟩, .bool true]) ∧ Bel P.wd w') from HAq.out)
            rw [show askC ts q = toC v q from HPq.out] at HP
            have hvl : v.length ≤ 1000 := HVq.out v rfl
            have hok : (valueC v).2.2 = true := HOq.out v rfl
            have hts := toC_small hok hql
            have HVv := hid (HV.out v hvl)
            have HTq : Hid (toC v q = if (valueC v).2.1 then ⟨(valueC v).1.null, q.loc, (valueC v).1.dom, (valueC v).1.lit⟩ else (valueC v).1) := hid rfl
            rw [hok] at HVv
            generalize (valueC v).1 = tq at HVv HTq 
            generalize (valueC v).2.1 = isat at HVv HTq 
            generalize toC v q = q1 at HP hts HTq 
            cases isat with
            | true =>
              obtain rfl : q1 = ⟨tq.null, q.loc, tq.dom, tq.lit⟩ := HTq.out
              refine wp_region_aft (by kernel_rfl) (by kernel_rfl) ?_
              repeat (first | go_big_quiet_skip | go_big_quiet_step (first | (go_at_call 37; exact Calls.aft (HAq.out _))) | quiet_step (first | (go_at_call 37; exact Calls.aft (HAq.out _))))
              refine wpQuiet_nil ?_
              rintro _ ⟨P6, rfl⟩
              obtain ⟨W6, hb6⟩ : ∃ W6, W6 = P6.wd := ⟨_, rfl⟩
              have HB6 := hid (show Bel W2 W6 by rw [hb6]; exact HB4.out.trans P6.bel)
              have HQ6 := hid (show W6.heap[W2.heap.size]? = some (.cells (ptC q).toArray 26 (0, 0)) by rw [hb6]; exact P6.bel.heap HC4.out)
              rw [← hb6]
              clear hb6 e1 e2 e3
              by_cases hr : rightP ⟨tq.null, q.loc, tq.dom, tq.lit⟩ = 0
              · have HX := hid (show pathC h ts p = ⟨tq.null, q.loc, tq.dom, tq.lit⟩ by rw [HP.out, if_neg (fun f => f hr)])
                have HRr := (show Hid (∀ W, Bel w W → Calls Tryz.prog 36 #[.agg (ptC ⟨tq.null, q.loc, tq.dom, tq.lit⟩).toArray] W fun e w' => e = .returned (.int .i64 0) ∧ Bel W w') from fun W hW => by have := HRq.out ⟨tq.null, q.loc, tq.dom, tq.lit⟩ hts.1 hts.2 W hW; rw [hr] at this; exact this)
                go_wp2_with (first | (go_at_call 30; refine (HVv.out W6 ((HB1.out.trans HB2.out).trans HB6.out)).mono ?_; rintro _ W7 ⟨rfl, hb7⟩; have HB7 := hid (HB6.out.trans hb7); have HQ7 := hid (hb7.heap HQ6.out); clear hb7) | (refine wpList_store_blk rfl 26 (.tmp 8) (.tmp 48) rfl (W7.heap.size) (ptC tq) rfl rfl pt_size (ptC_one _) (ptC zeroP) _ (heap_alloc_new W7 _) rfl ?_; intro W8 hc8 ho8 hs8 hb8; have HB8 := hid (HB7.out.trans (hb8 W7 ((Bel.refl W7).alloc _) (Nat.le_refl _))); have HQ8 := hid ((hb8 W7 ((Bel.refl W7).alloc _) (Nat.le_refl _)).heap HQ7.out); have HT8 := hid hc8; have n1 : W8.cell? ⟨W2.heap.size, 1, none⟩ = some (.string ⟨q.loc.toArray⟩) := (pt_cells HQ8.out).2.1; have n2 : W8.cell? ⟨W7.heap.size, 1, none⟩ = some (.string ⟨tq.loc.toArray⟩) := (pt_cells hc8).2.1; have nf : W8.frozen? ⟨W7.heap.size, 1, none⟩ = false := Lib.frozen_of_heap hc8 1; have HT9 := hid (show (W8.setCell ⟨W7.heap.size, 1, none⟩ (.string ⟨q.loc.toArray⟩)).heap[W7.heap.size]? = some (.cells (ptC ⟨tq.null, q.loc, tq.dom, tq.lit⟩).toArray 26 (0, 0)) from heap_setCell_same _ _ _ _ _ _ hc8); have HQ9 := hid (show (W8.setCell ⟨W7.heap.size, 1, none⟩ (.string ⟨q.loc.toArray⟩)).heap[W2.heap.size]? = some (.cells (ptC q).toArray 26 (0, 0)) from (heap_setCell_other _ _ _ _ (fun e => by have e : W2.heap.size = W7.heap.size := e; have := (Array.getElem?_eq_some_iff.1 HQ7.out).1; omega)).trans HQ8.out); have HB9 := hid (HB8.out.setCell HB7.out.size (.string ⟨q.loc.toArray⟩) (o := 1)); clear hc8 ho8 hs8 hb8) | (refine wpList_load_mid rfl 26 (.tmp 8) rfl (W7.heap.size) 0 rfl (ptC ⟨tq.null, q.loc, tq.dom, tq.lit⟩) _ (ptC_range HT9.out) Tryz.underlying26 rfl pt_size ?_) | (refine wpList_store_blk rfl 26 (.tmp 5) (.tmp 55) rfl (W2.heap.size) (ptC ⟨tq.null, q.loc, tq.dom, tq.lit⟩) rfl rfl pt_size (ptC_one _) (ptC q) _ (HQ9.out) rfl ?_; intro W10 hc10 ho10 hs10 hb10; have HB10 := hid (hb10 W2 HB9.out (Nat.le_refl _)); have HQ10 := hid hc10; clear hc10 ho10 hs10 hb10) | (refine wpList_load_mid rfl 26 (.tmp 5) rfl (W2.heap.size) 0 rfl (ptC ⟨tq.null, q.loc, tq.dom, tq.lit⟩) _ (ptC_range HQ10.out) Tryz.underlying26 rfl pt_size ?_) | (go_at_call 36; refine (HRr.out _ ((HB1.out.trans HB2.out).trans HB10.out)).mono ?_; rintro _ W11 ⟨rfl, hb11⟩; have HB11 := hid (HB10.out.trans hb11); have HQ11 := hid (hb11.heap HQ10.out); clear hb11) | (refine wpList_load_mid rfl 26 (.tmp 3) rfl (w.heap.size) 0 rfl (ptC p) _ (ptC_range (HB11.out.heap HP2.out)) Tryz.underlying26 rfl pt_size ?_) | (refine wpList_load_mid rfl 26 (.tmp 5) rfl (W2.heap.size) 0 rfl (ptC ⟨tq.null, q.loc, tq.dom, tq.lit⟩) _ (ptC_range HQ11.out) Tryz.underlying26 rfl pt_size ?_) | (refine wpList_store_blk rfl 26 (.tmp 4) (.tmp 60) rfl (w.heap.size + 1) (ptC ⟨tq.null, q.loc, tq.dom, tq.lit⟩) rfl rfl pt_size (ptC_one _) (ptC zeroP) _ (HB11.out.heap HZ2.out) rfl ?_; intro WZ hcz hoz hsz hbz; have HBZ := hid (hbz w ((HB1.out.trans HB2.out).trans HB11.out) (by omega)); have HCZ := hid hcz; clear hoz hsz hbz hcz))
                have hl2 := load_pt (cs := ptC ⟨tq.null, q.loc, tq.dom, tq.lit⟩) HCZ.out rfl
                exact bodyPost_ret (v := .agg (ptC (⟨tq.null, q.loc, tq.dom, tq.lit⟩)).toArray) (by simp [results, Tryz.results13, asAddr, hl2, Act.put]) rfl ⟨by rw [HX.out], HBZ.out⟩
              · have b1 : (rightP ⟨tq.null, q.loc, tq.dom, tq.lit⟩ == 0) = false := by simpa using hr
                have HX := hid (show pathC h ts p = p by rw [HP.out, if_pos hr])
                have HRr := hid (HRq.out ⟨tq.null, q.loc, tq.dom, tq.lit⟩ hts.1 hts.2)
                go_wp2_with (first | (go_at_call 30; refine (HVv.out W6 ((HB1.out.trans HB2.out).trans HB6.out)).mono ?_; rintro _ W7 ⟨rfl, hb7⟩; have HB7 := hid (HB6.out.trans hb7); have HQ7 := hid (hb7.heap HQ6.out); clear hb7) | (refine wpList_store_blk rfl 26 (.tmp 8) (.tmp 48) rfl (W7.heap.size) (ptC tq) rfl rfl pt_size (ptC_one _) (ptC zeroP) _ (heap_alloc_new W7 _) rfl ?_; intro W8 hc8 ho8 hs8 hb8; have HB8 := hid (HB7.out.trans (hb8 W7 ((Bel.refl W7).alloc _) (Nat.le_refl _))); have HQ8 := hid ((hb8 W7 ((Bel.refl W7).alloc _) (Nat.le_refl _)).heap HQ7.out); have HT8 := hid hc8; have n1 : W8.cell? ⟨W2.heap.size, 1, none⟩ = some (.string ⟨q.loc.toArray⟩) := (pt_cells HQ8.out).2.1; have n2 : W8.cell? ⟨W7.heap.size, 1, none⟩ = some (.string ⟨tq.loc.toArray⟩) := (pt_cells hc8).2.1; have nf : W8.frozen? ⟨W7.heap.size, 1, none⟩ = false := Lib.frozen_of_heap hc8 1; have HT9 := hid (show (W8.setCell ⟨W7.heap.size, 1, none⟩ (.string ⟨q.loc.toArray⟩)).heap[W7.heap.size]? = some (.cells (ptC ⟨tq.null, q.loc, tq.dom, tq.lit⟩).toArray 26 (0, 0)) from heap_setCell_same _ _ _ _ _ _ hc8); have HQ9 := hid (show (W8.setCell ⟨W7.heap.size, 1, none⟩ (.string ⟨q.loc.toArray⟩)).heap[W2.heap.size]? = some (.cells (ptC q).toArray 26 (0, 0)) from (heap_setCell_other _ _ _ _ (fun e => by have e : W2.heap.size = W7.heap.size := e; have := (Array.getElem?_eq_some_iff.1 HQ7.out).1; omega)).trans HQ8.out); have HB9 := hid (HB8.out.setCell HB7.out.size (.string ⟨q.loc.toArray⟩) (o := 1)); clear hc8 ho8 hs8 hb8) | (refine wpList_load_mid rfl 26 (.tmp 8) rfl (W7.heap.size) 0 rfl (ptC ⟨tq.null, q.loc, tq.dom, tq.lit⟩) _ (ptC_range HT9.out) Tryz.underlying26 rfl pt_size ?_) | (refine wpList_store_blk rfl 26 (.tmp 5) (.tmp 55) rfl (W2.heap.size) (ptC ⟨tq.null, q.loc, tq.dom, tq.lit⟩) rfl rfl pt_size (ptC_one _) (ptC q) _ (HQ9.out) rfl ?_; intro W10 hc10 ho10 hs10 hb10; have HB10 := hid (hb10 W2 HB9.out (Nat.le_refl _)); have HQ10 := hid hc10; clear hc10 ho10 hs10 hb10) | (refine wpList_load_mid rfl 26 (.tmp 5) rfl (W2.heap.size) 0 rfl (ptC ⟨tq.null, q.loc, tq.dom, tq.lit⟩) _ (ptC_range HQ10.out) Tryz.underlying26 rfl pt_size ?_) | (go_at_call 36; refine (HRr.out _ ((HB1.out.trans HB2.out).trans HB10.out)).mono ?_; rintro _ W11 ⟨rfl, hb11⟩; have HB11 := hid (HB10.out.trans hb11); have HQ11 := hid (hb11.heap HQ10.out); clear hb11) | (refine wpList_load_mid rfl 26 (.tmp 3) rfl (w.heap.size) 0 rfl (ptC p) _ (ptC_range (HB11.out.heap HP2.out)) Tryz.underlying26 rfl pt_size ?_) | (refine wpList_load_mid rfl 26 (.tmp 5) rfl (W2.heap.size) 0 rfl (ptC ⟨tq.null, q.loc, tq.dom, tq.lit⟩) _ (ptC_range HQ11.out) Tryz.underlying26 rfl pt_size ?_) | (refine wpList_store_blk rfl 26 (.tmp 4) (.tmp 59) rfl (w.heap.size + 1) (ptC p) rfl rfl pt_size (ptC_one _) (ptC zeroP) _ (HB11.out.heap HZ2.out) rfl ?_; intro WZ hcz hoz hsz hbz; have HBZ := hid (hbz w ((HB1.out.trans HB2.out).trans HB11.out) (by omega)); have HCZ := hid hcz; clear hoz hsz hbz hcz))
                have hl2 := load_pt (cs := ptC p) HCZ.out rfl
                exact bodyPost_ret (v := .agg (ptC (p)).toArray) (by simp [results, Tryz.results13, asAddr, hl2, Act.put]) rfl ⟨by rw [HX.out], HBZ.out⟩
            | false =>
              obtain rfl : tq = q1 := HTq.out.symm
              refine wp_region_aft (by kernel_rfl) (by kernel_rfl) ?_
              repeat (first | go_big_quiet_skip | go_big_quiet_step (first | (go_at_call 37; exact Calls.aft (HAq.out _))) | quiet_step (first | (go_at_call 37; exact Calls.aft (HAq.out _))))
              refine wpQuiet_nil ?_
              rintro _ ⟨P6, rfl⟩
              obtain ⟨W6, hb6⟩ : ∃ W6, W6 = P6.wd := ⟨_, rfl⟩
              have HB6 := hid (show Bel W2 W6 by rw [hb6]; exact HB4.out.trans P6.bel)
              have HQ6 := hid (show W6.heap[W2.heap.size]? = some (.cells (ptC q).toArray 26 (0, 0)) by rw [hb6]; exact P6.bel.heap HC4.out)
              rw [← hb6]
              clear hb6 e1 e2 e3
              by_cases hr : rightP tq = 0
              · have HX := hid (show pathC h ts p = tq by rw [HP.out, if_neg (fun f => f hr)])
                have HRr := (show Hid (∀ W, Bel w W → Calls Tryz.prog 36 #[.agg (ptC tq).toArray] W fun e w' => e = .returned (.int .i64 0) ∧ Bel W w') from fun W hW => by have := HRq.out tq hts.1 hts.2 W hW; rw [hr] at this; exact this)
                go_wp2_with (first | (go_at_call 30; refine (HVv.out W6 ((HB1.out.trans HB2.out).trans HB6.out)).mono ?_; rintro _ W7 ⟨rfl, hb7⟩; have HB7 := hid (HB6.out.trans hb7); have HQ7 := hid (hb7.heap HQ6.out); clear hb7) | (refine wpList_store_blk rfl 26 (.tmp 8) (.tmp 48) rfl (W7.heap.size) (ptC tq) rfl rfl pt_size (ptC_one _) (ptC zeroP) _ (heap_alloc_new W7 _) rfl ?_; intro W8 hc8 ho8 hs8 hb8; have HB8 := hid (HB7.out.trans (hb8 W7 ((Bel.refl W7).alloc _) (Nat.le_refl _))); have HQ8 := hid ((hb8 W7 ((Bel.refl W7).alloc _) (Nat.le_refl _)).heap HQ7.out); have HT8 := hid hc8; clear hc8 ho8 hs8 hb8) | (refine wpList_load_mid rfl 26 (.tmp 8) rfl (W7.heap.size) 0 rfl (ptC tq) _ (ptC_range HT8.out) Tryz.underlying26 rfl pt_size ?_) | (refine wpList_store_blk rfl 26 (.tmp 5) (.tmp 55) rfl (W2.heap.size) (ptC tq) rfl rfl pt_size (ptC_one _) (ptC q) _ (HQ8.out) rfl ?_; intro W10 hc10 ho10 hs10 hb10; have HB10 := hid (hb10 W2 HB8.out (Nat.le_refl _)); have HQ10 := hid hc10; clear hc10 ho10 hs10 hb10) | (refine wpList_load_mid rfl 26 (.tmp 5) rfl (W2.heap.size) 0 rfl (ptC tq) _ (ptC_range HQ10.out) Tryz.underlying26 rfl pt_size ?_) | (go_at_call 36; refine (HRr.out _ ((HB1.out.trans HB2.out).trans HB10.out)).mono ?_; rintro _ W11 ⟨rfl, hb11⟩; have HB11 := hid (HB10.out.trans hb11); have HQ11 := hid (hb11.heap HQ10.out); clear hb11) | (refine wpList_load_mid rfl 26 (.tmp 3) rfl (w.heap.size) 0 rfl (ptC p) _ (ptC_range (HB11.out.heap HP2.out)) Tryz.underlying26 rfl pt_size ?_) | (refine wpList_load_mid rfl 26 (.tmp 5) rfl (W2.heap.size) 0 rfl (ptC tq) _ (ptC_range HQ11.out) Tryz.underlying26 rfl pt_size ?_) | (refine wpList_store_blk rfl 26 (.tmp 4) (.tmp 60) rfl (w.heap.size + 1) (ptC tq) rfl rfl pt_size (ptC_one _) (ptC zeroP) _ (HB11.out.heap HZ2.out) rfl ?_; intro WZ hcz hoz hsz hbz; have HBZ := hid (hbz w ((HB1.out.trans HB2.out).trans HB11.out) (by omega)); have HCZ := hid hcz; clear hoz hsz hbz hcz))
                have hl2 := load_pt (cs := ptC tq) HCZ.out rfl
                exact bodyPost_ret (v := .agg (ptC (tq)).toArray) (by simp [results, Tryz.results13, asAddr, hl2, Act.put]) rfl ⟨by rw [HX.out], HBZ.out⟩
              · have b1 : (rightP tq == 0) = false := by simpa using hr
                have HX := hid (show pathC h ts p = p by rw [HP.out, if_pos hr])
                have HRr := hid (HRq.out tq hts.1 hts.2)
                go_wp2_with (first | (go_at_call 30; refine (HVv.out W6 ((HB1.out.trans HB2.out).trans HB6.out)).mono ?_; rintro _ W7 ⟨rfl, hb7⟩; have HB7 := hid (HB6.out.trans hb7); have HQ7 := hid (hb7.heap HQ6.out); clear hb7) | (refine wpList_store_blk rfl 26 (.tmp 8) (.tmp 48) rfl (W7.heap.size) (ptC tq) rfl rfl pt_size (ptC_one _) (ptC zeroP) _ (heap_alloc_new W7 _) rfl ?_; intro W8 hc8 ho8 hs8 hb8; have HB8 := hid (HB7.out.trans (hb8 W7 ((Bel.refl W7).alloc _) (Nat.le_refl _))); have HQ8 := hid ((hb8 W7 ((Bel.refl W7).alloc _) (Nat.le_refl _)).heap HQ7.out); have HT8 := hid hc8; clear hc8 ho8 hs8 hb8) | (refine wpList_load_mid rfl 26 (.tmp 8) rfl (W7.heap.size) 0 rfl (ptC tq) _ (ptC_range HT8.out) Tryz.underlying26 rfl pt_size ?_) | (refine wpList_store_blk rfl 26 (.tmp 5) (.tmp 55) rfl (W2.heap.size) (ptC tq) rfl rfl pt_size (ptC_one _) (ptC q) _ (HQ8.out) rfl ?_; intro W10 hc10 ho10 hs10 hb10; have HB10 := hid (hb10 W2 HB8.out (Nat.le_refl _)); have HQ10 := hid hc10; clear hc10 ho10 hs10 hb10) | (refine wpList_load_mid rfl 26 (.tmp 5) rfl (W2.heap.size) 0 rfl (ptC tq) _ (ptC_range HQ10.out) Tryz.underlying26 rfl pt_size ?_) | (go_at_call 36; refine (HRr.out _ ((HB1.out.trans HB2.out).trans HB10.out)).mono ?_; rintro _ W11 ⟨rfl, hb11⟩; have HB11 := hid (HB10.out.trans hb11); have HQ11 := hid (hb11.heap HQ10.out); clear hb11) | (refine wpList_load_mid rfl 26 (.tmp 3) rfl (w.heap.size) 0 rfl (ptC p) _ (ptC_range (HB11.out.heap HP2.out)) Tryz.underlying26 rfl pt_size ?_) | (refine wpList_load_mid rfl 26 (.tmp 5) rfl (W2.heap.size) 0 rfl (ptC tq) _ (ptC_range HQ11.out) Tryz.underlying26 rfl pt_size ?_) | (refine wpList_store_blk rfl 26 (.tmp 4) (.tmp 59) rfl (w.heap.size + 1) (ptC p) rfl rfl pt_size (ptC_one _) (ptC zeroP) _ (HB11.out.heap HZ2.out) rfl ?_; intro WZ hcz hoz hsz hbz; have HBZ := hid (hbz w ((HB1.out.trans HB2.out).trans HB11.out) (by omega)); have HCZ := hid hcz; clear hoz hsz hbz hcz))
                have hl2 := load_pt (cs := ptC p) HCZ.out rfl
                exact bodyPost_ret (v := .agg (ptC (p)).toArray) (by simp [results, Tryz.results13, asAddr, hl2, Act.put]) rfl ⟨by rw [HX.out], HBZ.out⟩
        · have d1 : ¬ (⟨p.dom.toArray⟩ : ByteArray).toList = [] := by rw [ByteArray.toList_eq]; exact hdm
          have d0 : ((⟨p.dom.toArray⟩ : ByteArray).toList == []) = false := by simpa using d1
          obtain ⟨q, hq0⟩ : ∃ q : Pt, q = p := ⟨_, rfl⟩
          have hq : domC h p = q := by rw [hq0]; unfold domC; rw [if_neg hdm]
          rw [hq] at HP
          have hql : q.loc.length ≤ 4194304 := by rw [hq0]; exact HL.out.1
          have hqd : q.dom.length ≤ 4194304 := by rw [hq0]; exact HL.out.2
          have hqn : q.null = false ∧ q.lit = false := by rw [hq0]; exact ⟨h2, h3⟩
          have HQ0 := hid hq0
          clear hq0 hq
          obtain ⟨db, hdb⟩ : ∃ db : ByteArray, db = ⟨p.dom.toArray⟩ := ⟨_, rfl⟩
          rw [← hdb] at d0 d1
          have HDb := hid hdb
          clear hdb hdm
          go_enter Tryz.func13, Tryz.ntmps13
          go_wp2_with (first | ((try rw [← hW1]); refine wpList_load_mid rfl 26 (.tmp 3) rfl (w.heap.size) 0 rfl (ptC p) _ (ptC_range HP1.out) Tryz.underlying26 rfl pt_size ?_) | (go_at_call 36; (try rw [← hW1]); refine (HR.out W1 (HW.out.next HB1.out).lay).mono ?_; rintro _ W2 ⟨rfl, hb2⟩; have HB2 := hid hb2; have HP2 := hid (hb2.heap HP1.out); have HZ2 := hid (hb2.heap HZ1.out); have HS2 := hid hb2.size; have k2 := pt_cells (hb2.heap HP1.out); rw [h2, h3] at k2; clear hb2) | (refine wpList_load_mid rfl 26 (.tmp 3) rfl (w.heap.size) 0 rfl (ptC p) _ (ptC_range HP2.out) Tryz.underlying26 rfl pt_size ?_) | (refine wpList_store_blk rfl 26 (.tmp 5) (.tmp 23) rfl (W2.heap.size) (ptC p) rfl rfl pt_size (ptC_one _) (ptC zeroP) _ (heap_alloc_new W2 _) rfl ?_; intro W3 hc3 ho3 hs3 hb3; have HB3 := hid (hb3 W2 ((Bel.refl W2).alloc _) (Nat.le_refl _)); have HC3 := hid hc3; have m2 : W3.cell? ⟨W2.heap.size, 2, none⟩ = some (.string db) := (by rw [HDb.out]; exact (pt_cells hc3).2.2.1); have mf : W3.frozen? ⟨W2.heap.size, 2, none⟩ = false := Lib.frozen_of_heap hc3 2; have mh := (HCB.out W3 ((HB1.out.trans HB2.out).trans HB3.out)).1; clear hc3 ho3 hs3 hb3))
          have HB4 := HB3
          have HC4 := hid (show W3.heap[W2.heap.size]? = some (.cells (ptC q).toArray 26 (0, 0)) by rw [HQ0.out]; exact HC3.out)
          clear m2 mf mh HB3 HC3 k2 HQ0
          generalize W3 = W4 at HB4 HC4 ⊢
          have HBw := hid ((HB1.out.trans HB2.out).trans HB4.out)
          have e1 : ∀ P : Aft W4, P.wd.cell? ⟨cb, 1, none⟩ = some (.pointer ct) := fun P => (HCB.out P.wd (HBw.out.trans P.bel)).2
          have e2 : ∀ P : Aft W4, P.wd.cell? ⟨W2.heap.size, 1, none⟩ = some (.string ⟨q.loc.toArray⟩) := fun P => (pt_cells (P.bel.heap HC4.out)).2.1
          have e3 : ∀ P : Aft W4, P.wd.cell? ⟨W2.heap.size, 2, none⟩ = some (.string ⟨q.dom.toArray⟩) := fun P => (pt_cells (P.bel.heap HC4.out)).2.2.1
          have HAq := hid (fun P : Aft W4 => HA.out q.loc q.dom hql hqd P.wd (HBw.out.trans P.bel))
          have HPq : Hid (askC ts q = match askQ ts q.loc q.dom with | none => q | some v => toC v q) := hid rfl
          have HOq := hid (HOK.out q.loc q.dom)
          have HVq := hid (HVl.out q.loc q.dom)
          generalize askQ ts q.loc q.dom = av at HAq HPq HOq HVq
          cases av with
          | none =>
            have HAq := (show Hid (∀ P : Aft W4, Calls Tryz.prog 37 #[.pointer ct, .string ⟨q.loc.toArray⟩, .string ⟨q.dom.toArray⟩] P.wd fun e w' => e = .returned (.tuple #[.string ⟨#[]⟩, .bool false]) ∧ Bel P.wd w') from HAq.out)
            rw [show askC ts q = q from HPq.out] at HP
            refine wp_region_aft (by kernel_rfl) (by kernel_rfl) ?_
            repeat (first | go_big_quiet_skip | go_big_quiet_step (first | (go_at_call 37; exact Calls.aft (HAq.out _))) | quiet_step (first | (go_at_call 37; exact Calls.aft (HAq.out _))))
            refine wpQuiet_nil ?_
            rintro _ ⟨P6, rfl⟩
            obtain ⟨W6, hb6⟩ : ∃ W6, W6 = P6.wd := ⟨_, rfl⟩
            have HB6 := hid (show Bel W2 W6 by rw [hb6]; exact HB4.out.trans P6.bel)
            have HQ6 := hid (show W6.heap[W2.heap.size]? = some (.cells (ptC q).toArray 26 (0, 0)) by rw [hb6]; exact P6.bel.heap HC4.out)
            rw [← hb6]
            clear hb6 e1 e2 e3
            by_cases hr : rightP q = 0
            · have HX := hid (show pathC h ts p = q by rw [HP.out, if_neg (fun f => f hr)])
              have HRr := (show Hid (∀ W, Bel w W → Calls Tryz.prog 36 #[.agg (ptC q).toArray] W fun e w' => e = .returned (.int .i64 0) ∧ Bel W w') from fun W hW => by have := HRq.out q hql hqd W hW; rw [hr] at this; exact this)
              go_wp2_with (first | (refine wpList_load_mid rfl 26 (.tmp 5) rfl (W2.heap.size) 0 rfl (ptC q) _ (ptC_range HQ6.out) Tryz.underlying26 rfl pt_size ?_) | (go_at_call 36; refine (HRr.out _ ((HB1.out.trans HB2.out).trans HB6.out)).mono ?_; rintro _ W11 ⟨rfl, hb11⟩; have HB11 := hid (HB6.out.trans hb11); have HQ11 := hid (hb11.heap HQ6.out); clear hb11) | (refine wpList_load_mid rfl 26 (.tmp 3) rfl (w.heap.size) 0 rfl (ptC p) _ (ptC_range (HB11.out.heap HP2.out)) Tryz.underlying26 rfl pt_size ?_) | (refine wpList_load_mid rfl 26 (.tmp 5) rfl (W2.heap.size) 0 rfl (ptC q) _ (ptC_range HQ11.out) Tryz.underlying26 rfl pt_size ?_) | (refine wpList_store_blk rfl 26 (.tmp 4) (.tmp 60) rfl (w.heap.size + 1) (ptC q) rfl rfl pt_size (ptC_one _) (ptC zeroP) _ (HB11.out.heap HZ2.out) rfl ?_; intro WZ hcz hoz hsz hbz; have HBZ := hid (hbz w ((HB1.out.trans HB2.out).trans HB11.out) (by omega)); have HCZ := hid hcz; clear hoz hsz hbz hcz))
              have hl2 := load_pt (cs := ptC q) HCZ.out rfl
              exact bodyPost_ret (v := .agg (ptC (q)).toArray) (by simp [results, Tryz.results13, asAddr, hl2, Act.put]) rfl ⟨by rw [HX.out], HBZ.out⟩
            · have b1 : (rightP q == 0) = false := by simpa using hr
              have HX := hid (show pathC h ts p = p by rw [HP.out, if_pos hr])
              have HRr := hid (HRq.out q hql hqd)
              go_wp2_with (first | (refine wpList_load_mid rfl 26 (.tmp 5) rfl (W2.heap.size) 0 rfl (ptC q) _ (ptC_range HQ6.out) Tryz.underlying26 rfl pt_size ?_) | (go_at_call 36; refine (HRr.out _ ((HB1.out.trans HB2.out).trans HB6.out)).mono ?_; rintro _ W11 ⟨rfl, hb11⟩; have HB11 := hid (HB6.out.trans hb11); have HQ11 := hid (hb11.heap HQ6.out); clear hb11) | (refine wpList_load_mid rfl 26 (.tmp 3) rfl (w.heap.size) 0 rfl (ptC p) _ (ptC_range (HB11.out.heap HP2.out)) Tryz.underlying26 rfl pt_size ?_) | (refine wpList_load_mid rfl 26 (.tmp 5) rfl (W2.heap.size) 0 rfl (ptC q) _ (ptC_range HQ11.out) Tryz.underlying26 rfl pt_size ?_) | (refine wpList_store_blk rfl 26 (.tmp 4) (.tmp 59) rfl (w.heap.size + 1) (ptC p) rfl rfl pt_size (ptC_one _) (ptC zeroP) _ (HB11.out.heap HZ2.out) rfl ?_; intro WZ hcz hoz hsz hbz; have HBZ := hid (hbz w ((HB1.out.trans HB2.out).trans HB11.out) (by omega)); have HCZ := hid hcz; clear hoz hsz hbz hcz))
              have hl2 := load_pt (cs := ptC p) HCZ.out rfl
              exact bodyPost_ret (v := .agg (ptC (p)).toArray) (by simp [results, Tryz.results13, asAddr, hl2, Act.put]) rfl ⟨by rw [HX.out], HBZ.out⟩
          | some v =>
            have HAq := (show Hid (∀ P : Aft W4, Calls Tryz.prog 37 #[.pointer ct, .string ⟨q.loc.toArray⟩, .string ⟨q.dom.toArray⟩] P.wd fun e w' => e = .returned (.tuple #[.string ⟨v.toArray⟩, .bool true]) ∧ Bel P.wd w') from HAq.out)
            rw [show askC ts q = toC v q from HPq.out] at HP
            have hvl : v.length ≤ 1000 := HVq.out v rfl
            have hok : (valueC v).2.2 = true := HOq.out v rfl
            have hts := toC_small hok hql
            have HVv := hid (HV.out v hvl)
            have HTq : Hid (toC v q = if (valueC v).2.1 then ⟨(valueC v).1.null, q.loc, (valueC v).1.dom, (valueC v).1.lit⟩ else (valueC v).1) := hid rfl
            rw [hok] at HVv
            generalize (valueC v).1 = tq at HVv HTq 
            generalize (valueC v).2.1 = isat at HVv HTq 
            generalize toC v q = q1 at HP hts HTq 
            cases isat with
            | true =>
              obtain rfl : q1 = ⟨tq.null, q.loc, tq.dom, tq.lit⟩ := HTq.out
              refine wp_region_aft (by kernel_rfl) (by kernel_rfl) ?_
              repeat (first | go_big_quiet_skip | go_big_quiet_step (first | (go_at_call 37; exact Calls.aft (HAq.out _))) | quiet_step (first | (go_at_call 37; exact Calls.aft (HAq.out _))))
              refine wpQuiet_nil ?_
              rintro _ ⟨P6, rfl⟩
              obtain ⟨W6, hb6⟩ : ∃ W6, W6 = P6.wd := ⟨_, rfl⟩
              have HB6 := hid (show Bel W2 W6 by rw [hb6]; exact HB4.out.trans P6.bel)
              have HQ6 := hid (show W6.heap[W2.heap.size]? = some (.cells (ptC q).toArray 26 (0, 0)) by rw [hb6]; exact P6.bel.heap HC4.out)
              rw [← hb6]
              clear hb6 e1 e2 e3
              by_cases hr : rightP ⟨tq.null, q.loc, tq.dom, tq.lit⟩ = 0
              · have HX := hid (show pathC h ts p = ⟨tq.null, q.loc, tq.dom, tq.lit⟩ by rw [HP.out, if_neg (fun f => f hr)])
                have HRr := (show Hid (∀ W, Bel w W → Calls Tryz.prog 36 #[.agg (ptC ⟨tq.null, q.loc, tq.dom, tq.lit⟩).toArray] W fun e w' => e = .returned (.int .i64 0) ∧ Bel W w') from fun W hW => by have := HRq.out ⟨tq.null, q.loc, tq.dom, tq.lit⟩ hts.1 hts.2 W hW; rw [hr] at this; exact this)
                go_wp2_with (first | (go_at_call 30; refine (HVv.out W6 ((HB1.out.trans HB2.out).trans HB6.out)).mono ?_; rintro _ W7 ⟨rfl, hb7⟩; have HB7 := hid (HB6.out.trans hb7); have HQ7 := hid (hb7.heap HQ6.out); clear hb7) | (refine wpList_store_blk rfl 26 (.tmp 8) (.tmp 48) rfl (W7.heap.size) (ptC tq) rfl rfl pt_size (ptC_one _) (ptC zeroP) _ (heap_alloc_new W7 _) rfl ?_; intro W8 hc8 ho8 hs8 hb8; have HB8 := hid (HB7.out.trans (hb8 W7 ((Bel.refl W7).alloc _) (Nat.le_refl _))); have HQ8 := hid ((hb8 W7 ((Bel.refl W7).alloc _) (Nat.le_refl _)).heap HQ7.out); have HT8 := hid hc8; have n1 : W8.cell? ⟨W2.heap.size, 1, none⟩ = some (.string ⟨q.loc.toArray⟩) := (pt_cells HQ8.out).2.1; have n2 : W8.cell? ⟨W7.heap.size, 1, none⟩ = some (.string ⟨tq.loc.toArray⟩) := (pt_cells hc8).2.1; have nf : W8.frozen? ⟨W7.heap.size, 1, none⟩ = false := Lib.frozen_of_heap hc8 1; have HT9 := hid (show (W8.setCell ⟨W7.heap.size, 1, none⟩ (.string ⟨q.loc.toArray⟩)).heap[W7.heap.size]? = some (.cells (ptC ⟨tq.null, q.loc, tq.dom, tq.lit⟩).toArray 26 (0, 0)) from heap_setCell_same _ _ _ _ _ _ hc8); have HQ9 := hid (show (W8.setCell ⟨W7.heap.size, 1, none⟩ (.string ⟨q.loc.toArray⟩)).heap[W2.heap.size]? = some (.cells (ptC q).toArray 26 (0, 0)) from (heap_setCell_other _ _ _ _ (fun e => by have e : W2.heap.size = W7.heap.size := e; have := (Array.getElem?_eq_some_iff.1 HQ7.out).1; omega)).trans HQ8.out); have HB9 := hid (HB8.out.setCell HB7.out.size (.string ⟨q.loc.toArray⟩) (o := 1)); clear hc8 ho8 hs8 hb8) | (refine wpList_load_mid rfl 26 (.tmp 8) rfl (W7.heap.size) 0 rfl (ptC ⟨tq.null, q.loc, tq.dom, tq.lit⟩) _ (ptC_range HT9.out) Tryz.underlying26 rfl pt_size ?_) | (refine wpList_store_blk rfl 26 (.tmp 5) (.tmp 55) rfl (W2.heap.size) (ptC ⟨tq.null, q.loc, tq.dom, tq.lit⟩) rfl rfl pt_size (ptC_one _) (ptC q) _ (HQ9.out) rfl ?_; intro W10 hc10 ho10 hs10 hb10; have HB10 := hid (hb10 W2 HB9.out (Nat.le_refl _)); have HQ10 := hid hc10; clear hc10 ho10 hs10 hb10) | (refine wpList_load_mid rfl 26 (.tmp 5) rfl (W2.heap.size) 0 rfl (ptC ⟨tq.null, q.loc, tq.dom, tq.lit⟩) _ (ptC_range HQ10.out) Tryz.underlying26 rfl pt_size ?_) | (go_at_call 36; refine (HRr.out _ ((HB1.out.trans HB2.out).trans HB10.out)).mono ?_; rintro _ W11 ⟨rfl, hb11⟩; have HB11 := hid (HB10.out.trans hb11); have HQ11 := hid (hb11.heap HQ10.out); clear hb11) | (refine wpList_load_mid rfl 26 (.tmp 3) rfl (w.heap.size) 0 rfl (ptC p) _ (ptC_range (HB11.out.heap HP2.out)) Tryz.underlying26 rfl pt_size ?_) | (refine wpList_load_mid rfl 26 (.tmp 5) rfl (W2.heap.size) 0 rfl (ptC ⟨tq.null, q.loc, tq.dom, tq.lit⟩) _ (ptC_range HQ11.out) Tryz.underlying26 rfl pt_size ?_) | (refine wpList_store_blk rfl 26 (.tmp 4) (.tmp 60) rfl (w.heap.size + 1) (ptC ⟨tq.null, q.loc, tq.dom, tq.lit⟩) rfl rfl pt_size (ptC_one _) (ptC zeroP) _ (HB11.out.heap HZ2.out) rfl ?_; intro WZ hcz hoz hsz hbz; have HBZ := hid (hbz w ((HB1.out.trans HB2.out).trans HB11.out) (by omega)); have HCZ := hid hcz; clear hoz hsz hbz hcz))
                have hl2 := load_pt (cs := ptC ⟨tq.null, q.loc, tq.dom, tq.lit⟩) HCZ.out rfl
                exact bodyPost_ret (v := .agg (ptC (⟨tq.null, q.loc, tq.dom, tq.lit⟩)).toArray) (by simp [results, Tryz.results13, asAddr, hl2, Act.put]) rfl ⟨by rw [HX.out], HBZ.out⟩
              · have b1 : (rightP ⟨tq.null, q.loc, tq.dom, tq.lit⟩ == 0) = false := by simpa using hr
                have HX := hid (show pathC h ts p = p by rw [HP.out, if_pos hr])
                have HRr := hid (HRq.out ⟨tq.null, q.loc, tq.dom, tq.lit⟩ hts.1 hts.2)
                go_wp2_with (first | (go_at_call 30; refine (HVv.out W6 ((HB1.out.trans HB2.out).trans HB6.out)).mono ?_; rintro _ W7 ⟨rfl, hb7⟩; have HB7 := hid (HB6.out.trans hb7); have HQ7 := hid (hb7.heap HQ6.out); clear hb7) | (refine wpList_store_blk rfl 26 (.tmp 8) (.tmp 48) rfl (W7.heap.size) (ptC tq) rfl rfl pt_size (ptC_one _) (ptC zeroP) _ (heap_alloc_new W7 _) rfl ?_; intro W8 hc8 ho8 hs8 hb8; have HB8 := hid (HB7.out.trans (hb8 W7 ((Bel.refl W7).alloc _) (Nat.le_refl _))); have HQ8 := hid ((hb8 W7 ((Bel.refl W7).alloc _) (Nat.le_refl _)).heap HQ7.out); have HT8 := hid hc8; have n1 : W8.cell? ⟨W2.heap.size, 1, none⟩ = some (.string ⟨q.loc.toArray⟩) := (pt_cells HQ8.out).2.1; have n2 : W8.cell? ⟨W7.heap.size, 1, none⟩ = some (.string ⟨tq.loc.toArray⟩) := (pt_cells hc8).2.1; have nf : W8.frozen? ⟨W7.heap.size, 1, none⟩ = false := Lib.frozen_of_heap hc8 1; have HT9 := hid (show (W8.setCell ⟨W7.heap.size, 1, none⟩ (.string ⟨q.loc.toArray⟩)).heap[W7.heap.size]? = some (.cells (ptC ⟨tq.null, q.loc, tq.dom, tq.lit⟩).toArray 26 (0, 0)) from heap_setCell_same _ _ _ _ _ _ hc8); have HQ9 := hid (show (W8.setCell ⟨W7.heap.size, 1, none⟩ (.string ⟨q.loc.toArray⟩)).heap[W2.heap.size]? = some (.cells (ptC q).toArray 26 (0, 0)) from (heap_setCell_other _ _ _ _ (fun e => by have e : W2.heap.size = W7.heap.size := e; have := (Array.getElem?_eq_some_iff.1 HQ7.out).1; omega)).trans HQ8.out); have HB9 := hid (HB8.out.setCell HB7.out.size (.string ⟨q.loc.toArray⟩) (o := 1)); clear hc8 ho8 hs8 hb8) | (refine wpList_load_mid rfl 26 (.tmp 8) rfl (W7.heap.size) 0 rfl (ptC ⟨tq.null, q.loc, tq.dom, tq.lit⟩) _ (ptC_range HT9.out) Tryz.underlying26 rfl pt_size ?_) | (refine wpList_store_blk rfl 26 (.tmp 5) (.tmp 55) rfl (W2.heap.size) (ptC ⟨tq.null, q.loc, tq.dom, tq.lit⟩) rfl rfl pt_size (ptC_one _) (ptC q) _ (HQ9.out) rfl ?_; intro W10 hc10 ho10 hs10 hb10; have HB10 := hid (hb10 W2 HB9.out (Nat.le_refl _)); have HQ10 := hid hc10; clear hc10 ho10 hs10 hb10) | (refine wpList_load_mid rfl 26 (.tmp 5) rfl (W2.heap.size) 0 rfl (ptC ⟨tq.null, q.loc, tq.dom, tq.lit⟩) _ (ptC_range HQ10.out) Tryz.underlying26 rfl pt_size ?_) | (go_at_call 36; refine (HRr.out _ ((HB1.out.trans HB2.out).trans HB10.out)).mono ?_; rintro _ W11 ⟨rfl, hb11⟩; have HB11 := hid (HB10.out.trans hb11); have HQ11 := hid (hb11.heap HQ10.out); clear hb11) | (refine wpList_load_mid rfl 26 (.tmp 3) rfl (w.heap.size) 0 rfl (ptC p) _ (ptC_range (HB11.out.heap HP2.out)) Tryz.underlying26 rfl pt_size ?_) | (refine wpList_load_mid rfl 26 (.tmp 5) rfl (W2.heap.size) 0 rfl (ptC ⟨tq.null, q.loc, tq.dom, tq.lit⟩) _ (ptC_range HQ11.out) Tryz.underlying26 rfl pt_size ?_) | (refine wpList_store_blk rfl 26 (.tmp 4) (.tmp 59) rfl (w.heap.size + 1) (ptC p) rfl rfl pt_size (ptC_one _) (ptC zeroP) _ (HB11.out.heap HZ2.out) rfl ?_; intro WZ hcz hoz hsz hbz; have HBZ := hid (hbz w ((HB1.out.trans HB2.out).trans HB11.out) (by omega)); have HCZ := hid hcz; clear hoz hsz hbz hcz))
                have hl2 := load_pt (cs := ptC p) HCZ.out rfl
                exact bodyPost_ret (v := .agg (ptC (p)).toArray) (by simp [results, Tryz.results13, asAddr, hl2, Act.put]) rfl ⟨by rw [HX.out], HBZ.out⟩
            | false =>
              obtain rfl : tq = q1 := HTq.out.symm
              refine wp_region_aft (by kernel_rfl) (by kernel_rfl) ?_
              repeat (first | go_big_quiet_skip | go_big_quiet_step (first | (go_at_call 37; exact Calls.aft (HAq.out _))) | quiet_step (first | (go_at_call 37; exact Calls.aft (HAq.out _))))
              refine wpQuiet_nil ?_
              rintro _ ⟨P6, rfl⟩
              obtain ⟨W6, hb6⟩ : ∃ W6, W6 = P6.wd := ⟨_, rfl⟩
              have HB6 := hid (show Bel W2 W6 by rw [hb6]; exact HB4.out.trans P6.bel)
              have HQ6 := hid (show W6.heap[W2.heap.size]? = some (.cells (ptC q).toArray 26 (0, 0)) by rw [hb6]; exact P6.bel.heap HC4.out)
              rw [← hb6]
              clear hb6 e1 e2 e3
              by_cases hr : rightP tq = 0
              · have HX := hid (show pathC h ts p = tq by rw [HP.out, if_neg (fun f => f hr)])
                have HRr := (show Hid (∀ W, Bel w W → Calls Tryz.prog 36 #[.agg (ptC tq).toArray] W fun e w' => e = .returned (.int .i64 0) ∧ Bel W w') from fun W hW => by have := HRq.out tq hts.1 hts.2 W hW; rw [hr] at this; exact this)
                go_wp2_with (first | (go_at_call 30; refine (HVv.out W6 ((HB1.out.trans HB2.out).trans HB6.out)).mono ?_; rintro _ W7 ⟨rfl, hb7⟩; have HB7 := hid (HB6.out.trans hb7); have HQ7 := hid (hb7.heap HQ6.out); clear hb7) | (refine wpList_store_blk rfl 26 (.tmp 8) (.tmp 48) rfl (W7.heap.size) (ptC tq) rfl rfl pt_size (ptC_one _) (ptC zeroP) _ (heap_alloc_new W7 _) rfl ?_; intro W8 hc8 ho8 hs8 hb8; have HB8 := hid (HB7.out.trans (hb8 W7 ((Bel.refl W7).alloc _) (Nat.le_refl _))); have HQ8 := hid ((hb8 W7 ((Bel.refl W7).alloc _) (Nat.le_refl _)).heap HQ7.out); have HT8 := hid hc8; clear hc8 ho8 hs8 hb8) | (refine wpList_load_mid rfl 26 (.tmp 8) rfl (W7.heap.size) 0 rfl (ptC tq) _ (ptC_range HT8.out) Tryz.underlying26 rfl pt_size ?_) | (refine wpList_store_blk rfl 26 (.tmp 5) (.tmp 55) rfl (W2.heap.size) (ptC tq) rfl rfl pt_size (ptC_one _) (ptC q) _ (HQ8.out) rfl ?_; intro W10 hc10 ho10 hs10 hb10; have HB10 := hid (hb10 W2 HB8.out (Nat.le_refl _)); have HQ10 := hid hc10; clear hc10 ho10 hs10 hb10) | (refine wpList_load_mid rfl 26 (.tmp 5) rfl (W2.heap.size) 0 rfl (ptC tq) _ (ptC_range HQ10.out) Tryz.underlying26 rfl pt_size ?_) | (go_at_call 36; refine (HRr.out _ ((HB1.out.trans HB2.out).trans HB10.out)).mono ?_; rintro _ W11 ⟨rfl, hb11⟩; have HB11 := hid (HB10.out.trans hb11); have HQ11 := hid (hb11.heap HQ10.out); clear hb11) | (refine wpList_load_mid rfl 26 (.tmp 3) rfl (w.heap.size) 0 rfl (ptC p) _ (ptC_range (HB11.out.heap HP2.out)) Tryz.underlying26 rfl pt_size ?_) | (refine wpList_load_mid rfl 26 (.tmp 5) rfl (W2.heap.size) 0 rfl (ptC tq) _ (ptC_range HQ11.out) Tryz.underlying26 rfl pt_size ?_) | (refine wpList_store_blk rfl 26 (.tmp 4) (.tmp 60) rfl (w.heap.size + 1) (ptC tq) rfl rfl pt_size (ptC_one _) (ptC zeroP) _ (HB11.out.heap HZ2.out) rfl ?_; intro WZ hcz hoz hsz hbz; have HBZ := hid (hbz w ((HB1.out.trans HB2.out).trans HB11.out) (by omega)); have HCZ := hid hcz; clear hoz hsz hbz hcz))
                have hl2 := load_pt (cs := ptC tq) HCZ.out rfl
                exact bodyPost_ret (v := .agg (ptC (tq)).toArray) (by simp [results, Tryz.results13, asAddr, hl2, Act.put]) rfl ⟨by rw [HX.out], HBZ.out⟩
              · have b1 : (rightP tq == 0) = false := by simpa using hr
                have HX := hid (show pathC h ts p = p by rw [HP.out, if_pos hr])
                have HRr := hid (HRq.out tq hts.1 hts.2)
                go_wp2_with (first | (go_at_call 30; refine (HVv.out W6 ((HB1.out.trans HB2.out).trans HB6.out)).mono ?_; rintro _ W7 ⟨rfl, hb7⟩; have HB7 := hid (HB6.out.trans hb7); have HQ7 := hid (hb7.heap HQ6.out); clear hb7) | (refine wpList_store_blk rfl 26 (.tmp 8) (.tmp 48) rfl (W7.heap.size) (ptC tq) rfl rfl pt_size (ptC_one _) (ptC zeroP) _ (heap_alloc_new W7 _) rfl ?_; intro W8 hc8 ho8 hs8 hb8; have HB8 := hid (HB7.out.trans (hb8 W7 ((Bel.refl W7).alloc _) (Nat.le_refl _))); have HQ8 := hid ((hb8 W7 ((Bel.refl W7).alloc _) (Nat.le_refl _)).heap HQ7.out); have HT8 := hid hc8; clear hc8 ho8 hs8 hb8) | (refine wpList_load_mid rfl 26 (.tmp 8) rfl (W7.heap.size) 0 rfl (ptC tq) _ (ptC_range HT8.out) Tryz.underlying26 rfl pt_size ?_) | (refine wpList_store_blk rfl 26 (.tmp 5) (.tmp 55) rfl (W2.heap.size) (ptC tq) rfl rfl pt_size (ptC_one _) (ptC q) _ (HQ8.out) rfl ?_; intro W10 hc10 ho10 hs10 hb10; have HB10 := hid (hb10 W2 HB8.out (Nat.le_refl _)); have HQ10 := hid hc10; clear hc10 ho10 hs10 hb10) | (refine wpList_load_mid rfl 26 (.tmp 5) rfl (W2.heap.size) 0 rfl (ptC tq) _ (ptC_range HQ10.out) Tryz.underlying26 rfl pt_size ?_) | (go_at_call 36; refine (HRr.out _ ((HB1.out.trans HB2.out).trans HB10.out)).mono ?_; rintro _ W11 ⟨rfl, hb11⟩; have HB11 := hid (HB10.out.trans hb11); have HQ11 := hid (hb11.heap HQ10.out); clear hb11) | (refine wpList_load_mid rfl 26 (.tmp 3) rfl (w.heap.size) 0 rfl (ptC p) _ (ptC_range (HB11.out.heap HP2.out)) Tryz.underlying26 rfl pt_size ?_) | (refine wpList_load_mid rfl 26 (.tmp 5) rfl (W2.heap.size) 0 rfl (ptC tq) _ (ptC_range HQ11.out) Tryz.underlying26 rfl pt_size ?_) | (refine wpList_store_blk rfl 26 (.tmp 4) (.tmp 59) rfl (w.heap.size + 1) (ptC p) rfl rfl pt_size (ptC_one _) (ptC zeroP) _ (HB11.out.heap HZ2.out) rfl ?_; intro WZ hcz hoz hsz hbz; have HBZ := hid (hbz w ((HB1.out.trans HB2.out).trans HB11.out) (by omega)); have HCZ := hid hcz; clear hoz hsz hbz hcz))
                have hl2 := load_pt (cs := ptC p) HCZ.out rfl
                exact bodyPost_ret (v := .agg (ptC (p)).toArray) (by simp [results, Tryz.results13, asAddr, hl2, Act.put]) rfl ⟨by rw [HX.out], HBZ.out⟩
  · have b1 : (rightP p == 0) = false := by simpa using h1
    have HX := hid (show pathC h ts p = p by unfold pathC; rw [if_pos (.inl h1)])
    go_enter Tryz.func13, Tryz.ntmps13
    go_wp2_with (first | ((try rw [← hW1]); refine wpList_load_mid rfl 26 (.tmp 3) rfl (w.heap.size) 0 rfl (ptC p) _ (ptC_range HP1.out) Tryz.underlying26 rfl pt_size ?_) | (go_at_call 36; (try rw [← hW1]); refine (HR.out W1 (HW.out.next HB1.out).lay).mono ?_; rintro _ W2 ⟨rfl, hb2⟩; have HB2 := hid hb2; have HP2 := hid (hb2.heap HP1.out); have HZ2 := hid (hb2.heap HZ1.out); have HS2 := hid hb2.size; have k2 := pt_cells (hb2.heap HP1.out); clear hb2) | (refine wpList_load_mid rfl 26 (.tmp 3) rfl (w.heap.size) 0 rfl (ptC p) _ (ptC_range (HP2.out)) Tryz.underlying26 rfl pt_size ?_) | (refine wpList_store_blk rfl 26 (.tmp 4) (.tmp 22) rfl (w.heap.size + 1) (ptC p) rfl rfl pt_size (ptC_one _) (ptC zeroP) _ (HZ2.out) rfl ?_; intro WZ hcz hoz hsz hbz; have HBZ := hid (hbz w (HB1.out.trans HB2.out) (by omega)); have HCZ := hid hcz; clear hoz hsz hbz hcz))
    have hl2 := load_pt (cs := ptC p) HCZ.out rfl
    exact bodyPost_ret (v := .agg (ptC (p)).toArray) (by simp [results, Tryz.results13, asAddr, hl2, Act.put]) rfl ⟨by rw [HX.out], HBZ.out⟩
end Go.Proofs.YtmlmkmhkmifnkaaGreatDoor.Tb

/- Walk of the law: awake. -/
namespace Go.Proofs.YtmlmkmhkmifnkaaGreatDoor.Tb
open Go.RowKit
open Ci (Bel hid own_bel row_shape own_base addr_add Aft wp_region_aft Lay Calls.aft)
open Ma (Pt ptC ptC_one ptC_range pt_size zeroP domainQ rightP wpList_store_blk load_pt)

def mxE : List UInt8 := [109, 120, 46, 101, 120, 97, 109, 112, 108, 101]
def awT : List UInt8 := [97, 64, 120, 46, 101, 120, 97, 109, 112, 108, 101, 32, 98, 64, 121, 46, 101, 120, 97, 109, 112, 108, 101, 10]
def awE : En := ⟨[97, 64, 120, 46, 101, 120, 97, 109, 112, 108, 101], [98, 64, 121, 46, 101, 120, 97, 109, 112, 108, 101]⟩
def awA : Pt := ⟨false, [97], [120, 46, 101, 120, 97, 109, 112, 108, 101], false⟩
def awB : Pt := ⟨false, [98], [121, 46, 101, 120, 97, 109, 112, 108, 101], false⟩
theorem aw_parse : tparse awT = some [awE] := by kernel_rfl
theorem aw_vals : valsC [awE] = true := by kernel_rfl
theorem aw_host : hostC mxE = true := by kernel_rfl
theorem aw_new : newC mxE [awT] = .ok [[awE]] := by
  unfold newC
  rw [aw_host]
  have : newT [awT] [] = some [[awE]] := by
    unfold newT
    rw [aw_parse]
    show (if valsC [awE] then newT [] ([] ++ [[awE]]) else none) = _
    rw [aw_vals]; rfl
  rw [this]; rfl
theorem aw_path : pathC mxE [[awE]] awA = awB := by kernel_rfl
set_option maxHeartbeats 4000000 in
set_option maxRecDepth 100000 in
theorem cawake_run (w : World) (hw : Lat w) : Calls Tryz.prog 10 #[] w fun e w' => e = .returned (.bool true) ∧ Bel w w' := by
  obtain ⟨W1, hW1⟩ : ∃ W1, W1 = w.alloc (.cells #[.string ⟨#[97, 64, 120, 46, 101, 120, 97, 109, 112, 108, 101, 32, 98, 64, 121, 46, 101, 120, 97, 109, 112, 108, 101, 10]⟩] 9) := ⟨_, rfl⟩
  have HB1 := hid (show Bel w W1 by rw [hW1]; exact (Bel.refl w).alloc _)
  have hS : Sts W1 (some ⟨w.heap.size, 0, none⟩) [⟨awT.toArray⟩] := ⟨.inr ⟨w.heap.size, 0, rfl, by rw [hW1, World.size_alloc]; omega, fun k hk => by
    obtain rfl : k = 0 := by simp at hk; omega
    rw [hW1, Lib.cell_of_heap (heap_alloc_new w _)]; rfl⟩⟩
  have HN := (show Hid (Calls Tryz.prog 11 #[.string ⟨mxE.toArray⟩, .slice (some ⟨w.heap.size, 0, none⟩) 1 1] W1 fun e w' => ∃ a, e = .returned (.tuple #[.pointer a, .int .i64 0]) ∧ Bel W1 w' ∧ CnAt w' a mxE [[awE]]) from by
    have h := cnew_run ⟨mxE.toArray⟩ (some ⟨w.heap.size, 0, none⟩) [⟨awT.toArray⟩] 1 W1 (hw.next HB1.out) (by rw [Lib.size_eq]; exact of_decide_eq_true (by kernel_rfl)) hS
    have e : ([⟨awT.toArray⟩] : List ByteArray).map (·.data.toList) = [awT] := rfl
    rw [e] at h
    refine h.mono fun e w' hp => ?_
    unfold CnPost at hp
    rw [show newC (⟨mxE.toArray⟩ : ByteArray).data.toList [awT] = .ok [[awE]] from aw_new] at hp
    exact hp)
  have HP := (show Hid (∀ W, Bel W1 W → ∀ a, CnAt W a mxE [[awE]] → Calls Tryz.prog 13 #[.pointer a, .agg (ptC awA).toArray] W fun e w' => e = .returned (.agg (ptC awB).toArray) ∧ Bel W w') from fun W hW a hC => by
    have h := cpath_run a mxE [[awE]] awA W (hw.next (HB1.out.trans hW)) hC (by decide) (by decide)
    rw [aw_path] at h
    exact h)
  have heq : ∀ W : World, (Op.equalIn 10000 26 (.agg (ptC awB).toArray) (.agg #[.bool false, .string ⟨#[98]⟩, .string ⟨#[121, 46, 101, 120, 97, 109, 112, 108, 101]⟩, .bool false])).run Tryz.prog W = .ok true W := fun W => by
    have := eq_ptc awB awB W
    rw [decide_eq_true rfl] at this
    exact this
  clear hw hS
  go_enter Tryz.func10, Tryz.ntmps10
  go_wp2_with (first | (go_at_call 11; (try rw [← hW1]); refine HN.out.mono ?_; rintro _ w2 ⟨a, rfl, hb2, hc2⟩; obtain ⟨cb, ct, mb, hab, -⟩ := hc2.at_; subst hab; have HB2 := hid hb2; have HC2 := hid hc2; clear hb2 hc2) | (go_at_call 13; refine (HP.out w2 HB2.out _ HC2.out).mono ?_; rintro _ w3 ⟨rfl, hb3⟩; have HB3 := hid (HB2.out.trans hb3); clear hb3) | (refine wpList_store_blk rfl 26 (.tmp 3) (.tmp 17) rfl w3.heap.size (ptC awB) rfl rfl pt_size (ptC_one _) (ptC zeroP) _ (heap_alloc_new w3 _) rfl ?_; intro w9 hc9 ho9 hs9 hb9; have HB9 := hid (hb9 w3 ((Bel.refl w3).alloc _) (Nat.le_refl _)); have HC9 := hid hc9; clear ho9 hs9 hb9 hc9) | (refine wpList_load_mid rfl 26 (.tmp 3) rfl w3.heap.size 0 rfl (ptC awB) _ (ptC_range HC9.out) Tryz.underlying26 rfl pt_size ?_))
  go_ret
  exact ⟨rfl, HB1.out.trans (HB3.out.trans HB9.out)⟩
end Go.Proofs.YtmlmkmhkmifnkaaGreatDoor.Tb
