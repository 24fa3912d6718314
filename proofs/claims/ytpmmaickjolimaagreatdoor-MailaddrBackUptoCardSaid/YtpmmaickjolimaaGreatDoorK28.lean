/- MailaddrBack: the law's walk. -/
import Derived.Test.YtpmmaickjolimaaGreatDoorK27
namespace Go.Proofs.YtpmmaickjolimaaGreatDoor.Ma
open Go.RowKit
open Ci (Bel Lay own_bel row_shape addr_add own_base Aft wp_region_aft quiet_load_aft wpList_push)

theorem mls_pt {a W : World} {base g cp : Nat} {L : List Ml} (h : a.ownsRow base 41 7 (.slice (some ⟨g, 0, none⟩) L.length cp) L.length (mlCs L)) (hb : Bel a W) (k : Nat) (hk : k < L.length) : W.rangeAt g (k * 7) [.bool L[k].path.null, .string ⟨L[k].path.loc.toArray⟩, .string ⟨L[k].path.dom.toArray⟩, .bool L[k].path.lit] := fun j v hv =>
  mls_at h hb k hk j v (by
    have hj : j < 4 := (List.getElem?_eq_some_iff.1 hv).1
    have e : mlC L[k] = [.bool L[k].path.null, .string ⟨L[k].path.loc.toArray⟩, .string ⟨L[k].path.dom.toArray⟩, .bool L[k].path.lit] ++ [.int .i64 L[k].from_, .int .i64 L[k].til, .string ⟨L[k].name.toArray⟩] := rfl
    rw [e, List.getElem?_append_left (by show j < 4; exact hj)]
    exact hv)
theorem back_facts (s : List UInt8) (l : List Pt) : ((replaceQ s l).2 = 0 → (parseQ s).2 = 0 ∧ (parseQ s).1.length = l.length ∧ ∃ ks, parseQ (replaceQ s l).1 = (ks, 0) ∧ ks.map Ml.path = l ∧ ks.map Ml.name = (parseQ s).1.map Ml.name) ∧ ((parseQ s).2 ≠ 0 → (replaceQ s l).2 ≠ 0) := by
  refine ⟨fun h => ?_, fun h => ?_⟩
  · obtain ⟨ms, h1, h2, h3⟩ := replace_ok h
    rcases replace_reads h1 h3 h2 with h4 | ⟨t, h4, ks, h5, h6, h7⟩
    · rw [h4] at h; simp at h
    · rw [h1, h4]
      exact ⟨rfl, h2, ks, h5, h6, h7⟩
  · unfold replaceQ
    rw [if_pos h]
    exact h
set_option maxHeartbeats 32000000 in
set_option maxRecDepth 100000 in
theorem back_run (s : ByteArray) (x : Option Addr) (l : List Pt) (c : Nat) (w : World) (hw : Lay w) (hL : Pts w x l) (hS : Small l) (hn : l.length ≤ 1048576) :
    Calls Tryz.prog 5 #[.string s, .slice x l.length c] w fun e w' => e = .returned (.bool true) ∧ Bel w w' := by
  have HW := hid hw
  have HL := hid hL
  have HSH := hid (lshown_run w hw)
  have HLI := hid (fun W (hb : Bel w W) => mlist_run x l c W (HW.out.next hb) (hL.next hb) hS (by omega))
  have HRB := hid (fun W (hb : Bel w W) => mreplace_run s x l c W (HW.out.next hb) (hL.next hb) hS)
  have HPB := hid (fun W hW => parse_as s (parseQ s.data.toList).1 (parseQ s.data.toList).2 rfl W hW)
  have HFA := hid (back_facts s.data.toList l)
  have HLR := hid (fun t (h : listQ l = (t, 0)) h2 => list_reads h h2)
  generalize parseQ s.data.toList = pq at HPB HFA
  obtain ⟨mb, pe⟩ := pq
  generalize replaceQ s.data.toList l = rq at HRB HFA
  obtain ⟨rt, re⟩ := rq
  generalize listQ l = lq at HLI HLR
  obtain ⟨lt, le⟩ := lq
  simp only at HPB HFA HRB HLI
  clear hw hL hS
  have hls : (⟨lt.toArray⟩ : ByteArray).size = lt.length := by rw [Lib.size_eq]
  by_cases hle : le = 0
  · by_cases h65 : lt.length ≤ 65536
    · obtain ⟨k1, h1, h2, h3⟩ := HLR.out lt (by rw [hle]) h65
      have HP1 := hid (fun W hW => parse_as ⟨lt.toArray⟩ k1 0 h1 W hW)
      have hk1 : k1.length = l.length := by rw [← h2, List.length_map]
      have HK1 := hid (And.intro h2 (And.intro h3 hk1))
      have b5 : decide (((⟨lt.toArray⟩ : ByteArray).size : Int) ≤ 65536) = true := decide_eq_true (by rw [hls]; omega)
      have b5n : (⟨lt.toArray⟩ : ByteArray).size ≤ 65536 := by rw [hls]; exact h65
      have q1 : ((k1.length : Int) == (l.length : Int)) = true := by rw [hk1]; exact beq_self_eq_true _
      have q2 : (k1.length : Int) = (l.length : Int) := by omega
      subst hle
      generalize (⟨lt.toArray⟩ : ByteArray) = lb at HLI HP1 b5 b5n
      clear h1 h2 h3 hk1 h65 hls
      go_enter Tryz.func5, Tryz.ntmps5
      go_wp2_with fail
      refine HSH.out.mono ?_
      rintro e w1 ⟨rfl, hb1⟩
      have HB1 := hid hb1
      clear hb1 HSH
      go_wp2_with fail
      refine (HLI.out _ HB1.out).mono ?_
      rintro e w2 ⟨rfl, hb2⟩
      have HB2 := hid (HB1.out.trans hb2)
      clear hb2
      go_wp2_with fail
      refine (HP1.out _ (HW.out.next HB2.out)).mono ?_
      rintro e w3 ⟨x3, c3, rfl, hb3, hr3, -⟩
      have HB3 := hid (HB2.out.trans hb3)
      have HROW3 := hid hr3
      clear hb3 hr3 HP1
      go_wp2_with fail
      go_loopg [10] l.length (fun gg v10 wr => ∃ (k : Nat), v10 = .int .i64 k ∧ k + gg = l.length ∧ Hid (Bel w3 wr))
      case atStart => exact ⟨0, rfl, by omega, hid (Bel.refl w3)⟩
      case round =>
        obtain ⟨i, rfl, hi, HBL⟩ := hrel
        have Hi := hid hi
        have hin : i ≤ l.length := by omega
        clear hi
        by_cases hlt : i < l.length
        · have hik : i < k1.length := by have := HK1.out.2.2; omega
          obtain ⟨g4, rfl, -⟩ := row_place HROW3.out (by omega)
          obtain ⟨b, o, rfl, -⟩ := HL.out.place hlt
          have hpp : k1[i].path = l[i] := by
            have := congrArg (fun l => l[i]?) HK1.out.1
            simp [hik, hlt] at this
            exact this
          have hnn : k1[i].name = [] := by
            have := congrArg (fun l => l[i]?) HK1.out.2.1
            simp [hik, hlt] at this
            exact this
          have HRA := hid (fun p : Aft wr => show p.wd.rangeAt b (o + i * 4) [.bool l[i].null, .string ⟨l[i].loc.toArray⟩, .string ⟨l[i].dom.toArray⟩, .bool l[i].lit] from by
            obtain ⟨b3, o3, e, f⟩ := (HL.out.next (HB3.out.trans (HBL.out.trans p.bel))).place hlt
            cases e
            exact f)
          have HRK := hid (fun p : Aft wr => mls_pt HROW3.out (HBL.out.trans p.bel) i hik)
          rw [hpp] at HRK
          have n4 : ∀ p : Aft wr, p.wd.cell? ⟨g4, i * 7 + 6, none⟩ = some (.string ⟨#[]⟩) := fun p => mls_at HROW3.out (HBL.out.trans p.bel) i hik 6 _ (by
            show some (Value.string ⟨k1[i].name.toArray⟩) = _
            rw [hnn])
          generalize l[i] = P at HRA HRK
          clear hpp hnn
          have HEq := fun W => eq_pt P.null ⟨P.loc.toArray⟩ ⟨P.dom.toArray⟩ P.lit P.null ⟨P.loc.toArray⟩ ⟨P.dom.toArray⟩ P.lit W
          have HZm := hid pt_size
          generalize (⟨P.loc.toArray⟩ : ByteArray) = pl at HRA HRK HEq
          generalize (⟨P.dom.toArray⟩ : ByteArray) = pd at HRA HRK HEq
          generalize P.null = pn at HRA HRK HEq
          generalize P.lit = pt at HRA HRK HEq
          have HEq := fun W => (HEq W).trans (show Result.ok (decide (pn = pn ∧ pl = pl ∧ pd = pd ∧ pt = pt)) W = Result.ok true W by simp)
          go_upto_region 12 with (fail)
          refine wp_region_aft (by kernel_rfl) (by kernel_rfl) ?_
          repeat (first
            | go_big_quiet_skip
            | (refine quiet_load_aft 39 _ rfl g4 (i * 7) rfl _ _ HRK.out Tryz.underlying39 rfl HZm.out (by rfl) ?_; intro a' ha'; simp only [Act.put, Array.setIfInBounds, List.size_toArray, go_sem] at ha'; subst ha')
            | (refine quiet_load_aft 39 _ rfl b (o + i * 4) rfl _ _ HRA.out Tryz.underlying39 rfl HZm.out (by rfl) ?_; intro a' ha'; simp only [Act.put, Array.setIfInBounds, List.size_toArray, go_sem] at ha'; subst ha')
            | go_big_quiet_step (fail)
            | quiet_step (fail))
          refine wpQuiet_nil ?_
          rintro _ ⟨p, rfl⟩
          have HBN := hid (HBL.out.trans p.bel)
          clear HRA HRK n4 HEq HBL
          go_wp2_with fail
          go_roundg (gk - 1)
          case measure => have := Hi.out; omega
          case rel => exact ⟨i + 1, by go_num, by have := Hi.out; omega, HBN⟩
        · obtain rfl : i = l.length := by omega
          have HBW := hid (HB3.out.trans HBL.out)
          clear HROW3 HK1 q1 q2 HBL HB3 HB2 HB1
          go_wp2_with fail
          refine (HPB.out _ (HW.out.next HBW.out)).mono ?_
          rintro e w5 ⟨xb, cb, rfl, hb5, hrb, -⟩
          have HB5 := hid (HBW.out.trans hb5)
          have HROWB := hid hrb
          clear hb5 hrb
          go_wp2_with fail
          refine (HRB.out _ HB5.out).mono ?_
          rintro e w6 ⟨rfl, hb6⟩
          have HB6 := hid (HB5.out.trans hb6)
          have HB56 := hid hb6
          clear hb6
          by_cases hre : re = 0
          · obtain ⟨h1, h2, ks, h3, h4, h5⟩ := HFA.out.1 hre
            have h1 : pe = 0 := h1
            have h2 : mb.length = l.length := h2
            have HPK := hid (fun W hW => parse_as ⟨rt.toArray⟩ ks 0 h3 W hW)
            have HKP := hid (And.intro h4 h5)
            have hkl : ks.length = l.length := by rw [← h4, List.length_map]
            have HKL := hid (And.intro hkl h2)
            have q1 : ((ks.length : Int) == (l.length : Int)) = true := by rw [hkl]; exact beq_self_eq_true _
            have q2 : ((mb.length : Int) == (l.length : Int)) = true := by rw [h2]; exact beq_self_eq_true _
            have q3 : (ks.length : Int) = (l.length : Int) := by omega
            have q4 : (mb.length : Int) = (l.length : Int) := by omega
            subst hre h1
            clear h2 h3 h4 h5 hkl HFA HPB HRB HLI HLR
            go_wp2_with fail
            refine (HPK.out _ (HW.out.next HB6.out)).mono ?_
            rintro e w7 ⟨xk, ck, rfl, hb7, hrk, -⟩
            have HB7 := hid (HB6.out.trans hb7)
            have HB57 := hid (HB56.out.trans hb7)
            have HROWK := hid hrk
            clear hb7 hrk HPK HB56
            go_wp2_with fail
            go_loopg [17] l.length (fun gg v17 wr => ∃ (k : Nat), v17 = .int .i64 k ∧ k + gg = l.length ∧ Hid (Bel w7 wr))
            case atStart => exact ⟨0, rfl, by omega, hid (Bel.refl w7)⟩
            case round =>
              obtain ⟨i, rfl, hi, HBL⟩ := hrel
              have Hi := hid hi
              have hin : i ≤ l.length := by omega
              clear hi
              by_cases hlt : i < l.length
              · have hik : i < ks.length := by have := HKL.out; omega
                have him : i < mb.length := by have := HKL.out; omega
                obtain ⟨g4, rfl, -⟩ := row_place HROWK.out (by omega)
                obtain ⟨g2, rfl, -⟩ := row_place HROWB.out (by omega)
                obtain ⟨b, o, rfl, -⟩ := HL.out.place hlt
                have hpp : ks[i].path = l[i] := by
                  have := congrArg (fun l => l[i]?) HKP.out.1
                  simp [hik, hlt] at this
                  exact this
                have hnn : ks[i].name = mb[i].name := by
                  have := congrArg (fun l => l[i]?) HKP.out.2
                  simp [hik, him] at this
                  exact this
                have HRA := hid (fun p : Aft wr => show p.wd.rangeAt b (o + i * 4) [.bool l[i].null, .string ⟨l[i].loc.toArray⟩, .string ⟨l[i].dom.toArray⟩, .bool l[i].lit] from by
                  obtain ⟨b3, o3, e, f⟩ := (HL.out.next (HB7.out.trans (HBL.out.trans p.bel))).place hlt
                  cases e
                  exact f)
                have HRK := hid (fun p : Aft wr => mls_pt HROWK.out (HBL.out.trans p.bel) i hik)
                rw [hpp] at HRK
                have n2 : ∀ p : Aft wr, p.wd.cell? ⟨g2, i * 7 + 6, none⟩ = some (.string ⟨mb[i].name.toArray⟩) := fun p => mls_at HROWB.out (HB57.out.trans (HBL.out.trans p.bel)) i him 6 _ rfl
                have n4 : ∀ p : Aft wr, p.wd.cell? ⟨g4, i * 7 + 6, none⟩ = some (.string ⟨mb[i].name.toArray⟩) := fun p => mls_at HROWK.out (HBL.out.trans p.bel) i hik 6 _ (by rw [← hnn]; rfl)
                generalize (⟨mb[i].name.toArray⟩ : ByteArray) = nm at n2 n4
                generalize l[i] = P at HRA HRK
                clear hpp hnn
                have HEq := fun W => eq_pt P.null ⟨P.loc.toArray⟩ ⟨P.dom.toArray⟩ P.lit P.null ⟨P.loc.toArray⟩ ⟨P.dom.toArray⟩ P.lit W
                have hnm : (nm.toList == nm.toList) = true := beq_self_eq_true _
                have HZm := hid pt_size
                generalize (⟨P.loc.toArray⟩ : ByteArray) = pl at HRA HRK HEq
                generalize (⟨P.dom.toArray⟩ : ByteArray) = pd at HRA HRK HEq
                generalize P.null = pn at HRA HRK HEq
                generalize P.lit = pt at HRA HRK HEq
                have HEq := fun W => (HEq W).trans (show Result.ok (decide (pn = pn ∧ pl = pl ∧ pd = pd ∧ pt = pt)) W = Result.ok true W by simp)
                go_upto_region 24 with (fail)
                refine wp_region_aft (by kernel_rfl) (by kernel_rfl) ?_
                repeat (first
                  | go_big_quiet_skip
                  | (refine quiet_load_aft 39 _ rfl g4 (i * 7) rfl _ _ HRK.out Tryz.underlying39 rfl HZm.out (by rfl) ?_; intro a' ha'; simp only [Act.put, Array.setIfInBounds, List.size_toArray, go_sem] at ha'; subst ha')
                  | (refine quiet_load_aft 39 _ rfl b (o + i * 4) rfl _ _ HRA.out Tryz.underlying39 rfl HZm.out (by rfl) ?_; intro a' ha'; simp only [Act.put, Array.setIfInBounds, List.size_toArray, go_sem] at ha'; subst ha')
                  | go_big_quiet_step (fail)
                  | quiet_step (fail))
                refine wpQuiet_nil ?_
                rintro _ ⟨p, rfl⟩
                have HBN := hid (HBL.out.trans p.bel)
                clear HRA HRK n2 n4 HEq HBL
                go_wp2_with fail
                go_roundg (gk - 1)
                case measure => have := Hi.out; omega
                case rel => exact ⟨i + 1, by go_num, by have := Hi.out; omega, HBN⟩
              · obtain rfl : i = l.length := by omega
                have HBE := hid (HB7.out.trans HBL.out)
                go_wp2_with fail
                go_ret
                exact ⟨rfl, HBE.out⟩
          · have r0 : (re == 0) = false := by simpa using hre
            clear hre
            by_cases hpe : pe = 0
            · subst hpe
              go_wp2_with fail
              go_ret
              exact ⟨rfl, HB6.out⟩
            · have p0 : (pe == 0) = false := by simpa using hpe
              clear hpe
              go_wp2_with fail
              go_ret
              refine ⟨?_, HB6.out⟩
              show Ending.returned (Value.bool (re != 0)) = _
              rw [show (re != 0) = true by simp [bne, r0]]
    · have b5 : decide (((⟨lt.toArray⟩ : ByteArray).size : Int) ≤ 65536) = false := decide_eq_false (by rw [hls]; omega)
      have b5n : ¬ (⟨lt.toArray⟩ : ByteArray).size ≤ 65536 := by rw [hls]; exact h65
      subst hle
      generalize (⟨lt.toArray⟩ : ByteArray) = lb at HLI b5 b5n
      clear h65 hls
      go_enter Tryz.func5, Tryz.ntmps5
      go_wp2_with fail
      refine HSH.out.mono ?_
      rintro e w1 ⟨rfl, hb1⟩
      have HB1 := hid hb1
      clear hb1 HSH
      go_wp2_with fail
      refine (HLI.out _ HB1.out).mono ?_
      rintro e w2 ⟨rfl, hb2⟩
      have HB2 := hid (HB1.out.trans hb2)
      clear hb2
      have HBW := hid HB2.out
      go_wp2_with fail
      refine (HPB.out _ (HW.out.next HBW.out)).mono ?_
      rintro e w5 ⟨xb, cb, rfl, hb5, hrb, -⟩
      have HB5 := hid (HBW.out.trans hb5)
      have HROWB := hid hrb
      clear hb5 hrb
      go_wp2_with fail
      refine (HRB.out _ HB5.out).mono ?_
      rintro e w6 ⟨rfl, hb6⟩
      have HB6 := hid (HB5.out.trans hb6)
      have HB56 := hid hb6
      clear hb6
      by_cases hre : re = 0
      · obtain ⟨h1, h2, ks, h3, h4, h5⟩ := HFA.out.1 hre
        have h1 : pe = 0 := h1
        have h2 : mb.length = l.length := h2
        have HPK := hid (fun W hW => parse_as ⟨rt.toArray⟩ ks 0 h3 W hW)
        have HKP := hid (And.intro h4 h5)
        have hkl : ks.length = l.length := by rw [← h4, List.length_map]
        have HKL := hid (And.intro hkl h2)
        have q1 : ((ks.length : Int) == (l.length : Int)) = true := by rw [hkl]; exact beq_self_eq_true _
        have q2 : ((mb.length : Int) == (l.length : Int)) = true := by rw [h2]; exact beq_self_eq_true _
        have q3 : (ks.length : Int) = (l.length : Int) := by omega
        have q4 : (mb.length : Int) = (l.length : Int) := by omega
        subst hre h1
        clear h2 h3 h4 h5 hkl HFA HPB HRB HLI HLR
        go_wp2_with fail
        refine (HPK.out _ (HW.out.next HB6.out)).mono ?_
        rintro e w7 ⟨xk, ck, rfl, hb7, hrk, -⟩
        have HB7 := hid (HB6.out.trans hb7)
        have HB57 := hid (HB56.out.trans hb7)
        have HROWK := hid hrk
        clear hb7 hrk HPK HB56
        go_wp2_with fail
        go_loopg [17] l.length (fun gg v17 wr => ∃ (k : Nat), v17 = .int .i64 k ∧ k + gg = l.length ∧ Hid (Bel w7 wr))
        case atStart => exact ⟨0, rfl, by omega, hid (Bel.refl w7)⟩
        case round =>
          obtain ⟨i, rfl, hi, HBL⟩ := hrel
          have Hi := hid hi
          have hin : i ≤ l.length := by omega
          clear hi
          by_cases hlt : i < l.length
          · have hik : i < ks.length := by have := HKL.out; omega
            have him : i < mb.length := by have := HKL.out; omega
            obtain ⟨g4, rfl, -⟩ := row_place HROWK.out (by omega)
            obtain ⟨g2, rfl, -⟩ := row_place HROWB.out (by omega)
            obtain ⟨b, o, rfl, -⟩ := HL.out.place hlt
            have hpp : ks[i].path = l[i] := by
              have := congrArg (fun l => l[i]?) HKP.out.1
              simp [hik, hlt] at this
              exact this
            have hnn : ks[i].name = mb[i].name := by
              have := congrArg (fun l => l[i]?) HKP.out.2
              simp [hik, him] at this
              exact this
            have HRA := hid (fun p : Aft wr => show p.wd.rangeAt b (o + i * 4) [.bool l[i].null, .string ⟨l[i].loc.toArray⟩, .string ⟨l[i].dom.toArray⟩, .bool l[i].lit] from by
              obtain ⟨b3, o3, e, f⟩ := (HL.out.next (HB7.out.trans (HBL.out.trans p.bel))).place hlt
              cases e
              exact f)
            have HRK := hid (fun p : Aft wr => mls_pt HROWK.out (HBL.out.trans p.bel) i hik)
            rw [hpp] at HRK
            have n2 : ∀ p : Aft wr, p.wd.cell? ⟨g2, i * 7 + 6, none⟩ = some (.string ⟨mb[i].name.toArray⟩) := fun p => mls_at HROWB.out (HB57.out.trans (HBL.out.trans p.bel)) i him 6 _ rfl
            have n4 : ∀ p : Aft wr, p.wd.cell? ⟨g4, i * 7 + 6, none⟩ = some (.string ⟨mb[i].name.toArray⟩) := fun p => mls_at HROWK.out (HBL.out.trans p.bel) i hik 6 _ (by rw [← hnn]; rfl)
            generalize (⟨mb[i].name.toArray⟩ : ByteArray) = nm at n2 n4
            generalize l[i] = P at HRA HRK
            clear hpp hnn
            have HEq := fun W => eq_pt P.null ⟨P.loc.toArray⟩ ⟨P.dom.toArray⟩ P.lit P.null ⟨P.loc.toArray⟩ ⟨P.dom.toArray⟩ P.lit W
            have hnm : (nm.toList == nm.toList) = true := beq_self_eq_true _
            have HZm := hid pt_size
            generalize (⟨P.loc.toArray⟩ : ByteArray) = pl at HRA HRK HEq
            generalize (⟨P.dom.toArray⟩ : ByteArray) = pd at HRA HRK HEq
            generalize P.null = pn at HRA HRK HEq
            generalize P.lit = pt at HRA HRK HEq
            have HEq := fun W => (HEq W).trans (show Result.ok (decide (pn = pn ∧ pl = pl ∧ pd = pd ∧ pt = pt)) W = Result.ok true W by simp)
            go_upto_region 24 with (fail)
            refine wp_region_aft (by kernel_rfl) (by kernel_rfl) ?_
            repeat (first
              | go_big_quiet_skip
              | (refine quiet_load_aft 39 _ rfl g4 (i * 7) rfl _ _ HRK.out Tryz.underlying39 rfl HZm.out (by rfl) ?_; intro a' ha'; simp only [Act.put, Array.setIfInBounds, List.size_toArray, go_sem] at ha'; subst ha')
              | (refine quiet_load_aft 39 _ rfl b (o + i * 4) rfl _ _ HRA.out Tryz.underlying39 rfl HZm.out (by rfl) ?_; intro a' ha'; simp only [Act.put, Array.setIfInBounds, List.size_toArray, go_sem] at ha'; subst ha')
              | go_big_quiet_step (fail)
              | quiet_step (fail))
            refine wpQuiet_nil ?_
            rintro _ ⟨p, rfl⟩
            have HBN := hid (HBL.out.trans p.bel)
            clear HRA HRK n2 n4 HEq HBL
            go_wp2_with fail
            go_roundg (gk - 1)
            case measure => have := Hi.out; omega
            case rel => exact ⟨i + 1, by go_num, by have := Hi.out; omega, HBN⟩
          · obtain rfl : i = l.length := by omega
            have HBE := hid (HB7.out.trans HBL.out)
            go_wp2_with fail
            go_ret
            exact ⟨rfl, HBE.out⟩
      · have r0 : (re == 0) = false := by simpa using hre
        clear hre
        by_cases hpe : pe = 0
        · subst hpe
          go_wp2_with fail
          go_ret
          exact ⟨rfl, HB6.out⟩
        · have p0 : (pe == 0) = false := by simpa using hpe
          clear hpe
          go_wp2_with fail
          go_ret
          refine ⟨?_, HB6.out⟩
          show Ending.returned (Value.bool (re != 0)) = _
          rw [show (re != 0) = true by simp [bne, r0]]
  · have l0 : (le == 0) = false := by simpa using hle
    clear hle hls
    go_enter Tryz.func5, Tryz.ntmps5
    go_wp2_with fail
    refine HSH.out.mono ?_
    rintro e w1 ⟨rfl, hb1⟩
    have HB1 := hid hb1
    clear hb1 HSH
    go_wp2_with fail
    refine (HLI.out _ HB1.out).mono ?_
    rintro e w2 ⟨rfl, hb2⟩
    have HB2 := hid (HB1.out.trans hb2)
    clear hb2
    have HBW := hid HB2.out
    go_wp2_with fail
    refine (HPB.out _ (HW.out.next HBW.out)).mono ?_
    rintro e w5 ⟨xb, cb, rfl, hb5, hrb, -⟩
    have HB5 := hid (HBW.out.trans hb5)
    have HROWB := hid hrb
    clear hb5 hrb
    go_wp2_with fail
    refine (HRB.out _ HB5.out).mono ?_
    rintro e w6 ⟨rfl, hb6⟩
    have HB6 := hid (HB5.out.trans hb6)
    have HB56 := hid hb6
    clear hb6
    by_cases hre : re = 0
    · obtain ⟨h1, h2, ks, h3, h4, h5⟩ := HFA.out.1 hre
      have h1 : pe = 0 := h1
      have h2 : mb.length = l.length := h2
      have HPK := hid (fun W hW => parse_as ⟨rt.toArray⟩ ks 0 h3 W hW)
      have HKP := hid (And.intro h4 h5)
      have hkl : ks.length = l.length := by rw [← h4, List.length_map]
      have HKL := hid (And.intro hkl h2)
      have q1 : ((ks.length : Int) == (l.length : Int)) = true := by rw [hkl]; exact beq_self_eq_true _
      have q2 : ((mb.length : Int) == (l.length : Int)) = true := by rw [h2]; exact beq_self_eq_true _
      have q3 : (ks.length : Int) = (l.length : Int) := by omega
      have q4 : (mb.length : Int) = (l.length : Int) := by omega
      subst hre h1
      clear h2 h3 h4 h5 hkl HFA HPB HRB HLI HLR
      go_wp2_with fail
      refine (HPK.out _ (HW.out.next HB6.out)).mono ?_
      rintro e w7 ⟨xk, ck, rfl, hb7, hrk, -⟩
      have HB7 := hid (HB6.out.trans hb7)
      have HB57 := hid (HB56.out.trans hb7)
      have HROWK := hid hrk
      clear hb7 hrk HPK HB56
      go_wp2_with fail
      go_loopg [17] l.length (fun gg v17 wr => ∃ (k : Nat), v17 = .int .i64 k ∧ k + gg = l.length ∧ Hid (Bel w7 wr))
      case atStart => exact ⟨0, rfl, by omega, hid (Bel.refl w7)⟩
      case round =>
        obtain ⟨i, rfl, hi, HBL⟩ := hrel
        have Hi := hid hi
        have hin : i ≤ l.length := by omega
        clear hi
        by_cases hlt : i < l.length
        · have hik : i < ks.length := by have := HKL.out; omega
          have him : i < mb.length := by have := HKL.out; omega
          obtain ⟨g4, rfl, -⟩ := row_place HROWK.out (by omega)
          obtain ⟨g2, rfl, -⟩ := row_place HROWB.out (by omega)
          obtain ⟨b, o, rfl, -⟩ := HL.out.place hlt
          have hpp : ks[i].path = l[i] := by
            have := congrArg (fun l => l[i]?) HKP.out.1
            simp [hik, hlt] at this
            exact this
          have hnn : ks[i].name = mb[i].name := by
            have := congrArg (fun l => l[i]?) HKP.out.2
            simp [hik, him] at this
            exact this
          have HRA := hid (fun p : Aft wr => show p.wd.rangeAt b (o + i * 4) [.bool l[i].null, .string ⟨l[i].loc.toArray⟩, .string ⟨l[i].dom.toArray⟩, .bool l[i].lit] from by
            obtain ⟨b3, o3, e, f⟩ := (HL.out.next (HB7.out.trans (HBL.out.trans p.bel))).place hlt
            cases e
            exact f)
          have HRK := hid (fun p : Aft wr => mls_pt HROWK.out (HBL.out.trans p.bel) i hik)
          rw [hpp] at HRK
          have n2 : ∀ p : Aft wr, p.wd.cell? ⟨g2, i * 7 + 6, none⟩ = some (.string ⟨mb[i].name.toArray⟩) := fun p => mls_at HROWB.out (HB57.out.trans (HBL.out.trans p.bel)) i him 6 _ rfl
          have n4 : ∀ p : Aft wr, p.wd.cell? ⟨g4, i * 7 + 6, none⟩ = some (.string ⟨mb[i].name.toArray⟩) := fun p => mls_at HROWK.out (HBL.out.trans p.bel) i hik 6 _ (by rw [← hnn]; rfl)
          generalize (⟨mb[i].name.toArray⟩ : ByteArray) = nm at n2 n4
          generalize l[i] = P at HRA HRK
          clear hpp hnn
          have HEq := fun W => eq_pt P.null ⟨P.loc.toArray⟩ ⟨P.dom.toArray⟩ P.lit P.null ⟨P.loc.toArray⟩ ⟨P.dom.toArray⟩ P.lit W
          have hnm : (nm.toList == nm.toList) = true := beq_self_eq_true _
          have HZm := hid pt_size
          generalize (⟨P.loc.toArray⟩ : ByteArray) = pl at HRA HRK HEq
          generalize (⟨P.dom.toArray⟩ : ByteArray) = pd at HRA HRK HEq
          generalize P.null = pn at HRA HRK HEq
          generalize P.lit = pt at HRA HRK HEq
          have HEq := fun W => (HEq W).trans (show Result.ok (decide (pn = pn ∧ pl = pl ∧ pd = pd ∧ pt = pt)) W = Result.ok true W by simp)
          go_upto_region 24 with (fail)
          refine wp_region_aft (by kernel_rfl) (by kernel_rfl) ?_
          repeat (first
            | go_big_quiet_skip
            | (refine quiet_load_aft 39 _ rfl g4 (i * 7) rfl _ _ HRK.out Tryz.underlying39 rfl HZm.out (by rfl) ?_; intro a' ha'; simp only [Act.put, Array.setIfInBounds, List.size_toArray, go_sem] at ha'; subst ha')
            | (refine quiet_load_aft 39 _ rfl b (o + i * 4) rfl _ _ HRA.out Tryz.underlying39 rfl HZm.out (by rfl) ?_; intro a' ha'; simp only [Act.put, Array.setIfInBounds, List.size_toArray, go_sem] at ha'; subst ha')
            | go_big_quiet_step (fail)
            | quiet_step (fail))
          refine wpQuiet_nil ?_
          rintro _ ⟨p, rfl⟩
          have HBN := hid (HBL.out.trans p.bel)
          clear HRA HRK n2 n4 HEq HBL
          go_wp2_with fail
          go_roundg (gk - 1)
          case measure => have := Hi.out; omega
          case rel => exact ⟨i + 1, by go_num, by have := Hi.out; omega, HBN⟩
        · obtain rfl : i = l.length := by omega
          have HBE := hid (HB7.out.trans HBL.out)
          go_wp2_with fail
          go_ret
          exact ⟨rfl, HBE.out⟩
    · have r0 : (re == 0) = false := by simpa using hre
      clear hre
      by_cases hpe : pe = 0
      · subst hpe
        go_wp2_with fail
        go_ret
        exact ⟨rfl, HB6.out⟩
      · have p0 : (pe == 0) = false := by simpa using hpe
        clear hpe
        go_wp2_with fail
        go_ret
        refine ⟨?_, HB6.out⟩
        show Ending.returned (Value.bool (re != 0)) = _
        rw [show (re != 0) = true by simp [bne, r0]]
end Go.Proofs.YtpmmaickjolimaaGreatDoor.Ma
