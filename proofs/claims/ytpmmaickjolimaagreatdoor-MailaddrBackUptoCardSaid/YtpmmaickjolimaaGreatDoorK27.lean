/- MailaddrKeeps: the law's walk. -/
import Derived.Test.YtpmmaickjolimaaGreatDoorK26
import Derived.Test.YtpmmaickjolimaaGreatDoorRows
import Derived.Test.YtpmmaickjolimaaGreatDoorK06
import Derived.Deep.DeepHandedRow
import Derived.Deep.DeepWitnessRowRef
import Derived.Lib.LaidIn
import Derived.Lib.LaidTab
import Derived.Lib.LaidU8
import Derived.Stop.LaidErr
import Derived.HandedShaped
import Derived.WalkSmall
import Derived.ProofKit
namespace Go.Proofs.YtpmmaickjolimaaGreatDoor.Ma
open Go.RowKit
open Ci (Bel Lay own_bel row_shape addr_add own_base Aft wp_region_aft quiet_load_aft wpList_push)

theorem pt_infos : (Tryz.prog.info? 39).map (fun i => (i.zero, i.size, i.bytes)) = some (some (.agg #[.bool false, .string ⟨#[]⟩, .string ⟨#[]⟩, .bool false]), 4, 48) := by kernel_rfl
def ptCs (l : List Pt) : List Value := l.flatMap ptC
theorem ptCs_snoc (l : List Pt) (p : Pt) : ptCs (l ++ [p]) = ptCs l ++ ptC p := by unfold ptCs; rw [List.flatMap_append]; simp
def PtR (a0 W : World) (v : Value) (l : List Pt) : Prop := W.ownsRow a0.heap.size 39 4 v l.length (ptCs l)
theorem ptCs_at (L : List Pt) (k : Nat) (hk : k < L.length) (j : Nat) (v : Value) (hv : (ptC L[k])[j]? = some v) : (ptCs L)[k * 4 + j]? = some v := by
  induction L generalizing k with
  | nil => simp at hk
  | cons t L ih =>
    show (ptC t ++ ptCs L)[k * 4 + j]? = some v
    have hl : (ptC t).length = 4 := rfl
    cases k with
    | zero =>
      have hj : j < 4 := (List.getElem?_eq_some_iff.1 hv).1
      rw [List.getElem?_append_left (by omega), Nat.zero_mul, Nat.zero_add]
      exact hv
    | succ k =>
      rw [List.getElem?_append_right (by omega), hl, show (k + 1) * 4 + j - 4 = k * 4 + j by omega]
      exact ih k (by simp at hk; omega) hv
theorem PtR.pts {a0 W : World} {x : Option Addr} {c : Nat} {l : List Pt} (h : PtR a0 W (.slice x l.length c) l) : Pts W x l := by
  refine ⟨?_⟩
  rcases h.2 with ⟨-, h0⟩ | ⟨g, cap, cur, e, hg, hh, -⟩
  · exact .inl (List.eq_nil_of_length_eq_zero h0)
  · cases e
    refine .inr ⟨g, 0, rfl, (Array.getElem?_eq_some_iff.1 hh).1, fun k hk j v hv => ?_⟩
    have hj := ptCs_at l k hk j v hv
    have hl := (List.getElem?_eq_some_iff.1 hj).1
    rw [h.1] at hl
    rw [Nat.zero_add]
    exact (World.ownsRow.cellAt h (k * 4 + j) hl).trans hj
theorem esc_ge (l : List UInt8) : l.length ≤ (l.flatMap esc).length := by
  induction l with
  | nil => simp
  | cons b l ih =>
    rw [List.flatMap_cons, List.length_append, List.length_cons]
    have : 1 ≤ (esc b).length := by unfold esc; split <;> simp
    omega
theorem good_small {p : Pt} (h : Good p) : p.loc.length ≤ 4194304 ∧ p.dom.length ≤ 4194304 := by
  have hl := h.len
  simp only [not_or] at hl
  have h1 : p.loc.length ≤ (formP p.loc).length := by
    unfold formP
    split
    · exact Nat.le_refl _
    · have := esc_ge p.loc
      rw [List.length_cons, List.length_append]; omega
  have h2 : p.dom.length ≤ (domP p).length := by
    unfold domP
    split
    · simp only [List.length_append]; omega
    · exact Nat.le_refl _
  have h3 : (domP p).length ≤ (shownP p).length := by
    have he : p.dom.isEmpty = false := by
      cases hd : p.dom with
      | nil => exact absurd hd h.dn
      | cons => rfl
    unfold shownP
    rw [h.nn, if_neg Bool.false_ne_true, he, Bool.and_false, if_neg Bool.false_ne_true]
    simp only [List.length_append]; omega
  omega
theorem ordM_at : ∀ (l : List Ml) (n a : Nat), OrdM n a l → ∀ k (hk : k < l.length), a ≤ l[k].from_ ∧ l[k].from_ < l[k].til ∧ l[k].til ≤ n
  | [], _, _, _, k, hk => by simp at hk
  | x :: l, n, a, h, 0, hk => ⟨h.1, h.2.1, ordM_le h.2.2⟩
  | x :: l, n, a, h, k + 1, hk => by
    have := ordM_at l n x.til h.2.2 k (by simpa using hk)
    have h1 := h.1; have h2 := h.2.1
    simp only [List.getElem_cons_succ]
    omega
theorem ordM_next : ∀ (l : List Ml) (n a : Nat), OrdM n a l → ∀ k (hk : k + 1 < l.length), l[k].til ≤ l[k + 1].from_
  | [], _, _, _, k, hk => by simp at hk
  | x :: [], n, a, h, k, hk => by simp at hk
  | x :: y :: l, n, a, h, 0, hk => h.2.2.1
  | x :: y :: l, n, a, h, k + 1, hk => ordM_next (y :: l) n x.til h.2.2 k (by simpa using hk)
/-- Paths in hand. -/
structure KpI (ms : List Ml) (w2 wr : World) (k : Nat) (v : Value) : Prop where
  bel : Bel w2 wr
  row : PtR w2 wr v ((ms.take k).map Ml.path)
set_option maxHeartbeats 16000000 in
set_option maxRecDepth 100000 in
theorem keeps_run (s : ByteArray) (w : World) (hw : Lay w) : Calls Tryz.prog 4 #[.string s] w fun e w' => e = .returned (.bool true) ∧ Bel w w' := by
  have HW := hid hw
  have HSH := hid (lshown_run w hw)
  clear hw
  by_cases hpe : (parseQ s.data.toList).2 = 0
  · obtain ⟨ms, hms⟩ : ∃ ms, parseQ s.data.toList = (ms, 0) := ⟨_, Prod.ext rfl hpe⟩
    have HP := hid (fun W hW => parse_as s ms 0 hms W hW)
    have HORD := hid (parse_ord hms)
    have HGD := hid (parse_good hms)
    have h200 : ms.length ≤ 200 := (parse_ok hms).2.choose_spec.2.2
    have HRR := hid (replace_reads hms (ps := ms.map Ml.path) (fun p hp => by
      obtain ⟨m, hm, rfl⟩ := List.mem_map.1 hp
      exact parse_good hms m hm) (by rw [List.length_map]))
    have HSZ := hid (Lib.size_eq s)
    clear hpe hms
    go_enter Tryz.func4, Tryz.ntmps4
    go_wp2_with fail
    refine HSH.out.mono ?_
    rintro e w1 ⟨rfl, hb1⟩
    have HB1 := hid hb1
    clear hb1 HSH
    go_wp2_with fail
    refine (HP.out _ (HW.out.next HB1.out)).mono ?_
    rintro e w2 ⟨x2, c2, rfl, hb2, hr2, -⟩
    have HB2 := hid (HB1.out.trans hb2)
    have HROW := hid hr2
    clear hb2 hr2 HP
    go_wp2_with fail
    go_loopg [6, 7] ms.length (fun gg v6 v7 wr => ∃ (k : Nat) (x6 : Option Addr) (c6 : Nat), v6 = .slice x6 k c6 ∧ v7 = .int .i64 k ∧ k + gg = ms.length ∧ Hid (KpI ms w2 wr k (.slice x6 k c6)))
    case atStart => exact ⟨0, none, 0, rfl, rfl, by omega, hid ⟨Bel.refl w2, ⟨rfl, .inl ⟨rfl, rfl⟩⟩⟩⟩
    case round =>
      obtain ⟨k, x6, c6, rfl, rfl, hk, H⟩ := hrel
      have Hk := hid hk
      have hkn : k ≤ ms.length := by omega
      clear hk
      have HBW := hid (show Bel w wr from HB2.out.trans H.out.bel)
      have HB2W := hid H.out.bel
      by_cases hlt : k < ms.length
      · obtain ⟨g, rfl, -⟩ := row_place HROW.out (by omega)
        have HOW := hid (show wr.ownsRow w2.heap.size 39 4 (.slice x6 k c6) k (ptCs ((ms.take k).map Ml.path)) by
          have h9 := H.out.row
          unfold PtR at h9
          rwa [List.length_map, List.length_take, Nat.min_eq_left hkn] at h9)
        have HTK := hid (show ptCs ((ms.take (k + 1)).map Ml.path) = ptCs ((ms.take k).map Ml.path) ++ ptC ms[k].path by
          rw [List.take_succ_eq_append_getElem hlt, List.map_append]
          exact ptCs_snoc _ _)
        have f4 : ∀ p : Aft wr, p.wd.cell? ⟨g, k * 7 + 4, none⟩ = some (.int .i64 ms[k].from_) := fun p => mls_at HROW.out (HB2W.out.trans p.bel) k hlt 4 _ rfl
        have f5 : ∀ p : Aft wr, p.wd.cell? ⟨g, k * 7 + 5, none⟩ = some (.int .i64 ms[k].til) := fun p => mls_at HROW.out (HB2W.out.trans p.bel) k hlt 5 _ rfl
        have HRG := hid (fun p : Aft wr => show p.wd.rangeAt g (k * 7) (ptC ms[k].path) from fun j v hv => mls_at HROW.out (HB2W.out.trans p.bel) k hlt j v (by
          have hj : j < 4 := (List.getElem?_eq_some_iff.1 hv).1
          have e : mlC ms[k] = ptC ms[k].path ++ [.int .i64 ms[k].from_, .int .i64 ms[k].til, .string ⟨ms[k].name.toArray⟩] := rfl
          rw [e, List.getElem?_append_left hj]
          exact hv))
        have ho := ordM_at ms _ _ HORD.out k hlt
        rw [← HSZ.out] at ho
        have b1 : decide ((ms[k].from_ : Int) < 0) = false := decide_eq_false (by omega)
        have b2 : decide ((ms[k].til : Int) ≤ (ms[k].from_ : Int)) = false := decide_eq_false (by omega)
        have b3 : decide ((s.size : Int) < (ms[k].til : Int)) = false := decide_eq_false (by omega)
        have b2n : ¬ ms[k].til ≤ ms[k].from_ := by omega
        have b3n : ¬ s.size < ms[k].til := by omega
        clear H
        by_cases hpos : ¬ 0 < k
        · have b4 : decide ((0 : Int) < (k : Int)) = false := decide_eq_false (by omega)
          clear ho
          generalize ms[k] = m at f4 f5 HRG HTK b1 b2 b3 b2n b3n
          go_upto_region 9 with (fail)
          refine wp_region_aft (by kernel_rfl) (by kernel_rfl) ?_
          repeat (first
            | go_big_quiet_skip
            | go_big_quiet_step (fail)
            | quiet_step (fail))
          refine wpQuiet_nil ?_
          rintro _ ⟨p, rfl⟩
          go_wp2_with (first | (refine wpList_load_mid rfl 39 (.tmp 88) rfl g (k * 7) rfl [.bool m.path.null, .string ⟨m.path.loc.toArray⟩, .string ⟨m.path.dom.toArray⟩, .bool m.path.lit] _ (HRG.out p) Tryz.underlying39 rfl pt_size ?_) | (at_builtin; refine wpList_push (a0 := w2) (W := p.wd) rfl (.tmp 84) (.tmp 90) 37 rfl 39 (.agg #[.bool false, .string ⟨#[]⟩, .string ⟨#[]⟩, .bool false]) 4 48 Tryz.underlying37 pt_infos rfl (by decide) (.slice x6 k c6) k _ rfl (own_bel HOW.out p.bel) (HB2W.out.trans p.bel) _ rfl rfl (by intro u hu; simp at hu; rcases hu with rfl | rfl | rfl | rfl <;> rfl) (by unfold maxLen; omega) (by omega) ?_; intro x' p' w9 hown9 hb9))
          go_roundg (gk - 1)
          case measure => have := Hk.out; omega
          case rel => exact ⟨k + 1, x', p', rfl, by go_num, by have := Hk.out; omega, hid ⟨hb9, by
            unfold PtR
            rw [List.length_map, List.length_take, Nat.min_eq_left (by omega), HTK.out]
            exact hown9⟩⟩
        · have hpos : 0 < k := by omega
          obtain ⟨j, hj⟩ : ∃ j, j + 1 = k := ⟨k - 1, by omega⟩
          have hjl : j < ms.length := by omega
          have f6 : ∀ p : Aft wr, p.wd.cell? ⟨g, (k - 1) * 7 + 5, none⟩ = some (.int .i64 ms[j].til) := fun p => by
            rw [show k - 1 = j by omega]
            exact mls_at HROW.out (HB2W.out.trans p.bel) j hjl 5 _ rfl
          have hpr := ordM_next ms _ _ HORD.out j (by omega)
          have hpr2 : ms[j].til ≤ ms[k].from_ := by
            have e : ms[j + 1]'(by omega) = ms[k] := by simp only [hj]
            rw [← e]; exact hpr
          have b5 : decide ((ms[k].from_ : Int) < (ms[j].til : Int)) = false := decide_eq_false (by omega)
          have b5n : ¬ ms[k].from_ < ms[j].til := by omega
          have b4 : decide ((0 : Int) < (k : Int)) = true := decide_eq_true (by omega)
          clear hj ho hpr hpr2
          generalize ms[j].til = jt at f6 b5 b5n
          generalize ms[k] = m at f4 f5 HRG HTK b1 b2 b3 b5 b2n b3n b5n
          go_upto_region 9 with (fail)
          refine wp_region_aft (by kernel_rfl) (by kernel_rfl) ?_
          repeat (first
            | go_big_quiet_skip
            | go_big_quiet_step (fail)
            | quiet_step (fail))
          refine wpQuiet_nil ?_
          rintro _ ⟨p, rfl⟩
          go_wp2_with (first | (refine wpList_load_mid rfl 39 (.tmp 88) rfl g (k * 7) rfl [.bool m.path.null, .string ⟨m.path.loc.toArray⟩, .string ⟨m.path.dom.toArray⟩, .bool m.path.lit] _ (HRG.out p) Tryz.underlying39 rfl pt_size ?_) | (at_builtin; refine wpList_push (a0 := w2) (W := p.wd) rfl (.tmp 84) (.tmp 90) 37 rfl 39 (.agg #[.bool false, .string ⟨#[]⟩, .string ⟨#[]⟩, .bool false]) 4 48 Tryz.underlying37 pt_infos rfl (by decide) (.slice x6 k c6) k _ rfl (own_bel HOW.out p.bel) (HB2W.out.trans p.bel) _ rfl rfl (by intro u hu; simp at hu; rcases hu with rfl | rfl | rfl | rfl <;> rfl) (by unfold maxLen; omega) (by omega) ?_; intro x' p' w9 hown9 hb9))
          go_roundg (gk - 1)
          case measure => have := Hk.out; omega
          case rel => exact ⟨k + 1, x', p', rfl, by go_num, by have := Hk.out; omega, hid ⟨hb9, by
            unfold PtR
            rw [List.length_map, List.length_take, Nat.min_eq_left (by omega), HTK.out]
            exact hown9⟩⟩
      · obtain rfl : k = ms.length := by omega
        have HPT := hid (show Pts wr x6 (ms.map Ml.path) by
          have h9 := H.out.row
          rw [List.take_length] at h9
          refine PtR.pts (a0 := w2) (c := c6) ?_
          rw [List.length_map]
          exact h9)
        have HSM := hid (show Small (ms.map Ml.path) from fun p hp => by
          obtain ⟨m, hm, rfl⟩ := List.mem_map.1 hp
          exact good_small (HGD.out m hm))
        have HRP := (show Hid (Calls Tryz.prog 19 #[.string s, .slice x6 ms.length c6] wr fun e w' => e = .returned (.tuple #[.string ⟨(replaceQ s.data.toList (ms.map Ml.path)).1.toArray⟩, .int .i64 (replaceQ s.data.toList (ms.map Ml.path)).2]) ∧ Bel wr w') by
          have h9 := mreplace_run s x6 (ms.map Ml.path) c6 wr (HW.out.next HBW.out) HPT.out HSM.out
          rw [List.length_map] at h9
          exact h9)
        rcases HRR.out with hr | ⟨t, ht, ks, hks, hkp, hkn2⟩
        · rw [hr] at HRP
          have HRP := (show Hid (Calls Tryz.prog 19 #[.string s, .slice x6 ms.length c6] wr fun e w' => e = .returned (.tuple #[.string ⟨#[]⟩, .int .i64 101]) ∧ Bel wr w') from HRP.out)
          clear H hr HRR HPT HSM
          go_wp2_with fail
          refine HRP.out.mono ?_
          rintro e w3 ⟨rfl, hb3⟩
          have HB3 := hid (HBW.out.trans hb3)
          clear hb3
          go_wp2_with fail
          go_ret
          exact ⟨rfl, HB3.out⟩
        · rw [ht] at HRP
          have HRP := (show Hid (Calls Tryz.prog 19 #[.string s, .slice x6 ms.length c6] wr fun e w' => e = .returned (.tuple #[.string ⟨t.toArray⟩, .int .i64 0]) ∧ Bel wr w') from HRP.out)
          have HPK := hid (fun W hW => parse_as ⟨t.toArray⟩ ks 0 hks W hW)
          have hlen : ks.length = ms.length := by
            have := congrArg List.length hkp
            rwa [List.length_map, List.length_map] at this
          have HKP := hid (And.intro hkp hkn2)
          clear H ht HRR HPT HSM hks hkp hkn2
          go_wp2_with fail
          refine HRP.out.mono ?_
          rintro e w3 ⟨rfl, hb3⟩
          have HB3 := hid (HBW.out.trans hb3)
          have HB23 := hid (HB2W.out.trans hb3)
          clear hb3 HRP
          go_wp2_with fail
          refine (HPK.out _ (HW.out.next HB3.out)).mono ?_
          rintro e w4 ⟨x4, c4, rfl, hb4, hr4, -⟩
          have HB4 := hid (HB3.out.trans hb4)
          have HB24 := hid (HB23.out.trans hb4)
          have HROW4 := hid hr4
          have HLEN := hid hlen
          have hbq : ((ks.length : Int) == (ms.length : Int)) = true := by rw [hlen]; exact beq_self_eq_true _
          have hleq : (ks.length : Int) = (ms.length : Int) := by omega
          clear hb4 hr4 HPK HB23 HB3 hlen
          go_wp2_with fail
          go_loopg [12] ms.length (fun gg v12 wr => ∃ (k : Nat), v12 = .int .i64 k ∧ k + gg = ms.length ∧ Hid (Bel w4 wr))
          case atStart => exact ⟨0, rfl, by omega, hid (Bel.refl w4)⟩
          case round =>
            obtain ⟨i, rfl, hi, HBL⟩ := hrel
            have Hi := hid hi
            have hin : i ≤ ms.length := by omega
            clear hi
            by_cases hlt : i < ms.length
            · have hlk : i < ks.length := by have := HLEN.out; omega
              obtain ⟨g2, rfl, -⟩ := row_place HROW.out (by omega)
              obtain ⟨g4, rfl, -⟩ := row_place HROW4.out (by omega)
              have hpp : ks[i].path = ms[i].path := by
                have := congrArg (fun l => l[i]?) HKP.out.1
                simp [hlk, hlt] at this
                exact this
              have hnn : ks[i].name = ms[i].name := by
                have := congrArg (fun l => l[i]?) HKP.out.2
                simp [hlk, hlt] at this
                exact this
              have HRA := hid (fun p : Aft wr => show p.wd.rangeAt g2 (i * 7) (ptC ms[i].path) from fun j v hv => mls_at HROW.out (HB24.out.trans (HBL.out.trans p.bel)) i hlt j v (by
                have hj : j < 4 := (List.getElem?_eq_some_iff.1 hv).1
                have e : mlC ms[i] = ptC ms[i].path ++ [.int .i64 ms[i].from_, .int .i64 ms[i].til, .string ⟨ms[i].name.toArray⟩] := rfl
                rw [e, List.getElem?_append_left hj]
                exact hv))
              have HRB := hid (fun p : Aft wr => show p.wd.rangeAt g4 (i * 7) (ptC ms[i].path) from fun j v hv => mls_at HROW4.out (HBL.out.trans p.bel) i hlk j v (by
                have hj : j < 4 := (List.getElem?_eq_some_iff.1 hv).1
                have e : mlC ks[i] = ptC ks[i].path ++ [.int .i64 ks[i].from_, .int .i64 ks[i].til, .string ⟨ks[i].name.toArray⟩] := rfl
                rw [e, List.getElem?_append_left (by rw [show (ptC ks[i].path).length = 4 from rfl]; exact hj), hpp]
                exact hv))
              have n2 : ∀ p : Aft wr, p.wd.cell? ⟨g2, i * 7 + 6, none⟩ = some (.string ⟨ms[i].name.toArray⟩) := fun p => mls_at HROW.out (HB24.out.trans (HBL.out.trans p.bel)) i hlt 6 _ rfl
              have n4 : ∀ p : Aft wr, p.wd.cell? ⟨g4, i * 7 + 6, none⟩ = some (.string ⟨ms[i].name.toArray⟩) := fun p => mls_at HROW4.out (HBL.out.trans p.bel) i hlk 6 _ (by rw [← hnn]; rfl)
              generalize (⟨ms[i].name.toArray⟩ : ByteArray) = nm at n2 n4
              generalize ms[i].path = P at HRA HRB
              clear hpp hnn
              have HEq := fun W => eq_pt P.null ⟨P.loc.toArray⟩ ⟨P.dom.toArray⟩ P.lit P.null ⟨P.loc.toArray⟩ ⟨P.dom.toArray⟩ P.lit W
              have hnm : (nm.toList == nm.toList) = true := beq_self_eq_true _
              have HZm := hid pt_size
              have HRA := (show Hid (∀ p : Aft wr, p.wd.rangeAt g2 (i * 7) [.bool P.null, .string ⟨P.loc.toArray⟩, .string ⟨P.dom.toArray⟩, .bool P.lit]) from HRA.out)
              have HRB := (show Hid (∀ p : Aft wr, p.wd.rangeAt g4 (i * 7) [.bool P.null, .string ⟨P.loc.toArray⟩, .string ⟨P.dom.toArray⟩, .bool P.lit]) from HRB.out)
              generalize (⟨P.loc.toArray⟩ : ByteArray) = pl at HRA HRB HEq
              generalize (⟨P.dom.toArray⟩ : ByteArray) = pd at HRA HRB HEq
              generalize P.null = pn at HRA HRB HEq
              generalize P.lit = pt at HRA HRB HEq
              have HEq := fun W => (HEq W).trans (show Result.ok (decide (pn = pn ∧ pl = pl ∧ pd = pd ∧ pt = pt)) W = Result.ok true W by simp)
              go_upto_region 21 with (fail)
              refine wp_region_aft (by kernel_rfl) (by kernel_rfl) ?_
              repeat (first
                | go_big_quiet_skip
                | (refine quiet_load_aft 39 _ rfl g4 (i * 7) rfl _ _ HRB.out Tryz.underlying39 rfl HZm.out (by rfl) ?_; intro a' ha'; simp only [Act.put, Array.setIfInBounds, List.size_toArray, go_sem] at ha'; subst ha')
                | (refine quiet_load_aft 39 _ rfl g2 (i * 7) rfl _ _ HRA.out Tryz.underlying39 rfl HZm.out (by rfl) ?_; intro a' ha'; simp only [Act.put, Array.setIfInBounds, List.size_toArray, go_sem] at ha'; subst ha')
                | go_big_quiet_step (fail)
                | quiet_step (fail))
              refine wpQuiet_nil ?_
              rintro _ ⟨p, rfl⟩
              have HBN := hid (HBL.out.trans p.bel)
              clear HRA HRB n2 n4 HEq HBL
              go_wp2_with fail
              go_roundg (gk - 1)
              case measure => have := Hi.out; omega
              case rel => exact ⟨i + 1, by go_num, by have := Hi.out; omega, HBN⟩
            · obtain rfl : i = ms.length := by omega
              have HBE := hid (HB4.out.trans HBL.out)
              go_wp2_with fail
              go_ret
              exact ⟨rfl, HBE.out⟩
  · have HPL := hid (parse_bad s.data.toList hpe)
    have HP := hid (fun W hW => parse_as s (parseQ s.data.toList).1 (parseQ s.data.toList).2 rfl W hW)
    generalize (parseQ s.data.toList).2 = pe at HP hpe
    rw [HPL.out] at HP
    have HP := (show Hid (∀ W, Lay W → Calls Tryz.prog 18 #[.string s] W fun e w' => ∃ x c, e = .returned (.tuple #[.slice x 0 c, .int .i64 pe]) ∧ Bel W w') from fun W hW => (HP.out W hW).mono fun e w' ⟨x, c, h1, h2, _⟩ => ⟨x, c, h1, h2⟩)
    have b2 : (pe == 0) = false := by simpa using hpe
    clear hpe HPL
    go_enter Tryz.func4, Tryz.ntmps4
    go_wp2_with fail
    refine HSH.out.mono ?_
    rintro e w1 ⟨rfl, hb1⟩
    have HB1 := hid hb1
    clear hb1 HSH
    go_wp2_with fail
    refine (HP.out _ (HW.out.next HB1.out)).mono ?_
    rintro e w2 ⟨x2, c2, rfl, hb2⟩
    have HB2 := hid (HB1.out.trans hb2)
    clear hb2 HP
    go_wp2_with fail
    go_ret
    exact ⟨rfl, HB2.out⟩
end Go.Proofs.YtpmmaickjolimaaGreatDoor.Ma

/- What the listed package-level variables hold; a world for the rows' witness. -/
namespace Go.Proofs.YtpmmaickjolimaaGreatDoor.Ci
open Go.RowKit Go.ChangeShapes Go.WideShapes Go.ChangeAt Go.Lib

theorem own : ownKnob Tryz.prog.godebug = none := by kernel_rfl
def laidL : List (String × DataW Unit) := [("math/bits.deBruijn32tab", Rows.laid_math_bits_deBruijn32tab), ("math/bits.deBruijn64tab", Rows.laid_math_bits_deBruijn64tab), ("internal/strconv.uint64pow10", Rows.laid_internal_strconv_uint64pow10), ("unicode/utf8.acceptRanges", Rows.laid_unicode_utf8_acceptRanges), ("strconv.ErrRange", Rows.laid_strconv_ErrRange), ("strconv.ErrSyntax", Rows.laid_strconv_ErrSyntax), ("unicode/utf8.first", Rows.laid_unicode_utf8_first)]
def db64 : List Int := [0, 1, 56, 2, 57, 49, 28, 3, 61, 58, 42, 50, 38, 29, 17, 4, 62, 47, 59, 36, 45, 43, 51, 22, 53, 39, 33, 30, 24, 18, 12, 5, 63, 55, 48, 27, 60, 41, 37, 16, 46, 35, 44, 21, 52, 32, 23, 11, 54, 26, 40, 15, 34, 20, 31, 10, 25, 14, 19, 9, 13, 8, 7, 6]
theorem star : "*" ++ "errors.errorString" = "*errors.errorString" := by decide
theorem rowE (u : TypeId) (h : Tryz.prog.typeName? 3 u = some "*errors.errorString") : u = 249 :=
  typeName_ptr_named (nm := "errors.errorString") (by rw [star]; kernel_rfl) (by kernel_rfl) (by decide) u (by rw [star]; exact h)
theorem gPow : Tryz.prog.globalNamed "internal/strconv.uint64pow10" = some 3 := by kernel_rfl
theorem gDb : Tryz.prog.globalNamed "math/bits.deBruijn64tab" = some 7 := by kernel_rfl
theorem gErr : Tryz.prog.globalNamed "strconv.ErrSyntax" = some 1 := by kernel_rfl
/-- What the row's list gives. -/
theorem lay_of {W : World} (hL : laidMet Tryz.prog laidL W) (hS : W.ShapedOpen Tryz.prog) : Lay W := by
  have hdb : Lib.TabIs Tryz.prog W "math/bits.deBruijn64tab" .u8 db64 :=
    Lib.tabIs_of_head (e := 5) gDb (by kernel_rfl) Tryz.underlying255 Tryz.underlying5 (by kernel_rfl) (by kernel_rfl) (show laidMet Tryz.prog (("math/bits.deBruijn64tab", Lib.tabData .u8 db64) :: _) W from hL.tail)
  have hpw : Lib.TabIs Tryz.prog W "internal/strconv.uint64pow10" .u64 Lib.pow10Tab :=
    Lib.tabIs_of_head (e := 176) gPow (by kernel_rfl) Tryz.underlying242 Tryz.underlying176 (by kernel_rfl) (by kernel_rfl) (show laidMet Tryz.prog (("internal/strconv.uint64pow10", Lib.tabData .u64 Lib.pow10Tab) :: _) W from hL.tail.tail)
  obtain ⟨a0, t0, hv0, -, -, -⟩ := laid_sentinel (g := 1) hL.tail.tail.tail.tail.tail (by kernel_rfl) (by kernel_rfl) Tryz.underlying93 rowE Tryz.underlying249 Tryz.underlying251 rfl rfl Tryz.underlying9 (by kernel_rfl) (by kernel_rfl)
  have c15 : W.cell? ⟨7, 15, none⟩ = some (.int .u8 4) := hdb.cell gDb 15 (by decide)
  have hsz : 8 ≤ W.heap.size := by
    rcases Nat.lt_or_ge 7 W.heap.size with f | f
    · exact f
    · simp [World.cell?, Array.getElem?_eq_none f] at c15
  refine ⟨hsz, ?_, ⟨_, _, World.var?_cell gErr hv0 0⟩, fun w' hb => ?_, c15⟩
  · exact Go.Proofs.cell_of_shapedOpen_int (g := 0) (zero := #[.int .i64 0]) (t := 3) hS (of_decide_eq_true (by kernel_rfl)) (by kernel_rfl) rfl (by kernel_rfl) (by kernel_rfl) Tryz.underlying3
  · exact var?_below hb gPow (by omega) hpw

/-- The settled world, the two errors' structs, the variables as their initialisers lay them. -/
noncomputable def laidWorld (os : Os) : World :=
  let N := (World.settled Tryz.prog os).heap.size
  let w0 := World.holding Tryz.prog os ⟨#[.cells #[.string ⟨#[105, 110, 118, 97, 108, 105, 100, 32, 115, 121, 110, 116, 97, 120]⟩] 251, .cells #[.string ⟨#[118, 97, 108, 117, 101, 32, 111, 117, 116, 32, 111, 102, 32, 114, 97, 110, 103, 101]⟩] 251], #[], []⟩
  let put (h : Array Obj) (g : Nat) (cs : Array Value) : Array Obj := h.modify g fun
    | .cells _ t frozen => .cells cs t frozen
    | o => o
  let h0 := put (put w0.heap 1 #[.iface 249 (.pointer (some ⟨N, 0, none⟩))]) 2 #[.iface 249 (.pointer (some ⟨N + 1, 0, none⟩))]
  let h1 := put h0 4 (Lib.firstTab.map fun z => Value.int .u8 z).toArray
  let h2 := put h1 5 ((List.range 16).flatMap fun i => [Value.int .u8 (Lib.accLo i), Value.int .u8 (Lib.accHi i)]).toArray
  let h3 := put h2 3 (Lib.pow10Tab.map fun z => Value.int .u64 z).toArray
  let h4 := put h3 7 (db64.map fun z => Value.int .u8 z).toArray
  let h5 := put h4 6 (([0, 1, 28, 2, 29, 14, 24, 3, 30, 22, 20, 15, 25, 17, 4, 8, 31, 27, 13, 23, 21, 19, 16, 7, 26, 12, 18, 6, 11, 5, 10, 9] : List Int).map fun z => Value.int .u8 z).toArray
  { w0 with heap := h5 }
noncomputable abbrev N0 : Nat := (World.settled Tryz.prog default).heap.size
set_option maxRecDepth 1000000 in
theorem laid_in (os : Os) (args : Array Value) : LaidIn Tryz.prog ((laidWorld os).forCall (fun _ _ => 0) ⟨#[], args, []⟩).memory laidL [6, 7, 3, 5, 2, 1, 4, N0, N0 + 1] :=
  LaidIn.of_run _ 8 (by kernel_rfl) (by kernel_rfl) (by kernel_rfl) (by kernel_rfl)
theorem laid_met (os : Os) (args : Array Value) : laidMet Tryz.prog laidL ((laidWorld os).forCall (fun _ _ => 0) ⟨#[], args, []⟩).memory := (laid_in os args).met
end Go.Proofs.YtpmmaickjolimaaGreatDoor.Ci
