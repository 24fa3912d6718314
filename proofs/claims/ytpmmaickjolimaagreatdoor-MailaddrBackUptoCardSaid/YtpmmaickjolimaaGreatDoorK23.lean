/- Walks of path: Right, Show; shown of mailaddr. -/
import Derived.Test.YtpmmaickjolimaaGreatDoorK22
namespace Go.Proofs.YtpmmaickjolimaaGreatDoor.Ma
open Go.RowKit
open Ci (Bel Lay)

theorem pt_size : (Tryz.prog.info? 39).map (·.size) = some 4 := by kernel_rfl
theorem range_pt {w : World} {b : Nat} {n t : Bool} {l d : ByteArray} {T : TypeId} (h : w.heap[b]? = some (.cells #[.bool n, .string l, .string d, .bool t] T (0, 0))) : w.rangeAt b 0 [.bool n, .string l, .string d, .bool t] :=
  Ci.range_of h fun j v hv => by rw [Nat.zero_add]; exact hv
theorem shown_len (p : Pt) (hl : p.loc.length ≤ 4194304) (hd : p.dom.length ≤ 4194304) : (shownP p).length ≤ 30000000 := by
  have h1 := form_len p.loc
  have h2 : (domP p).length ≤ p.dom.length + 7 := by
    unfold domP
    split
    · simp only [List.length_append, List.length_cons, List.length_nil]
      split <;> simp [IPv6] <;> omega
    · omega
  unfold shownP
  split
  · simp
  · split
    · omega
    · simp only [List.length_append, List.length_cons, List.length_nil]; omega
def pOf (n : Bool) (l d : ByteArray) (t : Bool) : Pt := ⟨n, l.data.toList, d.data.toList, t⟩
set_option maxHeartbeats 8000000 in
set_option maxRecDepth 100000 in
theorem right_run (n : Bool) (l d : ByteArray) (t : Bool) (w : World) (hw : Lay w) (hl : l.size ≤ 4194304) (hd : d.size ≤ 4194304) :
    Calls Tryz.prog 49 #[.agg #[.bool n, .string l, .string d, .bool t]] w fun e w' => e = .returned (.int .i64 (rightP (pOf n l d t))) ∧ Bel w w' := by
  have H0 := hid (And.intro ((Bel.refl w).alloc (.cells #[.bool n, .string l, .string d, .bool t] 39)) (heap_alloc_new w (.cells #[.bool n, .string l, .string d, .bool t] 39)))
  have HW := hid hw
  have HM := (show Hid (∀ W, Lay W → Calls Tryz.prog 96 #[.agg #[.bool n, .string l, .string d, .bool t]] W fun e w' => e = .returned (.bool (mayQ (pOf n l d t))) ∧ Bel W w') from fun W hW => may_run n l d t W hW hl hd)
  have HF := (show Hid (∀ W, Lay W → Calls Tryz.prog 97 #[.string l] W fun e w' => e = .returned (.string ⟨(formP l.data.toList).toArray⟩) ∧ Bel W w') from fun W hW => form_run l W hW hl)
  have HS := (show Hid (∀ W, Lay W → Calls Tryz.prog 98 #[.agg #[.bool n, .string l, .string d, .bool t]] W fun e w' => e = .returned (.string ⟨(shownP (pOf n l d t)).toArray⟩) ∧ Bel W w') from fun W hW => pshown_run n l d t W hW hl hd)
  have e1 : (⟨(formP l.data.toList).toArray⟩ : ByteArray).size = (formP l.data.toList).length := by rw [Lib.size_eq]
  have e2 : (⟨(shownP (pOf n l d t)).toArray⟩ : ByteArray).size = (shownP (pOf n l d t)).length := by rw [Lib.size_eq]
  have e3 : (shownP (pOf n l d t)).length ≤ 30000000 := shown_len _ (by show l.data.toList.length ≤ _; rw [← Lib.size_eq]; exact hl) (by show d.data.toList.length ≤ _; rw [← Lib.size_eq]; exact hd)
  have e4 : (formP l.data.toList).length ≤ 30000000 := by have := form_len l.data.toList; rw [← Lib.size_eq] at this; omega
  have hR : rightP (pOf n l d t) = if !mayQ (pOf n l d t) then 90 else if n then 0 else if 64 < (⟨(formP l.data.toList).toArray⟩ : ByteArray).size ∨ (!t) ∧ 255 < d.size ∨ 256 < (⟨(shownP (pOf n l d t)).toArray⟩ : ByteArray).size + 2 then 91 else 0 := by
    rw [e1, e2, Lib.size_eq d]
    rfl
  rw [← e1] at e4
  rw [← e2] at e3
  generalize (⟨(formP l.data.toList).toArray⟩ : ByteArray) = fl at HF hR e4
  generalize (⟨(shownP (pOf n l d t)).toArray⟩ : ByteArray) = sh at HS hR e3
  generalize mayQ (pOf n l d t) = m at HM hR
  generalize rightP (pOf n l d t) = r at hR
  clear e1 e2 hw
  have HP0 := hid H0.out.2
  cases m with
  | false =>
    have HX := hid (show r = 90 by rw [hR]; rfl)
    clear hR
    go_enter Tryz.func49, Tryz.ntmps49
    go_wp2_with (first | (refine wpList_load_mid rfl 39 (.tmp 1) rfl w.heap.size 0 rfl [.bool n, .string l, .string d, .bool t] _ (range_pt HP0.out) Tryz.underlying39 rfl pt_size ?_) | (go_at_call 96; refine (HM.out _ (HW.out.next H0.out.1)).mono ?_; rintro e w1 ⟨rfl, hb1⟩))
    go_ret
    exact ⟨by rw [HX.out]; rfl, H0.out.1.trans hb1⟩
  | true =>
    cases n with
    | true =>
      have HX := hid (show r = 0 by rw [hR]; rfl)
      clear hR
      go_enter Tryz.func49, Tryz.ntmps49
      go_wp2_with (first | (refine wpList_load_mid rfl 39 (.tmp 1) rfl w.heap.size 0 rfl [.bool true, .string l, .string d, .bool t] _ (range_pt HP0.out) Tryz.underlying39 rfl pt_size ?_) | (go_at_call 96; refine (HM.out _ (HW.out.next H0.out.1)).mono ?_; rintro e w1 ⟨rfl, hb1⟩; have q0 : w1.cell? ⟨w.heap.size, 0, none⟩ = some (.bool true) := (by simp [World.cell?, hb1.heap HP0.out])))
      go_ret
      exact ⟨by rw [HX.out]; rfl, H0.out.1.trans hb1⟩
    | false =>
      have hR2 : r = if 64 < fl.size ∨ (!t) ∧ 255 < d.size ∨ 256 < sh.size + 2 then 91 else 0 := hR
      clear hR
      by_cases h1 : 64 < fl.size
      · have b1 : decide ((64 : Int) < (fl.size : Int)) = true := decide_eq_true (by omega)
        have HX := hid (show r = 91 by rw [hR2, if_pos (.inl h1)])
        clear hR2 h1
        go_enter Tryz.func49, Tryz.ntmps49
        go_wp2_with (first | (refine wpList_load_mid rfl 39 (.tmp 1) rfl w.heap.size 0 rfl [.bool false, .string l, .string d, .bool t] _ (range_pt HP0.out) Tryz.underlying39 rfl pt_size ?_) | (go_at_call 96; refine (HM.out _ (HW.out.next H0.out.1)).mono ?_; rintro e w1 ⟨rfl, hb1⟩; have HB1 := hid (H0.out.1.trans hb1); have hp1 := hb1.heap HP0.out; have q0 : w1.cell? ⟨w.heap.size, 0, none⟩ = some (.bool false) := (by simp [World.cell?, hp1]); have q1 : w1.cell? ⟨w.heap.size, 1, none⟩ = some (.string l) := (by simp [World.cell?, hp1])) | (go_at_call 97; refine (HF.out _ (HW.out.next HB1.out)).mono ?_; rintro e w2 ⟨rfl, hb2⟩; have hp2 := hb2.heap hp1; have r2 : w2.cell? ⟨w.heap.size, 2, none⟩ = some (.string d) := (by simp [World.cell?, hp2]); have r3 : w2.cell? ⟨w.heap.size, 3, none⟩ = some (.bool t) := (by simp [World.cell?, hp2])) | (refine wpList_load_mid rfl 39 (.tmp 1) rfl w.heap.size 0 rfl [.bool false, .string l, .string d, .bool t] _ (range_pt hp2) Tryz.underlying39 rfl pt_size ?_) | (go_at_call 98; refine (HS.out _ (HW.out.next (HB1.out.trans hb2))).mono ?_; rintro e w3 ⟨rfl, hb3⟩))
        go_ret
        exact ⟨by rw [HX.out]; rfl, HB1.out.trans hb2⟩
      · have b1 : decide ((64 : Int) < (fl.size : Int)) = false := decide_eq_false (by omega)
        by_cases h2 : (!t) = true ∧ 255 < d.size
        · have ht : t = false := by simpa using h2.1
          subst ht
          have b2 : decide ((255 : Int) < (d.size : Int)) = true := decide_eq_true (by have := h2.2; omega)
          have HX := hid (show r = 91 by rw [hR2, if_pos (.inr (.inl h2))])
          clear hR2 h1 h2
          go_enter Tryz.func49, Tryz.ntmps49
          go_wp2_with (first | (refine wpList_load_mid rfl 39 (.tmp 1) rfl w.heap.size 0 rfl [.bool false, .string l, .string d, .bool false] _ (range_pt HP0.out) Tryz.underlying39 rfl pt_size ?_) | (go_at_call 96; refine (HM.out _ (HW.out.next H0.out.1)).mono ?_; rintro e w1 ⟨rfl, hb1⟩; have HB1 := hid (H0.out.1.trans hb1); have hp1 := hb1.heap HP0.out; have q0 : w1.cell? ⟨w.heap.size, 0, none⟩ = some (.bool false) := (by simp [World.cell?, hp1]); have q1 : w1.cell? ⟨w.heap.size, 1, none⟩ = some (.string l) := (by simp [World.cell?, hp1])) | (go_at_call 97; refine (HF.out _ (HW.out.next HB1.out)).mono ?_; rintro e w2 ⟨rfl, hb2⟩; have hp2 := hb2.heap hp1; have r2 : w2.cell? ⟨w.heap.size, 2, none⟩ = some (.string d) := (by simp [World.cell?, hp2]); have r3 : w2.cell? ⟨w.heap.size, 3, none⟩ = some (.bool false) := (by simp [World.cell?, hp2])) | (refine wpList_load_mid rfl 39 (.tmp 1) rfl w.heap.size 0 rfl [.bool false, .string l, .string d, .bool false] _ (range_pt hp2) Tryz.underlying39 rfl pt_size ?_) | (go_at_call 98; refine (HS.out _ (HW.out.next (HB1.out.trans hb2))).mono ?_; rintro e w3 ⟨rfl, hb3⟩))
          go_ret
          exact ⟨by rw [HX.out]; rfl, HB1.out.trans hb2⟩
        · have b3 : wrap64 ((sh.size : Int) + 2) = (sh.size : Int) + 2 := by unfold wrap64; omega
          by_cases h3 : 256 < sh.size + 2
          · have b4 : decide ((256 : Int) < (sh.size : Int) + 2) = true := decide_eq_true (by omega)
            have HX := hid (show r = 91 by rw [hR2, if_pos (.inr (.inr h3))])
            cases t with
            | true =>
              clear hR2 h1 h2 h3
              go_enter Tryz.func49, Tryz.ntmps49
              go_wp2_with (first | (refine wpList_load_mid rfl 39 (.tmp 1) rfl w.heap.size 0 rfl [.bool false, .string l, .string d, .bool true] _ (range_pt HP0.out) Tryz.underlying39 rfl pt_size ?_) | (go_at_call 96; refine (HM.out _ (HW.out.next H0.out.1)).mono ?_; rintro e w1 ⟨rfl, hb1⟩; have HB1 := hid (H0.out.1.trans hb1); have hp1 := hb1.heap HP0.out; have q0 : w1.cell? ⟨w.heap.size, 0, none⟩ = some (.bool false) := (by simp [World.cell?, hp1]); have q1 : w1.cell? ⟨w.heap.size, 1, none⟩ = some (.string l) := (by simp [World.cell?, hp1])) | (go_at_call 97; refine (HF.out _ (HW.out.next HB1.out)).mono ?_; rintro e w2 ⟨rfl, hb2⟩; have hp2 := hb2.heap hp1; have r2 : w2.cell? ⟨w.heap.size, 2, none⟩ = some (.string d) := (by simp [World.cell?, hp2]); have r3 : w2.cell? ⟨w.heap.size, 3, none⟩ = some (.bool true) := (by simp [World.cell?, hp2])) | (refine wpList_load_mid rfl 39 (.tmp 1) rfl w.heap.size 0 rfl [.bool false, .string l, .string d, .bool true] _ (range_pt hp2) Tryz.underlying39 rfl pt_size ?_) | (go_at_call 98; refine (HS.out _ (HW.out.next (HB1.out.trans hb2))).mono ?_; rintro e w3 ⟨rfl, hb3⟩))
              go_ret
              exact ⟨by rw [HX.out]; rfl, HB1.out.trans (hb2.trans hb3)⟩
            | false =>
              have b2 : decide ((255 : Int) < (d.size : Int)) = false := decide_eq_false (by have : ¬ 255 < d.size := fun e => h2 ⟨rfl, e⟩; omega)
              clear hR2 h1 h2 h3
              go_enter Tryz.func49, Tryz.ntmps49
              go_wp2_with (first | (refine wpList_load_mid rfl 39 (.tmp 1) rfl w.heap.size 0 rfl [.bool false, .string l, .string d, .bool false] _ (range_pt HP0.out) Tryz.underlying39 rfl pt_size ?_) | (go_at_call 96; refine (HM.out _ (HW.out.next H0.out.1)).mono ?_; rintro e w1 ⟨rfl, hb1⟩; have HB1 := hid (H0.out.1.trans hb1); have hp1 := hb1.heap HP0.out; have q0 : w1.cell? ⟨w.heap.size, 0, none⟩ = some (.bool false) := (by simp [World.cell?, hp1]); have q1 : w1.cell? ⟨w.heap.size, 1, none⟩ = some (.string l) := (by simp [World.cell?, hp1])) | (go_at_call 97; refine (HF.out _ (HW.out.next HB1.out)).mono ?_; rintro e w2 ⟨rfl, hb2⟩; have hp2 := hb2.heap hp1; have r2 : w2.cell? ⟨w.heap.size, 2, none⟩ = some (.string d) := (by simp [World.cell?, hp2]); have r3 : w2.cell? ⟨w.heap.size, 3, none⟩ = some (.bool false) := (by simp [World.cell?, hp2])) | (refine wpList_load_mid rfl 39 (.tmp 1) rfl w.heap.size 0 rfl [.bool false, .string l, .string d, .bool false] _ (range_pt hp2) Tryz.underlying39 rfl pt_size ?_) | (go_at_call 98; refine (HS.out _ (HW.out.next (HB1.out.trans hb2))).mono ?_; rintro e w3 ⟨rfl, hb3⟩))
              go_ret
              exact ⟨by rw [HX.out]; rfl, HB1.out.trans (hb2.trans hb3)⟩
          · have b4 : decide ((256 : Int) < (sh.size : Int) + 2) = false := decide_eq_false (by omega)
            have HX := hid (show r = 0 by rw [hR2, if_neg (by rintro (e | e | e); exact h1 e; exact h2 e; exact h3 e)])
            cases t with
            | true =>
              clear hR2 h1 h2 h3
              go_enter Tryz.func49, Tryz.ntmps49
              go_wp2_with (first | (refine wpList_load_mid rfl 39 (.tmp 1) rfl w.heap.size 0 rfl [.bool false, .string l, .string d, .bool true] _ (range_pt HP0.out) Tryz.underlying39 rfl pt_size ?_) | (go_at_call 96; refine (HM.out _ (HW.out.next H0.out.1)).mono ?_; rintro e w1 ⟨rfl, hb1⟩; have HB1 := hid (H0.out.1.trans hb1); have hp1 := hb1.heap HP0.out; have q0 : w1.cell? ⟨w.heap.size, 0, none⟩ = some (.bool false) := (by simp [World.cell?, hp1]); have q1 : w1.cell? ⟨w.heap.size, 1, none⟩ = some (.string l) := (by simp [World.cell?, hp1])) | (go_at_call 97; refine (HF.out _ (HW.out.next HB1.out)).mono ?_; rintro e w2 ⟨rfl, hb2⟩; have hp2 := hb2.heap hp1; have r2 : w2.cell? ⟨w.heap.size, 2, none⟩ = some (.string d) := (by simp [World.cell?, hp2]); have r3 : w2.cell? ⟨w.heap.size, 3, none⟩ = some (.bool true) := (by simp [World.cell?, hp2])) | (refine wpList_load_mid rfl 39 (.tmp 1) rfl w.heap.size 0 rfl [.bool false, .string l, .string d, .bool true] _ (range_pt hp2) Tryz.underlying39 rfl pt_size ?_) | (go_at_call 98; refine (HS.out _ (HW.out.next (HB1.out.trans hb2))).mono ?_; rintro e w3 ⟨rfl, hb3⟩))
              go_ret
              exact ⟨by rw [HX.out]; rfl, HB1.out.trans (hb2.trans hb3)⟩
            | false =>
              have b2 : decide ((255 : Int) < (d.size : Int)) = false := decide_eq_false (by have : ¬ 255 < d.size := fun e => h2 ⟨rfl, e⟩; omega)
              clear hR2 h1 h2 h3
              go_enter Tryz.func49, Tryz.ntmps49
              go_wp2_with (first | (refine wpList_load_mid rfl 39 (.tmp 1) rfl w.heap.size 0 rfl [.bool false, .string l, .string d, .bool false] _ (range_pt HP0.out) Tryz.underlying39 rfl pt_size ?_) | (go_at_call 96; refine (HM.out _ (HW.out.next H0.out.1)).mono ?_; rintro e w1 ⟨rfl, hb1⟩; have HB1 := hid (H0.out.1.trans hb1); have hp1 := hb1.heap HP0.out; have q0 : w1.cell? ⟨w.heap.size, 0, none⟩ = some (.bool false) := (by simp [World.cell?, hp1]); have q1 : w1.cell? ⟨w.heap.size, 1, none⟩ = some (.string l) := (by simp [World.cell?, hp1])) | (go_at_call 97; refine (HF.out _ (HW.out.next HB1.out)).mono ?_; rintro e w2 ⟨rfl, hb2⟩; have hp2 := hb2.heap hp1; have r2 : w2.cell? ⟨w.heap.size, 2, none⟩ = some (.string d) := (by simp [World.cell?, hp2]); have r3 : w2.cell? ⟨w.heap.size, 3, none⟩ = some (.bool false) := (by simp [World.cell?, hp2])) | (refine wpList_load_mid rfl 39 (.tmp 1) rfl w.heap.size 0 rfl [.bool false, .string l, .string d, .bool false] _ (range_pt hp2) Tryz.underlying39 rfl pt_size ?_) | (go_at_call 98; refine (HS.out _ (HW.out.next (HB1.out.trans hb2))).mono ?_; rintro e w3 ⟨rfl, hb3⟩))
              go_ret
              exact ⟨by rw [HX.out]; rfl, HB1.out.trans (hb2.trans hb3)⟩
/-! Show -/
set_option maxHeartbeats 4000000 in
set_option maxRecDepth 100000 in
theorem pshow_run (n : Bool) (l d : ByteArray) (t : Bool) (w : World) (hw : Lay w) (hl : l.size ≤ 4194304) (hd : d.size ≤ 4194304) :
    Calls Tryz.prog 99 #[.agg #[.bool n, .string l, .string d, .bool t]] w fun e w' => e = .returned (.tuple #[.string ⟨(if rightP (pOf n l d t) = 0 then shownP (pOf n l d t) else []).toArray⟩, .int .i64 (rightP (pOf n l d t))]) ∧ Bel w w' := by
  have H0 := hid (And.intro ((Bel.refl w).alloc (.cells #[.bool n, .string l, .string d, .bool t] 39)) (heap_alloc_new w (.cells #[.bool n, .string l, .string d, .bool t] 39)))
  have HW := hid hw
  have HP0 := hid H0.out.2
  have HR := (show Hid (∀ W, Lay W → Calls Tryz.prog 49 #[.agg #[.bool n, .string l, .string d, .bool t]] W fun e w' => e = .returned (.int .i64 (rightP (pOf n l d t))) ∧ Bel W w') from fun W hW => right_run n l d t W hW hl hd)
  have HS := (show Hid (∀ W, Lay W → Calls Tryz.prog 98 #[.agg #[.bool n, .string l, .string d, .bool t]] W fun e w' => e = .returned (.string ⟨(shownP (pOf n l d t)).toArray⟩) ∧ Bel W w') from fun W hW => pshown_run n l d t W hW hl hd)
  obtain ⟨ss, hss⟩ : ∃ ss, ss = (if rightP (pOf n l d t) = 0 then shownP (pOf n l d t) else []) := ⟨_, rfl⟩
  rw [← hss]
  generalize shownP (pOf n l d t) = sh at HS hss
  generalize rightP (pOf n l d t) = r at HR hss ⊢
  clear hw
  by_cases h0 : r = 0
  · subst h0
    rw [if_pos rfl] at hss
    subst hss
    go_enter Tryz.func99, Tryz.ntmps99
    go_wp2_with (first | (refine wpList_load_mid rfl 39 (.tmp 1) rfl w.heap.size 0 rfl [.bool n, .string l, .string d, .bool t] _ (range_pt HP0.out) Tryz.underlying39 rfl pt_size ?_) | (go_at_call 49; refine (HR.out _ (HW.out.next H0.out.1)).mono ?_; rintro e w1 ⟨rfl, hb1⟩; have hp1 := hb1.heap HP0.out) | (refine wpList_load_mid rfl 39 (.tmp 1) rfl w.heap.size 0 rfl [.bool n, .string l, .string d, .bool t] _ (range_pt hp1) Tryz.underlying39 rfl pt_size ?_) | (go_at_call 98; refine (HS.out _ (HW.out.next (H0.out.1.trans hb1))).mono ?_; rintro e w2 ⟨rfl, hb2⟩))
    go_ret2
    exact ⟨rfl, H0.out.1.trans (hb1.trans hb2)⟩
  · have b1 : (r == 0) = false := by simpa using h0
    rw [if_neg h0] at hss
    subst hss
    clear h0
    go_enter Tryz.func99, Tryz.ntmps99
    go_wp2_with (first | (refine wpList_load_mid rfl 39 (.tmp 1) rfl w.heap.size 0 rfl [.bool n, .string l, .string d, .bool t] _ (range_pt HP0.out) Tryz.underlying39 rfl pt_size ?_) | (go_at_call 49; refine (HR.out _ (HW.out.next H0.out.1)).mono ?_; rintro e w1 ⟨rfl, hb1⟩))
    go_ret2
    exact ⟨rfl, H0.out.1.trans hb1⟩
end Go.Proofs.YtpmmaickjolimaaGreatDoor.Ma
