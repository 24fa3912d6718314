/- The reference's Words. -/
import Derived.Test.YtpmmaickjolimaaGreatDoorEj
namespace Go.Proofs.YtpmmaickjolimaaGreatDoor.Ci
open Go.RowKit

def fromV (st : Option Nat) : Value := .int .i64 (match st with | none => -1 | some a => (a : Int))
def WIn (w wr : World) (s : ByteArray) (st : Option Nat) (acc : List (Nat × Nat)) (v : Value) (k : Nat) : Prop := Bel w wr ∧ Txts w wr v (acc.map fun x => s.extract x.1 x.2) ∧ wSt s.data.toList k = (st, acc)
def WordsPost (s : ByteArray) (w : World) (e : Ending) (w' : World) : Prop := ∃ v, e = .returned v ∧ Txts w w' v (wordsQ s) ∧ Bel w w'
def WState (w wr : World) (s : ByteArray) (st : Option Nat) (acc : List (Nat × Nat)) (v : Value) (k : Nat) : Prop := Hid (WIn w wr s st acc v k) ∧ k ≤ s.size ∨ k = s.size + 1 ∧ Hid (WordsPost s w (.returned v) wr)
set_option maxHeartbeats 8000000 in
set_option maxRecDepth 100000 in
theorem rwords_run (s : ByteArray) (w : World) (hs : s.size < 4294967281) :
    Calls Tryz.prog 44 #[.string s] w (WordsPost s w) := by
  have H0 := hid (show Bel w w ∧ Txts w w (.slice none 0 0) (([] : List (Nat × Nat)).map fun x => s.extract x.1 x.2) ∧ wSt s.data.toList 0 = (none, ([] : List (Nat × Nat))) from ⟨Bel.refl w, World.ownsRow_nil _ _ _ _, rfl⟩)
  go_enter Tryz.func44, Tryz.ntmps44
  go_wp2_with fail
  go_loopg [3, 4, 5] (s.size + 1) (fun gg v3 v4 v5 wr => ∃ (acc : List (Nat × Nat)) (st : Option Nat) (k : Nat) (x3 : Option Addr) (p3 : Nat), v3 = .slice x3 acc.length p3 ∧ v4 = fromV st ∧ v5 = .int .i64 k ∧ k + gg = s.size + 1 ∧ acc.length ≤ k ∧ WState w wr s st acc (.slice x3 acc.length p3) k)
  case atStart => exact ⟨[], none, 0, none, 0, rfl, rfl, rfl, by omega, Nat.le_refl _, .inl ⟨H0, Nat.zero_le _⟩⟩
  case round =>
    clear H0
    obtain ⟨acc, st, k, x3, p3, rfl, rfl, rfl, hk, hnum, hst⟩ := hrel
    have Hk := hid hk
    rcases hst with ⟨H, hks⟩ | ⟨rfl, HE⟩
    · have H := (show Hid (Bel w wr ∧ Txts w wr (.slice x3 acc.length p3) (acc.map fun x => s.extract x.1 x.2) ∧ wSt s.data.toList k = (st, acc)) from H)
      have Ha := hid (show ∀ a, st = some a → a < k from fun a h => (wSt_le s.data.toList k).2 a (by rw [H.out.2.2]; exact h))
      have d1 : decide ((k : Int) ≤ (s.size : Int)) = true := decide_eq_true (by omega)
      clear hk
      unfold fromV
      by_cases hkn : k < s.size
      · have dk : ((k : Int) == (s.size : Int)) = false := by rw [beq_eq_false_iff_ne]; omega
        have hgd : s.data.toList.getD k 0 = s[k]'hkn := by
          unfold List.getD
          rw [at_get s k hkn]
          rfl
        by_cases q0 : (s[k]'hkn).toNat = 32
        · have hc := q0
          have e0 : (((s[k]'hkn).toNat : Int) == 32) = true := by rw [hc]; rfl
          have HB := hid (show sepB (s.data.toList.getD k 0) = true by rw [hgd]; unfold sepB; rw [hc]; rfl)
          clear hc hgd q0
          cases st with
          | none =>
            have HN := hid (show Bel w wr ∧ Txts w wr (.slice x3 acc.length p3) (acc.map fun x => s.extract x.1 x.2) ∧ wSt s.data.toList (k + 1) = (none, acc) from ⟨H.out.1, H.out.2.1, by show stepW (sepB (s.data.toList.getD k 0)) k (wSt s.data.toList k) = _; rw [HB.out, H.out.2.2]; rfl⟩)
            clear H
            go_wp2_with fail
            go_roundg (gk - 1)
            case measure => have := Hk.out; omega
            case rel => exact ⟨acc, none, k + 1, x3, p3, rfl, rfl, by go_num, by have := Hk.out; omega, by omega, .inl ⟨HN, by omega⟩⟩
          | some a =>
            have hak : a < k := Ha.out a rfl
            have da : decide (0 ≤ (a : Int)) = true := decide_eq_true (by omega)
            have db : decide ((a : Int) < 0) = false := decide_eq_false (by omega)
            go_wp2_with (at_builtin; refine wpList_push (a0 := w) (W := wr) rfl (.tmp 52) (.tmp 57) 46 rfl 9 (.string ⟨#[]⟩) 1 16 Tryz.underlying46 string_infos rfl (by decide) (.slice x3 acc.length p3) acc.length ((acc.map fun x => s.extract x.1 x.2).map Value.string) rfl (by have := H.out.2.1; unfold Txts at this; rw [List.length_map] at this; exact this) H.out.1 #[.string (s.extract a k)] rfl rfl (by intro u hu; simp at hu; subst hu; rfl) (by unfold maxLen; omega) (by omega) ?_; intro x' p' w' hown hb)
            have HN := hid (show Bel w w' ∧ Txts w w' (.slice x' (acc.length + 1) p') ((acc ++ [(a, k)]).map fun x => s.extract x.1 x.2) ∧ wSt s.data.toList (k + 1) = (none, (acc ++ [(a, k)])) from ⟨hb, by
              unfold Txts
              rw [List.length_map, List.length_append, List.map_append, List.map_append]
              exact hown, by show stepW (sepB (s.data.toList.getD k 0)) k (wSt s.data.toList k) = _; rw [HB.out, H.out.2.2]; rfl⟩)
            clear H hown hb
            go_wp2_with fail
            go_roundg (gk - 1)
            case measure => have := Hk.out; omega
            case rel => exact ⟨acc ++ [(a, k)], none, k + 1, x', p', by rw [List.length_append]; rfl, rfl, by go_num, by have := Hk.out; omega, by rw [List.length_append]; show acc.length + 1 ≤ _; omega, .inl ⟨by rw [List.length_append]; exact HN, by omega⟩⟩
        · by_cases q1 : (s[k]'hkn).toNat = 9
          · have hc := q1
            have e0 : (((s[k]'hkn).toNat : Int) == 32) = false := by rw [beq_eq_false_iff_ne]; omega
            have e1 : (((s[k]'hkn).toNat : Int) == 9) = true := by rw [hc]; rfl
            have HB := hid (show sepB (s.data.toList.getD k 0) = true by rw [hgd]; unfold sepB; rw [hc]; rfl)
            clear hc hgd q0 q1
            cases st with
            | none =>
              have HN := hid (show Bel w wr ∧ Txts w wr (.slice x3 acc.length p3) (acc.map fun x => s.extract x.1 x.2) ∧ wSt s.data.toList (k + 1) = (none, acc) from ⟨H.out.1, H.out.2.1, by show stepW (sepB (s.data.toList.getD k 0)) k (wSt s.data.toList k) = _; rw [HB.out, H.out.2.2]; rfl⟩)
              clear H
              go_wp2_with fail
              go_roundg (gk - 1)
              case measure => have := Hk.out; omega
              case rel => exact ⟨acc, none, k + 1, x3, p3, rfl, rfl, by go_num, by have := Hk.out; omega, by omega, .inl ⟨HN, by omega⟩⟩
            | some a =>
              have hak : a < k := Ha.out a rfl
              have da : decide (0 ≤ (a : Int)) = true := decide_eq_true (by omega)
              have db : decide ((a : Int) < 0) = false := decide_eq_false (by omega)
              go_wp2_with (at_builtin; refine wpList_push (a0 := w) (W := wr) rfl (.tmp 52) (.tmp 57) 46 rfl 9 (.string ⟨#[]⟩) 1 16 Tryz.underlying46 string_infos rfl (by decide) (.slice x3 acc.length p3) acc.length ((acc.map fun x => s.extract x.1 x.2).map Value.string) rfl (by have := H.out.2.1; unfold Txts at this; rw [List.length_map] at this; exact this) H.out.1 #[.string (s.extract a k)] rfl rfl (by intro u hu; simp at hu; subst hu; rfl) (by unfold maxLen; omega) (by omega) ?_; intro x' p' w' hown hb)
              have HN := hid (show Bel w w' ∧ Txts w w' (.slice x' (acc.length + 1) p') ((acc ++ [(a, k)]).map fun x => s.extract x.1 x.2) ∧ wSt s.data.toList (k + 1) = (none, (acc ++ [(a, k)])) from ⟨hb, by
                unfold Txts
                rw [List.length_map, List.length_append, List.map_append, List.map_append]
                exact hown, by show stepW (sepB (s.data.toList.getD k 0)) k (wSt s.data.toList k) = _; rw [HB.out, H.out.2.2]; rfl⟩)
              clear H hown hb
              go_wp2_with fail
              go_roundg (gk - 1)
              case measure => have := Hk.out; omega
              case rel => exact ⟨acc ++ [(a, k)], none, k + 1, x', p', by rw [List.length_append]; rfl, rfl, by go_num, by have := Hk.out; omega, by rw [List.length_append]; show acc.length + 1 ≤ _; omega, .inl ⟨by rw [List.length_append]; exact HN, by omega⟩⟩
          · by_cases q2 : (s[k]'hkn).toNat = 10
            · have hc := q2
              have e0 : (((s[k]'hkn).toNat : Int) == 32) = false := by rw [beq_eq_false_iff_ne]; omega
              have e1 : (((s[k]'hkn).toNat : Int) == 9) = false := by rw [beq_eq_false_iff_ne]; omega
              have e2 : (((s[k]'hkn).toNat : Int) == 10) = true := by rw [hc]; rfl
              have HB := hid (show sepB (s.data.toList.getD k 0) = true by rw [hgd]; unfold sepB; rw [hc]; rfl)
              clear hc hgd q0 q1 q2
              cases st with
              | none =>
                have HN := hid (show Bel w wr ∧ Txts w wr (.slice x3 acc.length p3) (acc.map fun x => s.extract x.1 x.2) ∧ wSt s.data.toList (k + 1) = (none, acc) from ⟨H.out.1, H.out.2.1, by show stepW (sepB (s.data.toList.getD k 0)) k (wSt s.data.toList k) = _; rw [HB.out, H.out.2.2]; rfl⟩)
                clear H
                go_wp2_with fail
                go_roundg (gk - 1)
                case measure => have := Hk.out; omega
                case rel => exact ⟨acc, none, k + 1, x3, p3, rfl, rfl, by go_num, by have := Hk.out; omega, by omega, .inl ⟨HN, by omega⟩⟩
              | some a =>
                have hak : a < k := Ha.out a rfl
                have da : decide (0 ≤ (a : Int)) = true := decide_eq_true (by omega)
                have db : decide ((a : Int) < 0) = false := decide_eq_false (by omega)
                go_wp2_with (at_builtin; refine wpList_push (a0 := w) (W := wr) rfl (.tmp 52) (.tmp 57) 46 rfl 9 (.string ⟨#[]⟩) 1 16 Tryz.underlying46 string_infos rfl (by decide) (.slice x3 acc.length p3) acc.length ((acc.map fun x => s.extract x.1 x.2).map Value.string) rfl (by have := H.out.2.1; unfold Txts at this; rw [List.length_map] at this; exact this) H.out.1 #[.string (s.extract a k)] rfl rfl (by intro u hu; simp at hu; subst hu; rfl) (by unfold maxLen; omega) (by omega) ?_; intro x' p' w' hown hb)
                have HN := hid (show Bel w w' ∧ Txts w w' (.slice x' (acc.length + 1) p') ((acc ++ [(a, k)]).map fun x => s.extract x.1 x.2) ∧ wSt s.data.toList (k + 1) = (none, (acc ++ [(a, k)])) from ⟨hb, by
                  unfold Txts
                  rw [List.length_map, List.length_append, List.map_append, List.map_append]
                  exact hown, by show stepW (sepB (s.data.toList.getD k 0)) k (wSt s.data.toList k) = _; rw [HB.out, H.out.2.2]; rfl⟩)
                clear H hown hb
                go_wp2_with fail
                go_roundg (gk - 1)
                case measure => have := Hk.out; omega
                case rel => exact ⟨acc ++ [(a, k)], none, k + 1, x', p', by rw [List.length_append]; rfl, rfl, by go_num, by have := Hk.out; omega, by rw [List.length_append]; show acc.length + 1 ≤ _; omega, .inl ⟨by rw [List.length_append]; exact HN, by omega⟩⟩
            · by_cases q3 : (s[k]'hkn).toNat = 13
              · have hc := q3
                have e0 : (((s[k]'hkn).toNat : Int) == 32) = false := by rw [beq_eq_false_iff_ne]; omega
                have e1 : (((s[k]'hkn).toNat : Int) == 9) = false := by rw [beq_eq_false_iff_ne]; omega
                have e2 : (((s[k]'hkn).toNat : Int) == 10) = false := by rw [beq_eq_false_iff_ne]; omega
                have e3 : (((s[k]'hkn).toNat : Int) == 13) = true := by rw [hc]; rfl
                have HB := hid (show sepB (s.data.toList.getD k 0) = true by rw [hgd]; unfold sepB; rw [hc]; rfl)
                clear hc hgd q0 q1 q2 q3
                cases st with
                | none =>
                  have HN := hid (show Bel w wr ∧ Txts w wr (.slice x3 acc.length p3) (acc.map fun x => s.extract x.1 x.2) ∧ wSt s.data.toList (k + 1) = (none, acc) from ⟨H.out.1, H.out.2.1, by show stepW (sepB (s.data.toList.getD k 0)) k (wSt s.data.toList k) = _; rw [HB.out, H.out.2.2]; rfl⟩)
                  clear H
                  go_wp2_with fail
                  go_roundg (gk - 1)
                  case measure => have := Hk.out; omega
                  case rel => exact ⟨acc, none, k + 1, x3, p3, rfl, rfl, by go_num, by have := Hk.out; omega, by omega, .inl ⟨HN, by omega⟩⟩
                | some a =>
                  have hak : a < k := Ha.out a rfl
                  have da : decide (0 ≤ (a : Int)) = true := decide_eq_true (by omega)
                  have db : decide ((a : Int) < 0) = false := decide_eq_false (by omega)
                  go_wp2_with (at_builtin; refine wpList_push (a0 := w) (W := wr) rfl (.tmp 52) (.tmp 57) 46 rfl 9 (.string ⟨#[]⟩) 1 16 Tryz.underlying46 string_infos rfl (by decide) (.slice x3 acc.length p3) acc.length ((acc.map fun x => s.extract x.1 x.2).map Value.string) rfl (by have := H.out.2.1; unfold Txts at this; rw [List.length_map] at this; exact this) H.out.1 #[.string (s.extract a k)] rfl rfl (by intro u hu; simp at hu; subst hu; rfl) (by unfold maxLen; omega) (by omega) ?_; intro x' p' w' hown hb)
                  have HN := hid (show Bel w w' ∧ Txts w w' (.slice x' (acc.length + 1) p') ((acc ++ [(a, k)]).map fun x => s.extract x.1 x.2) ∧ wSt s.data.toList (k + 1) = (none, (acc ++ [(a, k)])) from ⟨hb, by
                    unfold Txts
                    rw [List.length_map, List.length_append, List.map_append, List.map_append]
                    exact hown, by show stepW (sepB (s.data.toList.getD k 0)) k (wSt s.data.toList k) = _; rw [HB.out, H.out.2.2]; rfl⟩)
                  clear H hown hb
                  go_wp2_with fail
                  go_roundg (gk - 1)
                  case measure => have := Hk.out; omega
                  case rel => exact ⟨acc ++ [(a, k)], none, k + 1, x', p', by rw [List.length_append]; rfl, rfl, by go_num, by have := Hk.out; omega, by rw [List.length_append]; show acc.length + 1 ≤ _; omega, .inl ⟨by rw [List.length_append]; exact HN, by omega⟩⟩
              · by_cases q4 : (s[k]'hkn).toNat = 44
                · have hc := q4
                  have e0 : (((s[k]'hkn).toNat : Int) == 32) = false := by rw [beq_eq_false_iff_ne]; omega
                  have e1 : (((s[k]'hkn).toNat : Int) == 9) = false := by rw [beq_eq_false_iff_ne]; omega
                  have e2 : (((s[k]'hkn).toNat : Int) == 10) = false := by rw [beq_eq_false_iff_ne]; omega
                  have e3 : (((s[k]'hkn).toNat : Int) == 13) = false := by rw [beq_eq_false_iff_ne]; omega
                  have e4 : (((s[k]'hkn).toNat : Int) == 44) = true := by rw [hc]; rfl
                  have HB := hid (show sepB (s.data.toList.getD k 0) = true by rw [hgd]; unfold sepB; rw [hc]; rfl)
                  clear hc hgd q0 q1 q2 q3 q4
                  cases st with
                  | none =>
                    have HN := hid (show Bel w wr ∧ Txts w wr (.slice x3 acc.length p3) (acc.map fun x => s.extract x.1 x.2) ∧ wSt s.data.toList (k + 1) = (none, acc) from ⟨H.out.1, H.out.2.1, by show stepW (sepB (s.data.toList.getD k 0)) k (wSt s.data.toList k) = _; rw [HB.out, H.out.2.2]; rfl⟩)
                    clear H
                    go_wp2_with fail
                    go_roundg (gk - 1)
                    case measure => have := Hk.out; omega
                    case rel => exact ⟨acc, none, k + 1, x3, p3, rfl, rfl, by go_num, by have := Hk.out; omega, by omega, .inl ⟨HN, by omega⟩⟩
                  | some a =>
                    have hak : a < k := Ha.out a rfl
                    have da : decide (0 ≤ (a : Int)) = true := decide_eq_true (by omega)
                    have db : decide ((a : Int) < 0) = false := decide_eq_false (by omega)
                    go_wp2_with (at_builtin; refine wpList_push (a0 := w) (W := wr) rfl (.tmp 52) (.tmp 57) 46 rfl 9 (.string ⟨#[]⟩) 1 16 Tryz.underlying46 string_infos rfl (by decide) (.slice x3 acc.length p3) acc.length ((acc.map fun x => s.extract x.1 x.2).map Value.string) rfl (by have := H.out.2.1; unfold Txts at this; rw [List.length_map] at this; exact this) H.out.1 #[.string (s.extract a k)] rfl rfl (by intro u hu; simp at hu; subst hu; rfl) (by unfold maxLen; omega) (by omega) ?_; intro x' p' w' hown hb)
                    have HN := hid (show Bel w w' ∧ Txts w w' (.slice x' (acc.length + 1) p') ((acc ++ [(a, k)]).map fun x => s.extract x.1 x.2) ∧ wSt s.data.toList (k + 1) = (none, (acc ++ [(a, k)])) from ⟨hb, by
                      unfold Txts
                      rw [List.length_map, List.length_append, List.map_append, List.map_append]
                      exact hown, by show stepW (sepB (s.data.toList.getD k 0)) k (wSt s.data.toList k) = _; rw [HB.out, H.out.2.2]; rfl⟩)
                    clear H hown hb
                    go_wp2_with fail
                    go_roundg (gk - 1)
                    case measure => have := Hk.out; omega
                    case rel => exact ⟨acc ++ [(a, k)], none, k + 1, x', p', by rw [List.length_append]; rfl, rfl, by go_num, by have := Hk.out; omega, by rw [List.length_append]; show acc.length + 1 ≤ _; omega, .inl ⟨by rw [List.length_append]; exact HN, by omega⟩⟩
                · have e0 : (((s[k]'hkn).toNat : Int) == 32) = false := by rw [beq_eq_false_iff_ne]; omega
                  have e1 : (((s[k]'hkn).toNat : Int) == 9) = false := by rw [beq_eq_false_iff_ne]; omega
                  have e2 : (((s[k]'hkn).toNat : Int) == 10) = false := by rw [beq_eq_false_iff_ne]; omega
                  have e3 : (((s[k]'hkn).toNat : Int) == 13) = false := by rw [beq_eq_false_iff_ne]; omega
                  have e4 : (((s[k]'hkn).toNat : Int) == 44) = false := by rw [beq_eq_false_iff_ne]; omega
                  have HB := hid (show sepB (s.data.toList.getD k 0) = false by rw [hgd]; unfold sepB; simp only [Bool.or_eq_false_iff, beq_eq_false_iff_ne]; omega)
                  clear hgd q0 q1 q2 q3 q4
                  cases st with
                  | none =>
                    have HN := hid (show Bel w wr ∧ Txts w wr (.slice x3 acc.length p3) (acc.map fun x => s.extract x.1 x.2) ∧ wSt s.data.toList (k + 1) = ((some k), acc) from ⟨H.out.1, H.out.2.1, by show stepW (sepB (s.data.toList.getD k 0)) k (wSt s.data.toList k) = _; rw [HB.out, H.out.2.2]; rfl⟩)
                    clear H
                    go_wp2_with fail
                    go_roundg (gk - 1)
                    case measure => have := Hk.out; omega
                    case rel => exact ⟨acc, some k, k + 1, x3, p3, rfl, rfl, by go_num, by have := Hk.out; omega, by omega, .inl ⟨HN, by omega⟩⟩
                  | some a =>
                    have hak : a < k := Ha.out a rfl
                    have da : decide (0 ≤ (a : Int)) = true := decide_eq_true (by omega)
                    have db : decide ((a : Int) < 0) = false := decide_eq_false (by omega)
                    have HN := hid (show Bel w wr ∧ Txts w wr (.slice x3 acc.length p3) (acc.map fun x => s.extract x.1 x.2) ∧ wSt s.data.toList (k + 1) = ((some a), acc) from ⟨H.out.1, H.out.2.1, by show stepW (sepB (s.data.toList.getD k 0)) k (wSt s.data.toList k) = _; rw [HB.out, H.out.2.2]; rfl⟩)
                    clear H
                    go_wp2_with fail
                    go_roundg (gk - 1)
                    case measure => have := Hk.out; omega
                    case rel => exact ⟨acc, some a, k + 1, x3, p3, rfl, rfl, by go_num, by have := Hk.out; omega, by omega, .inl ⟨HN, by omega⟩⟩
      · obtain rfl : k = s.size := by omega
        have dk : ((s.size : Int) == (s.size : Int)) = true := beq_self_eq_true _
        cases st with
        | none =>
          have HN := hid (show WordsPost s w (.returned (.slice x3 acc.length p3)) wr from ⟨_, rfl, (by rw [wordsQ_none s (by rw [H.out.2.2]), H.out.2.2]; exact H.out.2.1), H.out.1⟩)
          clear H
          go_wp2_with fail
          go_roundg (gk - 1)
          case measure => have := Hk.out; omega
          case rel => exact ⟨acc, none, s.size + 1, x3, p3, rfl, rfl, by go_num, by have := Hk.out; omega, by omega, .inr ⟨rfl, HN⟩⟩
        | some a =>
          have hak : a < s.size := Ha.out a rfl
          have da : decide (0 ≤ (a : Int)) = true := decide_eq_true (by omega)
          have db : decide ((a : Int) < 0) = false := decide_eq_false (by omega)
          go_wp2_with (at_builtin; refine wpList_push (a0 := w) (W := wr) rfl (.tmp 52) (.tmp 57) 46 rfl 9 (.string ⟨#[]⟩) 1 16 Tryz.underlying46 string_infos rfl (by decide) (.slice x3 acc.length p3) acc.length ((acc.map fun x => s.extract x.1 x.2).map Value.string) rfl (by have := H.out.2.1; unfold Txts at this; rw [List.length_map] at this; exact this) H.out.1 #[.string (s.extract a s.size)] rfl rfl (by intro u hu; simp at hu; subst hu; rfl) (by unfold maxLen; omega) (by omega) ?_; intro x' p' w' hown hb)
          have HN := hid (show WordsPost s w (.returned (.slice x' (acc.length + 1) p')) w' from ⟨_, rfl, (by
            rw [wordsQ_some s a (by rw [H.out.2.2]), H.out.2.2]
            unfold Txts
            rw [List.length_append, List.length_map, List.map_append]
            exact hown), hb⟩)
          clear H hown hb
          go_wp2_with fail
          go_roundg (gk - 1)
          case measure => have := Hk.out; omega
          case rel => exact ⟨acc ++ [(a, s.size)], none, s.size + 1, x', p', by rw [List.length_append]; rfl, rfl, by go_num, by have := Hk.out; omega, by rw [List.length_append]; show acc.length + 1 ≤ _; omega, .inr ⟨rfl, by rw [List.length_append]; exact HN⟩⟩
    · have d1 : decide (((s.size + 1 : Nat) : Int) ≤ (s.size : Int)) = false := decide_eq_false (by omega)
      go_wp2_with fail
      go_ret
      exact HE.out
end Go.Proofs.YtpmmaickjolimaaGreatDoor.Ci
