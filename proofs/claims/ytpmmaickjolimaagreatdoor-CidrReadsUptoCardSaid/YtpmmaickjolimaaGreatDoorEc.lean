/- The reference's groups of IPv6. -/
import Derived.Test.YtpmmaickjolimaaGreatDoorEa
import Derived.Test.YtpmmaickjolimaaGreatDoorEb
import Derived.Test.YtpmmaickjolimaaGreatDoorCu
namespace Go.Proofs.YtpmmaickjolimaaGreatDoor.Ci
open Go.RowKit

set_option maxHeartbeats 4000000 in
set_option maxRecDepth 100000 in
theorem group_run (s : ByteArray) (w : World) :
    Calls Tryz.prog 122 #[.string s] w fun e w' => e = .returned (numV2 (grpL s.data.toList)) ∧ Bel w w' := by
  have hl : s.data.toList.length = s.size := by rw [Lib.size_eq]
  have none_ : ∀ h : ¬ (1 ≤ s.data.toList.length ∧ s.data.toList.length ≤ 4 ∧ s.data.toList.all hexB = true), grpL s.data.toList = none := fun h => by unfold grpL; rw [if_neg h]
  by_cases h0 : s.size < 1
  · have d0 : decide (s.size < 1) = true := decide_eq_true h0
    have hq := none_ (by intro f; omega)
    rw [hq]
    clear none_ hl hq
    go_enter Tryz.func122, Tryz.ntmps122
    go_wp2_with fail
    go_ret2
    exact ⟨rfl, Bel.refl w⟩
  · have d0 : decide (s.size < 1) = false := decide_eq_false h0
    by_cases h3 : 4 < s.size
    · have d3 : decide (4 < s.size) = true := decide_eq_true h3
      have hq := none_ (by intro f; omega)
      rw [hq]
      clear none_ hl hq
      go_enter Tryz.func122, Tryz.ntmps122
      go_wp2_with fail
      go_ret2
      exact ⟨rfl, Bel.refl w⟩
    · have d3 : decide (4 < s.size) = false := decide_eq_false h3
      have h1 : 0 < s.size := by omega
      have HQ := hid (fun (f : ¬ s.data.toList.all hexB = true) => none_ (fun g => f g.2.2))
      have HS := hid (fun (f : s.data.toList.all hexB = true) => show grpL s.data.toList = some (hexF s.data.toList) by
        unfold grpL
        rw [if_pos ⟨by omega, by omega, f⟩]
        rfl)
      clear none_
      have HL := hid hl
      have H3 := hid (show s.size ≤ 4 by omega)
      go_enter Tryz.func122, Tryz.ntmps122
      go_wp2_with fail
      clear d0 d3
      go_loop [4, 5] (fun v4 v5 => ∃ (a k : Nat), v4 = .int .i64 a ∧ v5 = .int .i64 k ∧ k ≤ s.size ∧ Hid (a = hexF (s.data.toList.take k) ∧ (s.data.toList.take k).all hexB = true))
        (fun _ v5 => s.size - (intOf v5).toNat)
      case atStart => exact ⟨0, 0, rfl, rfl, by omega, hid ⟨rfl, rfl⟩⟩
      case round =>
        obtain ⟨a, k, rfl, rfl, hk, HA⟩ := hrel
        have hlt := hexF_lt _ _ rfl (List.all_eq_true.1 HA.out.2)
        rw [List.length_take, HL.out, Nat.min_eq_left hk, ← HA.out.1] at hlt
        have h1000 : 16 ^ k ≤ 16 ^ 4 := Nat.pow_le_pow_right (by decide) (by have := H3.out; omega)
        have ha : a < 65536 := by omega
        clear hlt h1000
        by_cases hkn : k < s.size
        · have HT := hid (take_get s k hkn)
          have hm : s[k] ∈ s.data.toList := by
            have := at_get s k hkn
            exact List.mem_of_getElem? this
          have hc256 : (s[k]'hkn).toNat < 256 := (s[k]'hkn).toNat_lt
          by_cases q0 : (s[k]'hkn).toNat < 48
          · have b0 : decide (48 ≤ ((s[k]'hkn).toNat : Int)) = false := decide_eq_false (by omega)
            have b1 : decide (((s[k]'hkn).toNat : Int) ≤ 57) = true := decide_eq_true (by omega)
            have b2 : decide (97 ≤ ((s[k]'hkn).toNat : Int)) = false := decide_eq_false (by omega)
            have b3 : decide (((s[k]'hkn).toNat : Int) ≤ 102) = true := decide_eq_true (by omega)
            have b4 : decide (65 ≤ ((s[k]'hkn).toNat : Int)) = false := decide_eq_false (by omega)
            have b5 : decide (((s[k]'hkn).toNat : Int) ≤ 70) = true := decide_eq_true (by omega)
            have HN := hid (HQ.out (fun f => by
              have := List.all_eq_true.1 f _ hm
              unfold hexB digB at this
              simp only [Bool.and_eq_true, Bool.or_eq_true, decide_eq_true_eq] at this
              omega))
            clear hm
            go_wp2_with fail
            go_ret2
            exact ⟨by rw [HN.out]; rfl, Bel.refl w⟩
          · by_cases q1 : (s[k]'hkn).toNat < 58
            · have b0 : decide (48 ≤ ((s[k]'hkn).toNat : Int)) = true := decide_eq_true (by omega)
              have b1 : decide (((s[k]'hkn).toNat : Int) ≤ 57) = true := decide_eq_true (by omega)
              have b2 : decide (97 ≤ ((s[k]'hkn).toNat : Int)) = false := decide_eq_false (by omega)
              have b3 : decide (((s[k]'hkn).toNat : Int) ≤ 102) = true := decide_eq_true (by omega)
              have b4 : decide (65 ≤ ((s[k]'hkn).toNat : Int)) = false := decide_eq_false (by omega)
              have b5 : decide (((s[k]'hkn).toNat : Int) ≤ 70) = true := decide_eq_true (by omega)
              have HN := hid (show a * 16 + ((s[k]'hkn).toNat - 48) = hexF (s.data.toList.take (k + 1)) ∧ (s.data.toList.take (k + 1)).all hexB = true by
                rw [HT.out, hexF_snoc, ← HA.out.1, List.all_append, HA.out.2]
                refine ⟨?_, ?_⟩
                · congr 1
                  unfold hexV
                  (repeat' split) <;> omega
                · simp only [List.all_cons, List.all_nil, hexB, digB, Bool.true_and, Bool.and_true, Bool.and_eq_true, Bool.or_eq_true, decide_eq_true_eq]
                  omega)
              clear hm
              go_wp2_with fail
              go_round
              case rel => exact ⟨a * 16 + ((s[k]'hkn).toNat - 48), k + 1, by go_num, by go_num, by omega, HN⟩
              case measure => simp [intOf] <;> omega
            · by_cases q2 : (s[k]'hkn).toNat < 65
              · have b0 : decide (48 ≤ ((s[k]'hkn).toNat : Int)) = true := decide_eq_true (by omega)
                have b1 : decide (((s[k]'hkn).toNat : Int) ≤ 57) = false := decide_eq_false (by omega)
                have b2 : decide (97 ≤ ((s[k]'hkn).toNat : Int)) = false := decide_eq_false (by omega)
                have b3 : decide (((s[k]'hkn).toNat : Int) ≤ 102) = true := decide_eq_true (by omega)
                have b4 : decide (65 ≤ ((s[k]'hkn).toNat : Int)) = false := decide_eq_false (by omega)
                have b5 : decide (((s[k]'hkn).toNat : Int) ≤ 70) = true := decide_eq_true (by omega)
                have HN := hid (HQ.out (fun f => by
                  have := List.all_eq_true.1 f _ hm
                  unfold hexB digB at this
                  simp only [Bool.and_eq_true, Bool.or_eq_true, decide_eq_true_eq] at this
                  omega))
                clear hm
                go_wp2_with fail
                go_ret2
                exact ⟨by rw [HN.out]; rfl, Bel.refl w⟩
              · by_cases q3 : (s[k]'hkn).toNat < 71
                · have b0 : decide (48 ≤ ((s[k]'hkn).toNat : Int)) = true := decide_eq_true (by omega)
                  have b1 : decide (((s[k]'hkn).toNat : Int) ≤ 57) = false := decide_eq_false (by omega)
                  have b2 : decide (97 ≤ ((s[k]'hkn).toNat : Int)) = false := decide_eq_false (by omega)
                  have b3 : decide (((s[k]'hkn).toNat : Int) ≤ 102) = true := decide_eq_true (by omega)
                  have b4 : decide (65 ≤ ((s[k]'hkn).toNat : Int)) = true := decide_eq_true (by omega)
                  have b5 : decide (((s[k]'hkn).toNat : Int) ≤ 70) = true := decide_eq_true (by omega)
                  have HN := hid (show a * 16 + ((s[k]'hkn).toNat - 65 + 10) = hexF (s.data.toList.take (k + 1)) ∧ (s.data.toList.take (k + 1)).all hexB = true by
                    rw [HT.out, hexF_snoc, ← HA.out.1, List.all_append, HA.out.2]
                    refine ⟨?_, ?_⟩
                    · congr 1
                      unfold hexV
                      (repeat' split) <;> omega
                    · simp only [List.all_cons, List.all_nil, hexB, digB, Bool.true_and, Bool.and_true, Bool.and_eq_true, Bool.or_eq_true, decide_eq_true_eq]
                      omega)
                  clear hm
                  go_wp2_with fail
                  go_round
                  case rel => exact ⟨a * 16 + ((s[k]'hkn).toNat - 65 + 10), k + 1, by go_num, by go_num, by omega, HN⟩
                  case measure => simp [intOf] <;> omega
                · by_cases q4 : (s[k]'hkn).toNat < 97
                  · have b0 : decide (48 ≤ ((s[k]'hkn).toNat : Int)) = true := decide_eq_true (by omega)
                    have b1 : decide (((s[k]'hkn).toNat : Int) ≤ 57) = false := decide_eq_false (by omega)
                    have b2 : decide (97 ≤ ((s[k]'hkn).toNat : Int)) = false := decide_eq_false (by omega)
                    have b3 : decide (((s[k]'hkn).toNat : Int) ≤ 102) = true := decide_eq_true (by omega)
                    have b4 : decide (65 ≤ ((s[k]'hkn).toNat : Int)) = true := decide_eq_true (by omega)
                    have b5 : decide (((s[k]'hkn).toNat : Int) ≤ 70) = false := decide_eq_false (by omega)
                    have HN := hid (HQ.out (fun f => by
                      have := List.all_eq_true.1 f _ hm
                      unfold hexB digB at this
                      simp only [Bool.and_eq_true, Bool.or_eq_true, decide_eq_true_eq] at this
                      omega))
                    clear hm
                    go_wp2_with fail
                    go_ret2
                    exact ⟨by rw [HN.out]; rfl, Bel.refl w⟩
                  · by_cases q5 : (s[k]'hkn).toNat < 103
                    · have b0 : decide (48 ≤ ((s[k]'hkn).toNat : Int)) = true := decide_eq_true (by omega)
                      have b1 : decide (((s[k]'hkn).toNat : Int) ≤ 57) = false := decide_eq_false (by omega)
                      have b2 : decide (97 ≤ ((s[k]'hkn).toNat : Int)) = true := decide_eq_true (by omega)
                      have b3 : decide (((s[k]'hkn).toNat : Int) ≤ 102) = true := decide_eq_true (by omega)
                      have b4 : decide (65 ≤ ((s[k]'hkn).toNat : Int)) = true := decide_eq_true (by omega)
                      have b5 : decide (((s[k]'hkn).toNat : Int) ≤ 70) = false := decide_eq_false (by omega)
                      have HN := hid (show a * 16 + ((s[k]'hkn).toNat - 97 + 10) = hexF (s.data.toList.take (k + 1)) ∧ (s.data.toList.take (k + 1)).all hexB = true by
                        rw [HT.out, hexF_snoc, ← HA.out.1, List.all_append, HA.out.2]
                        refine ⟨?_, ?_⟩
                        · congr 1
                          unfold hexV
                          (repeat' split) <;> omega
                        · simp only [List.all_cons, List.all_nil, hexB, digB, Bool.true_and, Bool.and_true, Bool.and_eq_true, Bool.or_eq_true, decide_eq_true_eq]
                          omega)
                      clear hm
                      go_wp2_with fail
                      go_round
                      case rel => exact ⟨a * 16 + ((s[k]'hkn).toNat - 97 + 10), k + 1, by go_num, by go_num, by omega, HN⟩
                      case measure => simp [intOf] <;> omega
                    · have b0 : decide (48 ≤ ((s[k]'hkn).toNat : Int)) = true := decide_eq_true (by omega)
                      have b1 : decide (((s[k]'hkn).toNat : Int) ≤ 57) = false := decide_eq_false (by omega)
                      have b2 : decide (97 ≤ ((s[k]'hkn).toNat : Int)) = true := decide_eq_true (by omega)
                      have b3 : decide (((s[k]'hkn).toNat : Int) ≤ 102) = false := decide_eq_false (by omega)
                      have b4 : decide (65 ≤ ((s[k]'hkn).toNat : Int)) = true := decide_eq_true (by omega)
                      have b5 : decide (((s[k]'hkn).toNat : Int) ≤ 70) = false := decide_eq_false (by omega)
                      have HN := hid (HQ.out (fun f => by
                        have := List.all_eq_true.1 f _ hm
                        unfold hexB digB at this
                        simp only [Bool.and_eq_true, Bool.or_eq_true, decide_eq_true_eq] at this
                        omega))
                      clear hm
                      go_wp2_with fail
                      go_ret2
                      exact ⟨by rw [HN.out]; rfl, Bel.refl w⟩
        · obtain rfl : k = s.size := by omega
          rw [List.take_of_length_le (by rw [HL.out]; exact Nat.le_refl _)] at HA
          have HN := hid (show grpL s.data.toList = some a by
            rw [HS.out HA.out.2, HA.out.1])
          clear HA
          go_wp2_with fail
          go_ret2
          exact ⟨by rw [HN.out]; rfl, Bel.refl w⟩
end Go.Proofs.YtpmmaickjolimaaGreatDoor.Ci
