/- The reference's numbers: decimal. -/
import Derived.Test.YtpmmaickjolimaaGreatDoorCd
namespace Go.Proofs.YtpmmaickjolimaaGreatDoor.Ci
open Go.RowKit

def decF (l : List UInt8) : Nat := l.foldl (fun a b => a * 10 + (b.toNat - 48)) 0
theorem decF_snoc (l : List UInt8) (b : UInt8) : decF (l ++ [b]) = decF l * 10 + (b.toNat - 48) := by simp [decF]
theorem decF_lt : ∀ (k : Nat) (l : List UInt8), l.length = k → l.all digB = true → decF l < 10 ^ k
  | 0, l, h, _ => by
    rw [List.length_eq_zero_iff.1 h]; decide
  | k + 1, l, h, hb => by
    have hne : l ≠ [] := by intro f; rw [f] at h; cases h
    have e : l = l.dropLast ++ [l.getLast hne] := (List.dropLast_concat_getLast hne).symm
    rw [e, List.all_append, Bool.and_eq_true] at hb
    have ih := decF_lt k l.dropLast (by rw [List.length_dropLast]; omega) hb.1
    have hd : digB (l.getLast hne) = true := by simpa using hb.2
    unfold digB at hd
    simp only [Bool.and_eq_true, decide_eq_true_eq] at hd
    rw [e, decF_snoc, Nat.pow_succ]
    omega
theorem take_get (s : ByteArray) (k : Nat) (h : k < s.size) : s.data.toList.take (k + 1) = s.data.toList.take k ++ [s[k]] := by
  rw [List.take_succ_eq_append_getElem (by rw [← Lib.size_eq]; exact h)]
  rfl
def numV2 (o : Option Nat) : Value := .tuple #[.int .i64 (o.getD 0 : Nat), .bool o.isSome]
set_option maxHeartbeats 2000000 in
set_option maxRecDepth 100000 in
theorem decimal_run (s : ByteArray) (w : World) :
    Calls Tryz.prog 38 #[.string s] w fun e w' => e = .returned (numV2 (numL s.data.toList)) ∧ Bel w w' := by
  have hl : s.data.toList.length = s.size := by rw [Lib.size_eq]
  have none_ : ∀ h : ¬ (1 ≤ s.data.toList.length ∧ s.data.toList.length ≤ 3 ∧ (1 < s.data.toList.length → s.data.toList[0]? ≠ some 48) ∧ s.data.toList.all digB = true), numL s.data.toList = none := fun h => by unfold numL; rw [if_neg h]
  by_cases h0 : s.size < 1
  · have d0 : decide (s.size < 1) = true := decide_eq_true h0
    have hq := none_ (by intro f; omega)
    rw [hq]
    clear none_ hl hq
    go_enter Tryz.func38, Tryz.ntmps38
    go_wp2_with fail
    go_ret2
    exact ⟨rfl, Bel.refl w⟩
  · have d0 : decide (s.size < 1) = false := decide_eq_false h0
    by_cases h3 : 3 < s.size
    · have d3 : decide (3 < s.size) = true := decide_eq_true h3
      have hq := none_ (by intro f; omega)
      rw [hq]
      clear none_ hl hq
      go_enter Tryz.func38, Tryz.ntmps38
      go_wp2_with fail
      go_ret2
      exact ⟨rfl, Bel.refl w⟩
    · have d3 : decide (3 < s.size) = false := decide_eq_false h3
      have h1 : 0 < s.size := by omega
      by_cases hz : s[0] = 48 ∧ 1 < s.size
      · have hq := none_ (by intro f; exact f.2.2.1 (by omega) (by rw [at_get s 0 h1, hz.1]))
        have hzb : (((s[0]'h1).toNat : Int) == 48) = true := by rw [hz.1]; rfl
        have h2 := hz.2
        have d2 : decide (1 < s.size) = true := decide_eq_true h2
        rw [hq]
        clear none_ hl hq hz
        go_enter Tryz.func38, Tryz.ntmps38
        go_wp2_with fail
        go_ret2
        exact ⟨rfl, Bel.refl w⟩
      · have HQ := hid (fun (f : ¬ s.data.toList.all digB = true) => none_ (fun g => f g.2.2.2))
        have HS := hid (fun (f : s.data.toList.all digB = true) => show numL s.data.toList = some (decF s.data.toList) by
          unfold numL
          rw [if_pos ⟨by omega, by omega, fun g e => hz ⟨by rw [at_get s 0 h1] at e; exact Option.some.inj e, by omega⟩, f⟩]
          rfl)
        by_cases hs0 : s[0] = 48
        · have z0 : (((s[0]'h1).toNat : Int) == 48) = true := by rw [hs0]; rfl
          have h2 : ¬ 1 < s.size := fun f => hz ⟨hs0, f⟩
          have d2 : decide (1 < s.size) = false := decide_eq_false h2
          clear none_ hz hs0
          have HL := hid hl
          have H3 := hid (show s.size ≤ 3 by omega)
          go_enter Tryz.func38, Tryz.ntmps38
          go_wp2_with fail
          clear d0 d3 z0 d2
          go_loop [4, 5] (fun v4 v5 => ∃ (a k : Nat), v4 = .int .i64 a ∧ v5 = .int .i64 k ∧ k ≤ s.size ∧ Hid (a = decF (s.data.toList.take k) ∧ (s.data.toList.take k).all digB = true))
            (fun _ v5 => s.size - (intOf v5).toNat)
          case atStart => exact ⟨0, 0, rfl, rfl, by omega, hid ⟨rfl, rfl⟩⟩
          case round =>
            obtain ⟨a, k, rfl, rfl, hk, HA⟩ := hrel
            have hlt := decF_lt _ _ rfl HA.out.2
            rw [List.length_take, HL.out, Nat.min_eq_left hk, ← HA.out.1] at hlt
            have h1000 : 10 ^ k ≤ 10 ^ 3 := Nat.pow_le_pow_right (by decide) (by have := H3.out; omega)
            have ha : a < 1000 := by omega
            clear hlt h1000
            by_cases hkn : k < s.size
            · have HT := hid (take_get s k hkn)
              have hm : s[k] ∈ s.data.toList := by
                have := at_get s k hkn
                exact List.mem_of_getElem? this
              by_cases c1 : (s[k]'hkn).toNat < 48
              · have HN := hid (HQ.out (fun f => by
                  have := List.all_eq_true.1 f _ hm
                  unfold digB at this
                  simp only [Bool.and_eq_true, decide_eq_true_eq] at this
                  omega))
                have b1 : decide (((s[k]'hkn).toNat : Int) < 48) = true := decide_eq_true (by omega)
                clear hm c1
                go_wp2_with fail
                go_ret2
                exact ⟨by rw [HN.out]; rfl, Bel.refl w⟩
              · have b1 : decide (((s[k]'hkn).toNat : Int) < 48) = false := decide_eq_false (by omega)
                by_cases c2 : 57 < (s[k]'hkn).toNat
                · have HN := hid (HQ.out (fun f => by
                    have := List.all_eq_true.1 f _ hm
                    unfold digB at this
                    simp only [Bool.and_eq_true, decide_eq_true_eq] at this
                    omega))
                  have b2 : decide (57 < ((s[k]'hkn).toNat : Int)) = true := decide_eq_true (by omega)
                  clear hm c1 c2
                  go_wp2_with fail
                  go_ret2
                  exact ⟨by rw [HN.out]; rfl, Bel.refl w⟩
                · have b2 : decide (57 < ((s[k]'hkn).toNat : Int)) = false := decide_eq_false (by omega)
                  have HN := hid (show a * 10 + ((s[k]'hkn).toNat - 48) = decF (s.data.toList.take (k + 1)) ∧ (s.data.toList.take (k + 1)).all digB = true by
                    rw [HT.out, decF_snoc, ← HA.out.1, List.all_append, HA.out.2]
                    refine ⟨rfl, ?_⟩
                    simp only [List.all_cons, List.all_nil, digB, Bool.true_and, Bool.and_true, Bool.and_eq_true, decide_eq_true_eq]
                    omega)
                  have hc : 48 ≤ (s[k]'hkn).toNat ∧ (s[k]'hkn).toNat ≤ 57 := by omega
                  clear hm c1 c2
                  go_wp2_with fail
                  go_round
                  case rel => exact ⟨a * 10 + ((s[k]'hkn).toNat - 48), k + 1, by go_num, by go_num, by omega, HN⟩
                  case measure => first | (simp [intOf]; done) | (simp [intOf]; omega)
            · obtain rfl : k = s.size := by omega
              rw [List.take_of_length_le (by rw [HL.out]; exact Nat.le_refl _)] at HA
              have HN := hid (show numL s.data.toList = some a by
                rw [HS.out HA.out.2, HA.out.1])
              clear HA
              go_wp2_with fail
              go_ret2
              exact ⟨by rw [HN.out]; rfl, Bel.refl w⟩
        · have z0 : (((s[0]'h1).toNat : Int) == 48) = false := by
            rw [beq_eq_false_iff_ne]
            intro f
            exact hs0 (UInt8.toNat_inj.1 (by have : (48 : UInt8).toNat = 48 := rfl; omega))
          clear none_ hz hs0
          have HL := hid hl
          have H3 := hid (show s.size ≤ 3 by omega)
          go_enter Tryz.func38, Tryz.ntmps38
          go_wp2_with fail
          clear d0 d3 z0
          go_loop [4, 5] (fun v4 v5 => ∃ (a k : Nat), v4 = .int .i64 a ∧ v5 = .int .i64 k ∧ k ≤ s.size ∧ Hid (a = decF (s.data.toList.take k) ∧ (s.data.toList.take k).all digB = true))
            (fun _ v5 => s.size - (intOf v5).toNat)
          case atStart => exact ⟨0, 0, rfl, rfl, by omega, hid ⟨rfl, rfl⟩⟩
          case round =>
            obtain ⟨a, k, rfl, rfl, hk, HA⟩ := hrel
            have hlt := decF_lt _ _ rfl HA.out.2
            rw [List.length_take, HL.out, Nat.min_eq_left hk, ← HA.out.1] at hlt
            have h1000 : 10 ^ k ≤ 10 ^ 3 := Nat.pow_le_pow_right (by decide) (by have := H3.out; omega)
            have ha : a < 1000 := by omega
            clear hlt h1000
            by_cases hkn : k < s.size
            · have HT := hid (take_get s k hkn)
              have hm : s[k] ∈ s.data.toList := by
                have := at_get s k hkn
                exact List.mem_of_getElem? this
              by_cases c1 : (s[k]'hkn).toNat < 48
              · have HN := hid (HQ.out (fun f => by
                  have := List.all_eq_true.1 f _ hm
                  unfold digB at this
                  simp only [Bool.and_eq_true, decide_eq_true_eq] at this
                  omega))
                have b1 : decide (((s[k]'hkn).toNat : Int) < 48) = true := decide_eq_true (by omega)
                clear hm c1
                go_wp2_with fail
                go_ret2
                exact ⟨by rw [HN.out]; rfl, Bel.refl w⟩
              · have b1 : decide (((s[k]'hkn).toNat : Int) < 48) = false := decide_eq_false (by omega)
                by_cases c2 : 57 < (s[k]'hkn).toNat
                · have HN := hid (HQ.out (fun f => by
                    have := List.all_eq_true.1 f _ hm
                    unfold digB at this
                    simp only [Bool.and_eq_true, decide_eq_true_eq] at this
                    omega))
                  have b2 : decide (57 < ((s[k]'hkn).toNat : Int)) = true := decide_eq_true (by omega)
                  clear hm c1 c2
                  go_wp2_with fail
                  go_ret2
                  exact ⟨by rw [HN.out]; rfl, Bel.refl w⟩
                · have b2 : decide (57 < ((s[k]'hkn).toNat : Int)) = false := decide_eq_false (by omega)
                  have HN := hid (show a * 10 + ((s[k]'hkn).toNat - 48) = decF (s.data.toList.take (k + 1)) ∧ (s.data.toList.take (k + 1)).all digB = true by
                    rw [HT.out, decF_snoc, ← HA.out.1, List.all_append, HA.out.2]
                    refine ⟨rfl, ?_⟩
                    simp only [List.all_cons, List.all_nil, digB, Bool.true_and, Bool.and_true, Bool.and_eq_true, decide_eq_true_eq]
                    omega)
                  have hc : 48 ≤ (s[k]'hkn).toNat ∧ (s[k]'hkn).toNat ≤ 57 := by omega
                  clear hm c1 c2
                  go_wp2_with fail
                  go_round
                  case rel => exact ⟨a * 10 + ((s[k]'hkn).toNat - 48), k + 1, by go_num, by go_num, by omega, HN⟩
                  case measure => first | (simp [intOf]; done) | (simp [intOf]; omega)
            · obtain rfl : k = s.size := by omega
              rw [List.take_of_length_le (by rw [HL.out]; exact Nat.le_refl _)] at HA
              have HN := hid (show numL s.data.toList = some a by
                rw [HS.out HA.out.2, HA.out.1])
              clear HA
              go_wp2_with fail
              go_ret2
              exact ⟨by rw [HN.out]; rfl, Bel.refl w⟩
end Go.Proofs.YtpmmaickjolimaaGreatDoor.Ci
