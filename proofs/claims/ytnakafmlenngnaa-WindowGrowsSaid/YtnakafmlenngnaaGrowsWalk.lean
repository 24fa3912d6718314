/- WindowGrows: the walk of the law. -/
import Derived.Test.YtnakafmlenngnaaWin
namespace Go.Proofs.Ytnakafmlenngnaa.WiGrows
open Go.RowKit Go.Proofs.Ytnakafmlenngnaa.Wi

theorem walk_bad (a0 a1 a2 : Int) (w : World) (h : a0 < 1 ∨ a1 < a0 ∨ 1000 < a1) :
    Calls Try.prog 3 #[.int .i64 a0, .int .i64 a1, .int .i64 a2] w fun e w' => e = .returned (.bool true) ∧ Below w.heap.size w w' := by
  go_enter Try.func3, Try.ntmps3
  go_wp2_with (first
    | (go_at_call 12; refine (awake_run w).mono ?_; rintro e w1 ⟨rfl, hb⟩)
    | (go_at_call 13; refine (new_bad a0 a1 _ h).mono ?_; rintro e w' ⟨rfl, rfl⟩))
  go_ret
  exact ⟨rfl, hb⟩

theorem walk_ok (i l : Nat) (a2 : Int) (w : World) (hi : 1 ≤ i) (hil : i ≤ l) (hl : l ≤ 1000) :
    Calls Try.prog 3 #[.int .i64 i, .int .i64 l, .int .i64 a2] w fun e w' => e = .returned (.bool true) ∧ Below w.heap.size w w' := by
  go_enter Try.func3, Try.ntmps3
  go_wp2_with (first
    | (go_at_call 12; refine (awake_run w).mono ?_; rintro e w1 ⟨rfl, hb⟩)
    | (go_at_call 13; refine (new_ok i l _ hi hil hl).mono ?_; rintro e w' ⟨rfl, rfl⟩))
  have hw0 : Win (w1.alloc (.cells (winCells i l i 0 0) 79)) w1.heap.size i l i 0 0 := Win.made ..
  have hb0 : Below w.heap.size w (w1.alloc (.cells (winCells i l i 0 0) 79)) := hb.alloc hb.size _
  have hB : w.heap.size ≤ w1.heap.size := hb.size
  generalize w1.alloc (.cells (winCells i l i 0 0) 79) = w2 at hw0 hb0 ⊢
  generalize w1.heap.size = b at hw0 hB ⊢
  clear hb
  go_loopw [10] (fun k wr => ∃ (k' s : Nat), k' ≤ 40 ∧ k = .int .i64 k' ∧ 1 ≤ s ∧ s ≤ l ∧ Win wr b i l s 0 0 ∧ Below w.heap.size w wr) (fun k wr => 40 - (intOf k).toNat)
  case atStart => exact ⟨0, i, by omega, rfl, hi, hil, hw0, hb0⟩
  case round =>
    obtain ⟨k, s, hk, rfl, hs1, hs2, hw, hbr⟩ := hrel
    by_cases hlt : (k : Int) < a2 ∧ k < 40
    · obtain ⟨h1, h2⟩ := hlt
      go_wp2_with (go_at_call 14; refine (size_run b i l s 0 0 _ (by omega) hw).mono ?_; rintro e w' ⟨rfl, rfl⟩)
      go_loopw [12] (fun j wr => ∃ j' : Nat, j = .int .i64 j' ∧ j' ≤ s ∧ (j' < s → Win wr b i l s j' 0) ∧ (j' = s → Win wr b i l (min (s + 1) l) 0 0) ∧ Below w.heap.size w wr) (fun j wr => s - (intOf j).toNat)
      case atStart => exact ⟨0, rfl, by omega, fun _ => hw, fun h => by omega, hbr⟩
      case round =>
        obtain ⟨j, rfl, hj, hwj, hwe, hbj⟩ := hrel
        by_cases hjs : j < s
        · have hwj := hwj hjs
          clear hwe
          go_wp2_with (first
            | (go_at_call 14; refine (size_run b i l s j 0 _ (by omega) hwj).mono ?_; rintro e w' ⟨rfl, rfl⟩)
            | (go_at_call 15; refine (take_yes b i l s j 0 _ (by omega) (by omega) hwj).mono ?_; rintro e w3 ⟨rfl, hw3, ho3⟩)
            | (go_at_call 16; refine (done_well b i l s j 0 _ (by omega) (by omega) hs2 hjs hw3).mono ?_; rintro e w4 ⟨rfl, hw4, ho4⟩))
          have hu1 : j + 1 < s → Win w4 b i l s (j + 1) 0 := fun h => by
            have := hw4; rw [upS, upC, if_pos h, if_pos h] at this; exact this
          have hu2 : j + 1 = s → Win w4 b i l (min (s + 1) l) 0 0 := fun h => by
            have := hw4; rw [upS, upC, if_neg (by omega), if_neg (by omega)] at this; exact this
          have hb4 : Below w.heap.size w w4 := (hbj.trans (ho3.below hB)).trans (ho4.below hB)
          clear hw4 hw3 ho3 ho4
          go_wp2
          go_roundw
          case rel => exact ⟨j + 1, by go_num, by omega, hu1, hu2, hb4⟩
          case measure => simp [intOf]; omega
        · obtain rfl : j = s := by omega
          have hwf := hwe rfl
          clear hwj hjs hwe
          by_cases hsl : j < l
          · rw [Nat.min_eq_left (by omega)] at hwf
            go_wp2_with (go_at_call 14; refine (size_run b i l (j + 1) 0 0 _ (by omega) hwf).mono ?_; rintro e w' ⟨rfl, rfl⟩)
            go_roundw
            case rel => exact ⟨k + 1, j + 1, by omega, by go_num, by omega, by omega, hwf, hbj⟩
            case measure => simp [intOf]; omega
          · obtain rfl : j = l := by omega
            rw [Nat.min_eq_right (by omega)] at hwf
            go_wp2_with (go_at_call 14; refine (size_run b i j j 0 0 _ (by omega) hwf).mono ?_; rintro e w' ⟨rfl, rfl⟩)
            go_roundw
            case rel => exact ⟨k + 1, j, by omega, by go_num, by omega, by omega, hwf, hbj⟩
            case measure => simp [intOf]; omega
    · rcases (by omega : ¬ (k : Int) < a2 ∨ ((k : Int) < a2 ∧ ¬ k < 40)) with h1 | ⟨h1, h2⟩
      all_goals
        go_wp2_with (go_at_call 14; refine (size_run b i l s 0 0 _ (by omega) hw).mono ?_; rintro e w' ⟨rfl, rfl⟩)
        go_loopw [18] (fun j wr => ∃ j' r c : Nat, j = .int .i64 j' ∧ j' ≤ s ∧ r = s - j' ∧ Win wr b i l r c 0 ∧ Below w.heap.size w wr) (fun j wr => s - (intOf j).toNat)
        case atStart => exact ⟨0, s, 0, rfl, by omega, by omega, hw, hbr⟩
        case round =>
          obtain ⟨j, r, c, rfl, hj, hr, hwj, hbj⟩ := hrel
          by_cases hjs : j < s
          · obtain ⟨r, rfl⟩ : ∃ r', r = r' + 1 := ⟨r - 1, by omega⟩
            have Hr : Hid (r + 1 = s - j) := hr
            have hr1 : r < 1000 := by omega
            clear hr
            go_wp2_with (first
              | (go_at_call 17; refine (dead_run b i l (r + 1) c 0 _ (by omega) hwj).mono ?_; rintro e w' ⟨rfl, rfl⟩)
              | (go_at_call 15; refine (take_yes b i l (r + 1) c 0 _ (by omega) (by omega) hwj).mono ?_; rintro e w3 ⟨rfl, hw3, ho3⟩)
              | (go_at_call 16; refine (done_ill b i l r c 0 _ (by omega) (by omega) hw3).mono ?_; rintro e w4 ⟨rfl, hw4, ho4⟩))
            go_roundw
            case rel => exact ⟨j + 1, r, 0, by go_num, by omega, by have := Hr.out; omega, hw4, (hbj.trans (ho3.below hB)).trans (ho4.below hB)⟩
            case measure => simp [intOf]; omega
          · obtain rfl : r = 0 := by omega
            clear hr
            go_wp2_with (first
              | (go_at_call 17; refine (dead_run b i l 0 c 0 _ (by omega) hwj).mono ?_; rintro e w' ⟨rfl, rfl⟩)
              | (go_at_call 15; refine (take_no b i l 0 c 0 _ (by omega) (by omega) hwj).mono ?_; rintro e w3 ⟨rfl, hw3, ho3⟩)
              | (go_at_call 18; refine (revive_yes b i l c 0 _ hw3).mono ?_; rintro e w4 ⟨rfl, hw4, ho4⟩)
              | (go_at_call 14; refine (size_run b i l i 0 0 _ (by omega) hw4).mono ?_; rintro e w' ⟨rfl, rfl⟩))
            go_ret
            exact ⟨by simp, (hbj.trans (ho3.below hB)).trans (ho4.below hB)⟩
end Go.Proofs.Ytnakafmlenngnaa.WiGrows
