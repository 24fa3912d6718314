/- WindowBounds: the walk of the law. -/
import Derived.Test.YtnakafmlenngnaaAny
import Derived.Deep.LoopGhost
import Derived.Deep.DeepCutAuto
import Derived.Deep.CutBlock
namespace Go.Proofs.Ytnakafmlenngnaa.WiBounds
open Go.RowKit Go.Proofs.Ytnakafmlenngnaa.Wi

theorem take_le (s f : Nat) : takeB s f = true → takeF s f ≤ s := by
  unfold takeB takeF
  intro h
  have h := of_decide_eq_true h
  rw [if_pos h]; omega

theorem bf_pos (l S C F : Nat) (h : Stands l S C F) (hS : S ≠ 0) : (FloatKind.f64.format.order (Fl.fl S) (Fl.fl S) != some .eq) = false ∧ (FloatKind.f64.format.order (Fl.fl C) 0 == some .lt) = false ∧
    (FloatKind.f64.format.order (Fl.fl C) (Fl.fl S) == some .gt) = false ∧ (FloatKind.f64.format.order (Fl.fl C) (Fl.fl S) == some .eq) = false := by
  obtain ⟨h1, h2, h3, h4⟩ := h
  have hc : C < S := by omega
  rw [zero_fl, Fl.order_fl S S (by omega) (by omega), Fl.order_fl C 0 (by omega) (by omega), Fl.order_fl C S (by omega) (by omega), Nat.compare_eq_lt.2 hc, Nat.compare_eq_eq.2 rfl]
  refine ⟨rfl, ?_, rfl, rfl⟩
  by_cases e : C = 0
  · subst e; rfl
  · rw [Nat.compare_eq_gt.2 (by omega)]; rfl

theorem bf_zero : (FloatKind.f64.format.order (Fl.fl 0) (Fl.fl 0) != some .eq) = false ∧ (FloatKind.f64.format.order (Fl.fl 0) 0 == some .lt) = false ∧
    (FloatKind.f64.format.order (Fl.fl 0) 0 != some .eq) = false ∧ (FloatKind.f64.format.order (Fl.fl 0) (Fl.fl 0) == some .eq) = true := by
  rw [← zero_fl]
  decide +kernel

theorem walk_bad (a0 a1 : Int) (v : Value) (w : World) (h : a0 < 1 ∨ a1 < a0 ∨ 1000 < a1) :
    Calls Try.prog 5 #[.int .i64 a0, .int .i64 a1, v] w fun e w' => e = .returned (.bool true) ∧ Below w.heap.size w w' := by
  go_enter Try.func5, Try.ntmps5
  go_wp2_with (first
    | (go_at_call 12; refine (awake_run w).mono ?_; rintro e w1 ⟨rfl, hb⟩)
    | (go_at_call 13; refine (new_bad a0 a1 _ h).mono ?_; rintro e w' ⟨rfl, rfl⟩))
  go_ret
  exact ⟨rfl, hb⟩

set_option maxRecDepth 100000 in
set_option maxHeartbeats 1600000 in
theorem walk_ok (i l : Nat) (x : Option Addr) (len cap : Nat) (zs : List Int) (w : World) (hi : 1 ≤ i) (hil : i ≤ l) (hl : l ≤ 1000) (hm : len ≤ 9223372036854775807)
    (hcell : ∀ k, k < len → ∃ b o, x = some ⟨b, o, none⟩ ∧ w.cell? ⟨b, o + k, none⟩ = some (.int .i64 (zs.getD k 0)) ∧ b < w.heap.size) :
    Calls Try.prog 5 #[.int .i64 i, .int .i64 l, .slice x len cap] w fun e w' => e = .returned (.bool true) ∧ Below w.heap.size w w' := by
  have hcv : ∀ (n : Nat) (w : World), (convert 3 38 (.int .i64 n)).run Try.prog w = .ok (.float .f64 (Fl.fl n)) w := fun n w =>
    run_convert_int_float w 3 38 .i64 .f64 n (by kernel_rfl) (by kernel_rfl)
  go_enter Try.func5, Try.ntmps5
  go_wp2_with (first
    | (go_at_call 12; refine (awake_run w).mono ?_; rintro e w1 ⟨rfl, hb⟩)
    | (go_at_call 13; refine (new_ok i l _ hi hil hl).mono ?_; rintro e w' ⟨rfl, rfl⟩))
  have hw0 : Win (w1.alloc (.cells (winCells i l i 0 0) 79)) w1.heap.size i l i 0 0 := Win.made ..
  have hb0 : Below w.heap.size w (w1.alloc (.cells (winCells i l i 0 0) 79)) := hb.alloc hb.size _
  have hB : w.heap.size ≤ w1.heap.size := hb.size
  have hI0 : Stands l i 0 0 := by unfold Stands; omega
  generalize w1.alloc (.cells (winCells i l i 0 0) 79) = w2 at hw0 hb0 ⊢
  generalize w1.heap.size = b at hw0 hB ⊢
  clear hb
  go_loopg [10] len (fun g k wr => ∃ k' s c f : Nat, k = .int .i64 k' ∧ k' + g = len ∧ Stands l s c f ∧ Win wr b i l s c f ∧ Below w.heap.size w wr)
  case atStart => exact ⟨0, i, 0, 0, rfl, by omega, hI0, hw0, hb0⟩
  case round =>
    obtain ⟨k, s, c, f, rfl, Hk, hI, hw, hbr⟩ := hrel
    have hk : k ≤ len := by omega
    have hkg : Hid (k + gk = len) := Hk
    clear Hk
    by_cases hlt : k < len
    · obtain ⟨xb, xo, rfl, hc, hx⟩ := hcell k hlt
      have hc1 : wr.cell? ⟨xb, xo + k, none⟩ = some (.int .i64 (zs.getD k 0)) := by rw [hbr.cell hx]; exact hc
      clear hcell hc
      generalize zs.getD k 0 = v at hc1
      go_upto_block 2 with (fail)
      go_cut [11] (fun tk wx => ∃ (S C F : Nat) (tb : Bool), tk = .bool tb ∧ Stands l S C F ∧ Win wx b i l S C F ∧ Below w.heap.size w wx ∧ (tb = true → F ≤ S))
      case first =>
        by_cases hv0 : v = 0
        · subst hv0
          go_wp2_with (go_at_call 15; refine (take_any b i l s c f _ hI hw).mono ?_; rintro e w3 ⟨rfl, hw3, ho3⟩)
          go_meet
          exact ⟨s, c, takeF s f, takeB s f, rfl, hI.take, hw3, hbr.trans (ho3.below hB), take_le s f⟩
        by_cases hv1 : v = 1
        · subst hv1
          go_wp2_with (go_at_call 16; refine (done_any b i l s c f true _ hI hw).mono ?_; rintro e w3 ⟨rfl, hw3, ho3⟩)
          go_meet
          exact ⟨_, _, _, false, rfl, hI.done true, hw3, hbr.trans (ho3.below hB), fun h => by cases h⟩
        by_cases hv2 : v = 2
        · subst hv2
          go_wp2_with (go_at_call 16; refine (done_any b i l s c f false _ hI hw).mono ?_; rintro e w3 ⟨rfl, hw3, ho3⟩)
          go_meet
          exact ⟨_, _, _, false, rfl, hI.done false, hw3, hbr.trans (ho3.below hB), fun h => by cases h⟩
        by_cases hv3 : v = 3
        · subst hv3
          go_wp2_with (go_at_call 18; refine (revive_any b i l s c f _ hI hw).mono ?_; rintro e w3 ⟨rfl, hw3, ho3⟩)
          go_meet
          exact ⟨_, _, _, false, rfl, hI.rev hi hil, hw3, hbr.trans (ho3.below hB), fun h => by cases h⟩
        have b0 : (v == 0) = false := by simpa using hv0
        have b1 : (v == 1) = false := by simpa using hv1
        have b2 : (v == 2) = false := by simpa using hv2
        have b3 : (v == 3) = false := by simpa using hv3
        clear hv0 hv1 hv2 hv3
        go_wp2_with fail
        go_meet
        exact ⟨s, c, f, false, rfl, hI, hw, hbr, fun h => by cases h⟩
      case rest =>
        obtain ⟨S, C, F, tb, rfl, hI3, hw3, hb3, htb⟩ := hcut
        have hI4 := hI3
        obtain ⟨k1, k2, k3, k4⟩ := hI4
        by_cases hS : S = 0
        · obtain rfl : S = 0 := hS
          obtain rfl : C = 0 := by omega
          obtain ⟨o1, o2, o3, o4⟩ := bf_zero
          clear k2
          cases tb
          · clear htb
            go_wp2_with (first
              | (go_at_call 24; refine (point_run b i l 0 0 F _ hw3).mono ?_; rintro e w' ⟨rfl, rfl⟩)
              | (go_at_call 14; refine (size_run b i l 0 0 F _ (by omega) hw3).mono ?_; rintro e w' ⟨rfl, rfl⟩)
              | (go_at_call 25; refine (flight_run b i l 0 0 F _ hw3).mono ?_; rintro e w' ⟨rfl, rfl⟩))
            go_roundg (gk - 1)
            case measure => have := hkg.out; omega
            case rel => exact ⟨k + 1, 0, 0, F, by go_num, by have := hkg.out; omega, hI3, hw3, hb3⟩
          · have hF := htb rfl
            obtain rfl : F = 0 := by omega
            clear htb hF
            go_wp2_with (first
              | (go_at_call 24; refine (point_run b i l 0 0 0 _ hw3).mono ?_; rintro e w' ⟨rfl, rfl⟩)
              | (go_at_call 14; refine (size_run b i l 0 0 0 _ (by omega) hw3).mono ?_; rintro e w' ⟨rfl, rfl⟩)
              | (go_at_call 25; refine (flight_run b i l 0 0 0 _ hw3).mono ?_; rintro e w' ⟨rfl, rfl⟩))
            go_roundg (gk - 1)
            case measure => have := hkg.out; omega
            case rel => exact ⟨k + 1, 0, 0, 0, by go_num, by have := hkg.out; omega, hI3, hw3, hb3⟩
        · obtain ⟨o1, o2, o3, o4⟩ := bf_pos l S C F hI3 hS
          have hS' : 0 < S := by omega
          clear k2 hS
          cases tb
          · clear htb
            go_wp2_with (first
              | (go_at_call 24; refine (point_run b i l S C F _ hw3).mono ?_; rintro e w' ⟨rfl, rfl⟩)
              | (go_at_call 14; refine (size_run b i l S C F _ (by omega) hw3).mono ?_; rintro e w' ⟨rfl, rfl⟩)
              | (go_at_call 25; refine (flight_run b i l S C F _ hw3).mono ?_; rintro e w' ⟨rfl, rfl⟩))
            go_roundg (gk - 1)
            case measure => have := hkg.out; omega
            case rel => exact ⟨k + 1, S, C, F, by go_num, by have := hkg.out; omega, hI3, hw3, hb3⟩
          · have hF := htb rfl
            clear htb
            go_wp2_with (first
              | (go_at_call 24; refine (point_run b i l S C F _ hw3).mono ?_; rintro e w' ⟨rfl, rfl⟩)
              | (go_at_call 14; refine (size_run b i l S C F _ (by omega) hw3).mono ?_; rintro e w' ⟨rfl, rfl⟩)
              | (go_at_call 25; refine (flight_run b i l S C F _ hw3).mono ?_; rintro e w' ⟨rfl, rfl⟩))
            go_roundg (gk - 1)
            case measure => have := hkg.out; omega
            case rel => exact ⟨k + 1, S, C, F, by go_num, by have := hkg.out; omega, hI3, hw3, hb3⟩
    · clear hcell
      go_wp2
      go_ret
      exact ⟨rfl, hbr⟩
end Go.Proofs.Ytnakafmlenngnaa.WiBounds
