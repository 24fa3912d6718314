/- WindowScripts: the walk of the law. -/
import Derived.Test.YtnakafmlenngnaaAny
namespace Go.Proofs.Ytnakafmlenngnaa.WiScripts
open Go.RowKit Go.Proofs.Ytnakafmlenngnaa.Wi

theorem walk_bad (a0 a1 : Int) (v : Value) (w : World) (h : a0 < 1 ∨ a1 < a0 ∨ 1000 < a1) :
    Calls Try.prog 4 #[.int .i64 a0, .int .i64 a1, v] w fun e w' => e = .returned (.bool true) ∧ Below w.heap.size w w' := by
  go_enter Try.func4, Try.ntmps4
  go_wp2_with (first
    | (go_at_call 12; refine (awake_run w).mono ?_; rintro e w1 ⟨rfl, hb⟩)
    | (go_at_call 13; refine (new_bad a0 a1 _ h).mono ?_; rintro e w' ⟨rfl, rfl⟩)
    | (go_at_call 19; refine (rnew_bad a0 a1 _ h).mono ?_; rintro e w' ⟨rfl, rfl⟩))
  go_ret
  exact ⟨rfl, hb⟩

theorem walk_ok (i l : Nat) (x : Option Addr) (len cap : Nat) (zs : List Int) (w : World) (hi : 1 ≤ i) (hil : i ≤ l) (hl : l ≤ 1000) (hm : len ≤ 9223372036854775807)
    (hcell : ∀ k, k < len → ∃ b o, x = some ⟨b, o, none⟩ ∧ w.cell? ⟨b, o + k, none⟩ = some (.int .i64 (zs.getD k 0)) ∧ b < w.heap.size) :
    Calls Try.prog 4 #[.int .i64 i, .int .i64 l, .slice x len cap] w fun e w' => e = .returned (.bool true) ∧ Below w.heap.size w w' := by
  go_enter Try.func4, Try.ntmps4
  go_wp2_with (first
    | (go_at_call 12; refine (awake_run w).mono ?_; rintro e w1 ⟨rfl, hb⟩)
    | (go_at_call 13; refine (new_ok i l _ hi hil hl).mono ?_; rintro e w' ⟨rfl, rfl⟩)
    | (go_at_call 19; refine (rnew_ok i l _ hi hil hl).mono ?_; rintro e w' ⟨rfl, rfl⟩))
  have hw0 : Win ((w1.alloc (.cells (winCells i l i 0 0) 79)).alloc (.cells (refCells i l i 0 0) 81)) w1.heap.size i l i 0 0 :=
    (Win.made (w := w1) i l i 0 0).below ((Below.refl _ _).alloc (Nat.le_refl _) _) (by simp)
  have hr0 : Ref ((w1.alloc (.cells (winCells i l i 0 0) 79)).alloc (.cells (refCells i l i 0 0) 81)) (w1.heap.size + 1) i l i 0 0 := by
    have := Ref.made (w := w1.alloc (.cells (winCells i l i 0 0) 79)) i l i 0 0
    simpa using this
  have hb0 : Below w.heap.size w ((w1.alloc (.cells (winCells i l i 0 0) 79)).alloc (.cells (refCells i l i 0 0) 81)) :=
    (hb.alloc hb.size _).alloc (by have := hb.size; simp; omega) _
  have hB : w.heap.size ≤ w1.heap.size := hb.size
  have hI0 : Stands l i 0 0 := by unfold Stands; omega
  generalize (w1.alloc (.cells (winCells i l i 0 0) 79)).alloc (.cells (refCells i l i 0 0) 81) = w2 at hw0 hr0 hb0 ⊢
  generalize w1.heap.size = b at hw0 hr0 hB ⊢
  clear hb
  go_loopw [12] (fun k wr => ∃ k' s c f : Nat, k = .int .i64 k' ∧ k' ≤ len ∧ Stands l s c f ∧ Win wr b i l s c f ∧ Ref wr (b + 1) i l s c f ∧ Below w.heap.size w wr) (fun k wr => len - (intOf k).toNat)
  case atStart => exact ⟨0, i, 0, 0, rfl, by omega, hI0, hw0, hr0, hb0⟩
  case round =>
    obtain ⟨k, s, c, f, rfl, hk, hI, hw, hr, hbr⟩ := hrel
    by_cases hlt : k < len
    · obtain ⟨xb, xo, rfl, hc, hx⟩ := hcell k hlt
      have hc1 : wr.cell? ⟨xb, xo + k, none⟩ = some (.int .i64 (zs.getD k 0)) := by rw [hbr.cell hx]; exact hc
      clear hcell hc
      have hres : ∀ (S C F : Nat) (W : World), Stands l S C F → S < 1002 ∧ C < 1002 := by
        intro S C F W h; unfold Stands at h; omega
      generalize zs.getD k 0 = v at hc1
      by_cases hv0 : v = 0
      · subst hv0
        go_wp2_with (first
          | (go_at_call 15; refine (take_any b i l s c f _ hI hw).mono ?_; rintro e w3 ⟨rfl, hw3, ho3⟩)
          | (go_at_call 20; refine (rtake_any (b + 1) i l s c f _ hI (hr.only ho3 (by omega))).mono ?_; rintro e w4 ⟨rfl, hr4, ho4⟩)
          | (go_at_call 23; refine (same_run b (b + 1) i l s c (takeF s f) _ (hres _ _ _ w4 hI.take).1 (hres _ _ _ w4 hI.take).2 (hw3.only ho4 (by omega)) hr4).mono ?_; rintro e w' ⟨rfl, rfl⟩))
        go_roundw
        case rel => exact ⟨k + 1, s, c, takeF s f, by go_num, by omega, hI.take, hw3.only ho4 (by omega), hr4, (hbr.trans (ho3.below hB)).trans (ho4.below (by omega))⟩
        case measure => simp [intOf]; omega
      by_cases hv1 : v = 1
      · subst hv1
        go_wp2_with (first
          | (go_at_call 16; refine (done_any b i l s c f true _ hI hw).mono ?_; rintro e w3 ⟨rfl, hw3, ho3⟩; have hc3 := (ho3.cell (p := ⟨xb, xo + k, none⟩) (by simp; omega)).trans hc1)
          | (go_at_call 21; refine (rdone_any (b + 1) i l s c f true _ hI (hr.only ho3 (by omega))).mono ?_; rintro e w4 ⟨rfl, hr4, ho4⟩)
          | (go_at_call 23; refine (same_run b (b + 1) i l (doneS true l s c f) (doneC true s c f) (f - 1) _ (hres _ _ _ w4 (hI.done true)).1 (hres _ _ _ w4 (hI.done true)).2 (hw3.only ho4 (by omega)) hr4).mono ?_; rintro e w' ⟨rfl, rfl⟩))
        go_roundw
        case rel => exact ⟨k + 1, doneS true l s c f, doneC true s c f, f - 1, by go_num, by omega, hI.done true, hw3.only ho4 (by omega), hr4, (hbr.trans (ho3.below hB)).trans (ho4.below (by omega))⟩
        case measure => simp [intOf]; omega
      by_cases hv2 : v = 2
      · subst hv2
        go_wp2_with (first
          | (go_at_call 16; refine (done_any b i l s c f false _ hI hw).mono ?_; rintro e w3 ⟨rfl, hw3, ho3⟩; have hc3 := (ho3.cell (p := ⟨xb, xo + k, none⟩) (by simp; omega)).trans hc1)
          | (go_at_call 21; refine (rdone_any (b + 1) i l s c f false _ hI (hr.only ho3 (by omega))).mono ?_; rintro e w4 ⟨rfl, hr4, ho4⟩)
          | (go_at_call 23; refine (same_run b (b + 1) i l (doneS false l s c f) (doneC false s c f) (f - 1) _ (hres _ _ _ w4 (hI.done false)).1 (hres _ _ _ w4 (hI.done false)).2 (hw3.only ho4 (by omega)) hr4).mono ?_; rintro e w' ⟨rfl, rfl⟩))
        go_roundw
        case rel => exact ⟨k + 1, doneS false l s c f, doneC false s c f, f - 1, by go_num, by omega, hI.done false, hw3.only ho4 (by omega), hr4, (hbr.trans (ho3.below hB)).trans (ho4.below (by omega))⟩
        case measure => simp [intOf]; omega
      by_cases hv3 : v = 3
      · subst hv3
        go_wp2_with (first
          | (go_at_call 18; refine (revive_any b i l s c f _ hI hw).mono ?_; rintro e w3 ⟨rfl, hw3, ho3⟩)
          | (go_at_call 22; refine (rrevive_any (b + 1) i l s c f _ (hr.only ho3 (by omega))).mono ?_; rintro e w4 ⟨rfl, hr4, ho4⟩)
          | (go_at_call 23; refine (same_run b (b + 1) i l (revS i s) (revC s c) f _ (hres _ _ _ w4 (hI.rev hi hil)).1 (hres _ _ _ w4 (hI.rev hi hil)).2 (hw3.only ho4 (by omega)) hr4).mono ?_; rintro e w' ⟨rfl, rfl⟩))
        go_roundw
        case rel => exact ⟨k + 1, revS i s, revC s c, f, by go_num, by omega, hI.rev hi hil, hw3.only ho4 (by omega), hr4, (hbr.trans (ho3.below hB)).trans (ho4.below (by omega))⟩
        case measure => simp [intOf]; omega
      have b0 : (v == 0) = false := by simpa using hv0
      have b1 : (v == 1) = false := by simpa using hv1
      have b2 : (v == 2) = false := by simpa using hv2
      have b3 : (v == 3) = false := by simpa using hv3
      clear hv0 hv1 hv2 hv3
      go_wp2_with (go_at_call 23; refine (same_run b (b + 1) i l s c f _ (hres _ _ _ wr hI).1 (hres _ _ _ wr hI).2 hw hr).mono ?_; rintro e w' ⟨rfl, rfl⟩)
      go_roundw
      case rel => exact ⟨k + 1, s, c, f, by go_num, by omega, hI, hw, hr, hbr⟩
      case measure => simp [intOf]; omega
    · clear hcell
      go_wp2
      go_ret
      exact ⟨rfl, hbr⟩
end Go.Proofs.Ytnakafmlenngnaa.WiScripts
