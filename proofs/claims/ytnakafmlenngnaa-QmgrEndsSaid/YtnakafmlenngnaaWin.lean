/- The contracts of the window's functions, and of the law's awake. -/
import Derived.Test.YtnakafmlenngnaaRows
import Derived.Test.YtnakafmlenngnaaFl
import Derived.WalkKit
import Derived.WalkSpells
import Derived.WalkLawsBesides
import Derived.Deep.QuietTactic
import Derived.BigQuiet
import Derived.Below
import Derived.Lib.Hide
namespace Go.Proofs.Ytnakafmlenngnaa.Wi
open Go.RowKit

open Go.Proofs.Ytnakafmlenngnaa.Fl

section
variable (P : Program) (w : World) (a : Addr) (m : Mode)
@[go_sem] theorem run_store_complex (k : FloatKind) (x y : Nat) : (store a (.complex k x y) m).run P w = stored P w a (.complex k x y) m := run_store P w a _ m rfl
end

theorem zero_fl : (0 : Nat) = fl 0 := by decide +kernel
theorem one_fl : (4607182418800017408 : Nat) = fl 1 := by decide +kernel

theorem run_add_i (s c : Nat) (hs : s < 1002) (hc : c < 1001) (w : World) : (binOp .add 36 (.complex .f64 (fl s) (fl c)) (.complex .f64 0 4607182418800017408)).run Try.prog w = .ok (.complex .f64 (fl s) (fl (c + 1))) w := by
  refine run_complex_sum w .add (.inl rfl) 36 .f64 _ _ _ _ _ _ ?_
  rw [one_fl]
  have h0 : floatBits .add .f64 (fl s) 0 = some (fl s) := by
    have := (facts s hs).2.2.1
    rw [← zero_fl] at this; exact this
  simp [cSumBits, h0, (facts c (by omega)).2.2.2.1]

theorem run_add_1 (s : Nat) (hs : s < 1001) (w : World) : (binOp .add 36 (.complex .f64 (fl s) 0) (.complex .f64 4607182418800017408 0)).run Try.prog w = .ok (.complex .f64 (fl (s + 1)) 0) w := by
  refine run_complex_sum w .add (.inl rfl) 36 .f64 _ _ _ _ _ _ ?_
  rw [one_fl]
  have h0 : floatBits .add .f64 0 0 = some 0 := by decide +kernel
  simp [cSumBits, h0, (facts s (by omega)).2.2.2.1]

theorem run_sub_1 (s : Nat) (hs : s < 1001) (w : World) : (binOp .sub 36 (.complex .f64 (fl (s + 1)) 0) (.complex .f64 4607182418800017408 0)).run Try.prog w = .ok (.complex .f64 (fl s) 0) w := by
  refine run_complex_sum w .sub (.inr rfl) 36 .f64 _ _ _ _ _ _ ?_
  rw [one_fl]
  have h0 : floatBits .sub .f64 0 0 = some 0 := by decide +kernel
  simp [cSumBits, h0, (facts s (by omega)).2.2.2.2]

theorem ord_lt (a b : Nat) (ha : a < 1002) (hb : b < 1002) : (FloatKind.f64.format.order (fl a) (fl b) == some .lt) = decide (a < b) := by
  rw [order_fl a b ha hb]
  by_cases e : a < b
  · rw [Nat.compare_eq_lt.2 e, decide_eq_true e]; rfl
  · rw [decide_eq_false e]
    by_cases e2 : a = b
    · rw [Nat.compare_eq_eq.2 e2]; rfl
    · rw [Nat.compare_eq_gt.2 (by omega)]; rfl

theorem ord_eq (a b : Nat) (ha : a < 1002) (hb : b < 1002) : (FloatKind.f64.format.order (fl a) (fl b) == some .eq) = decide (a = b) := by
  rw [order_fl a b ha hb]
  by_cases e : a = b
  · rw [Nat.compare_eq_eq.2 e, decide_eq_true e]; rfl
  · rw [decide_eq_false e]
    by_cases e2 : a < b
    · rw [Nat.compare_eq_lt.2 e2]; rfl
    · rw [Nat.compare_eq_gt.2 (by omega)]; rfl

/-- The four cells of a window. -/
def winCells (i l s c f : Nat) : Array Value := #[.complex .f64 (fl i) 0, .complex .f64 (fl l) 0, .complex .f64 (fl s) (fl c), .int .i64 f]

def Win (w : World) (b i l s c f : Nat) : Prop := w.heap[b]? = some (.cells (winCells i l s c f) 79 (0, 0))

theorem Win.cell {w : World} {b i l s c f : Nat} (h : Win w b i l s c f) :
    w.cell? ⟨b, 0, none⟩ = some (.complex .f64 (fl i) 0) ∧ w.cell? ⟨b, 1, none⟩ = some (.complex .f64 (fl l) 0) ∧
    w.cell? ⟨b, 2, none⟩ = some (.complex .f64 (fl s) (fl c)) ∧ w.cell? ⟨b, 3, none⟩ = some (.int .i64 f) := by
  unfold Win at h
  simp [World.cell?, h, winCells]

theorem Win.free {w : World} {b i l s c f : Nat} (h : Win w b i l s c f) (o : Nat) : w.frozen? ⟨b, o, none⟩ = false := by
  unfold Win at h
  simp [World.frozen?, h]

theorem size_run (b i l s c f : Nat) (w : World) (hs : s < 1002) (h : Win w b i l s c f) :
    Calls Try.prog 14 #[.pointer (some ⟨b, 0, none⟩)] w fun e w' => e = .returned (.int .i64 s) ∧ w = w' := by
  obtain ⟨-, -, h2, -⟩ := h.cell
  have hc : ∀ w : World, (convert 38 3 (.float .f64 (fl s))).run Try.prog w = .ok (.int .i64 s) w := fun w =>
    run_convert_float_int w 38 3 .f64 .i64 (fl s) s (by kernel_rfl) (by kernel_rfl) (facts s hs).2.1
  go_enter Try.func14, Try.ntmps14
  go_wp2
  go_ret
  exact ⟨rfl, rfl⟩
theorem Win.drewN {w : World} {b i l s c f : Nat} (n : Nat) (h : Win w b i l s c f) : Win (w.drewN n) b i l s c f := h

theorem Win.flight {w : World} {b i l s c f : Nat} (h : Win w b i l s c f) (f' : Nat) : Win (w.setCell ⟨b, 3, none⟩ (.int .i64 f')) b i l s c f' := by
  unfold Win at *
  simp [World.setCell, Array.getElem?_modify, h, winCells]

theorem Win.point {w : World} {b i l s c f : Nat} (h : Win w b i l s c f) (s' c' : Nat) : Win (w.setCell ⟨b, 2, none⟩ (.complex .f64 (fl s') (fl c'))) b i l s' c' f := by
  unfold Win at *
  simp [World.setCell, Array.getElem?_modify, h, winCells]

theorem Win.point0 {w : World} {b i l s c f : Nat} (h : Win w b i l s c f) (s' : Nat) : Win (w.setCell ⟨b, 2, none⟩ (.complex .f64 (fl s') 0)) b i l s' 0 f := by
  have := h.point s' 0
  rw [← zero_fl] at this; exact this

/-- Nothing but block b may have turned; none was made. -/
structure Only (b : Nat) (w w' : World) : Prop where
  os : w'.os = w.os
  tape : w'.tape = w.tape
  output : w'.output = w.output
  size : w'.heap.size = w.heap.size
  block : ∀ k, k ≠ b → w'.heap[k]? = w.heap[k]?

theorem Only.refl (b : Nat) (w : World) : Only b w w := ⟨rfl, rfl, rfl, rfl, fun _ _ => rfl⟩
theorem Only.trans {b : Nat} {w w1 w2 : World} (h : Only b w w1) (k : Only b w1 w2) : Only b w w2 :=
  ⟨k.os.trans h.os, k.tape.trans h.tape, k.output.trans h.output, k.size.trans h.size, fun i hi => (k.block i hi).trans (h.block i hi)⟩
theorem Only.drewN {b : Nat} {w w1 : World} (h : Only b w w1) (n : Nat) : Only b w (w1.drewN n) := ⟨h.os, h.tape, h.output, h.size, h.block⟩
theorem Only.setCell {b : Nat} {w w1 : World} (h : Only b w w1) (o : Nat) (v : Value) : Only b w (w1.setCell ⟨b, o, none⟩ v) :=
  h.trans ⟨rfl, rfl, rfl, by simp [World.setCell], fun k hk => Below.heap_setCell _ _ _ _ hk⟩

theorem dead_run (b i l s c f : Nat) (w : World) (hs : s < 1002) (h : Win w b i l s c f) :
    Calls Try.prog 17 #[.pointer (some ⟨b, 0, none⟩)] w fun e w' => e = .returned (.bool (decide (s = 0))) ∧ w = w' := by
  obtain ⟨-, -, h2, -⟩ := h.cell
  have ho : (FloatKind.f64.format.order (fl s) 0 == some .eq) = decide (s = 0) := by
    have := ord_eq s 0 hs (by omega)
    rw [← zero_fl] at this; exact this
  go_enter Try.func17, Try.ntmps17
  go_wp2
  go_ret
  exact ⟨rfl, rfl⟩

theorem flight_run (b i l s c f : Nat) (w : World) (h : Win w b i l s c f) :
    Calls Try.prog 25 #[.pointer (some ⟨b, 0, none⟩)] w fun e w' => e = .returned (.int .i64 f) ∧ w = w' := by
  obtain ⟨-, -, -, h3⟩ := h.cell
  go_enter Try.func25, Try.ntmps25
  go_wp2
  go_ret
  exact ⟨rfl, rfl⟩

theorem point_run (b i l s c f : Nat) (w : World) (h : Win w b i l s c f) :
    Calls Try.prog 24 #[.pointer (some ⟨b, 0, none⟩)] w fun e w' => e = .returned (.complex .f64 (fl s) (fl c)) ∧ w = w' := by
  obtain ⟨-, -, h2, -⟩ := h.cell
  go_enter Try.func24, Try.ntmps24
  go_wp2
  go_ret
  exact ⟨rfl, rfl⟩

theorem take_yes (b i l s c f : Nat) (w : World) (hs : s < 1002) (hf : f < s) (h : Win w b i l s c f) :
    Calls Try.prog 15 #[.pointer (some ⟨b, 0, none⟩)] w fun e w' => e = .returned (.bool true) ∧ Win w' b i l s c (f + 1) ∧ Only b w w' := by
  obtain ⟨-, -, h2, h3⟩ := h.cell
  have hz := h.free 3
  have hd : decide ((s : Int) ≤ (f : Int)) = false := by simp; omega
  go_enter Try.func15, Try.ntmps15
  go_wp2
  go_quiet ((go_at_call 14; exact Calls.quiet_of_same ((size_run b i l s c f _ hs (h.drewN _)).mono fun _ _ h => ⟨h.1, h.2.symm⟩)))
  go_wp2
  go_ret
  exact ⟨rfl, (h.drewN _).flight (f + 1), ((Only.refl _ _).drewN _).setCell _ _⟩

theorem take_no (b i l s c f : Nat) (w : World) (hs : s < 1002) (hf : s ≤ f) (h : Win w b i l s c f) :
    Calls Try.prog 15 #[.pointer (some ⟨b, 0, none⟩)] w fun e w' => e = .returned (.bool false) ∧ Win w' b i l s c f ∧ Only b w w' := by
  obtain ⟨-, -, h2, h3⟩ := h.cell
  have hd : decide ((s : Int) ≤ (f : Int)) = true := by simp; omega
  go_enter Try.func15, Try.ntmps15
  go_wp2
  go_quiet ((go_at_call 14; exact Calls.quiet_of_same ((size_run b i l s c f _ hs (h.drewN _)).mono fun _ _ h => ⟨h.1, h.2.symm⟩)))
  go_wp2
  go_ret
  exact ⟨rfl, h.drewN _, (Only.refl _ _).drewN _⟩
theorem well_more (b i l s c f : Nat) (w : World) (hs : s < 1001) (hc : c + 1 < s) (h : Win w b i l s c f) :
    Calls Try.prog 43 #[.pointer (some ⟨b, 0, none⟩)] w fun e w' => e = .returned (.tuple #[]) ∧ Win w' b i l s (c + 1) f ∧ Only b w w' := by
  obtain ⟨-, -, h2, h3⟩ := h.cell
  have hz := h.free 2
  have ha := run_add_i s c (by omega) (by omega)
  have ho : (FloatKind.f64.format.order (fl (c + 1)) (fl s) == some .lt) = true := by rw [ord_lt _ _ (by omega) (by omega)]; simp; omega
  go_enter Try.func43, Try.ntmps43
  go_wp2
  go_quiet (fail)
  go_wp2
  refine bodyPost_ret (results_none rfl _ _ _) rfl ?_
  exact ⟨rfl, (h.point s (c + 1)).drewN _, ((Only.refl _ _).setCell _ _).drewN _⟩

theorem well_top (b i s c f : Nat) (w : World) (hs : s < 1001) (hc : c + 1 = s) (h : Win w b i s s c f) :
    Calls Try.prog 43 #[.pointer (some ⟨b, 0, none⟩)] w fun e w' => e = .returned (.tuple #[]) ∧ Win w' b i s s 0 f ∧ Only b w w' := by
  obtain ⟨-, h1, h2, h3⟩ := h.cell
  have hz := h.free 2
  have ha := run_add_i s c (by omega) (by omega)
  have ho : (FloatKind.f64.format.order (fl (c + 1)) (fl s) == some .lt) = false := by rw [ord_lt _ _ (by omega) (by omega)]; simp; omega
  have ho1 : (FloatKind.f64.format.order (fl s) (fl s) == some .eq) = true := by rw [ord_eq _ _ (by omega) (by omega)]; simp
  have ho2 : (FloatKind.f64.format.order 0 0 == some .eq) = true := by decide +kernel
  clear hc
  go_enter Try.func43, Try.ntmps43
  go_wp2
  go_quiet (fail)
  go_wp2
  go_quiet (fail)
  go_wp2
  go_end0
  exact ⟨rfl, (((h.point s (c + 1)).drewN _).point0 s).drewN _, ((((Only.refl _ _).setCell _ _).drewN _).setCell _ _).drewN _⟩

theorem well_up (b i l s c f : Nat) (w : World) (hs : s < l) (hl : l < 1001) (hc : c + 1 = s) (h : Win w b i l s c f) :
    Calls Try.prog 43 #[.pointer (some ⟨b, 0, none⟩)] w fun e w' => e = .returned (.tuple #[]) ∧ Win w' b i l (s + 1) 0 f ∧ Only b w w' := by
  obtain ⟨-, h1, h2, h3⟩ := h.cell
  have hz := h.free 2
  have ha := run_add_i s c (by omega) (by omega)
  have ha1 := run_add_1 s (by omega)
  have ho : (FloatKind.f64.format.order (fl (c + 1)) (fl s) == some .lt) = false := by rw [ord_lt _ _ (by omega) (by omega)]; simp; omega
  have ho1 : (FloatKind.f64.format.order (fl s) (fl l) == some .eq) = false := by rw [ord_eq _ _ (by omega) (by omega)]; simp; omega
  clear hc
  go_enter Try.func43, Try.ntmps43
  go_wp2
  go_quiet (fail)
  go_wp2
  go_quiet (fail)
  go_wp2
  go_end0
  exact ⟨rfl, (((((h.point s (c + 1)).drewN _).point0 s).drewN _).point0 (s + 1)), (((((Only.refl _ _).setCell _ _).drewN _).setCell _ _).drewN _).setCell _ _⟩

theorem revive_yes (b i l c f : Nat) (w : World) (h : Win w b i l 0 c f) :
    Calls Try.prog 18 #[.pointer (some ⟨b, 0, none⟩)] w fun e w' => e = .returned (.bool true) ∧ Win w' b i l i 0 f ∧ Only b w w' := by
  obtain ⟨h0, -, h2, -⟩ := h.cell
  have hz := h.free 2
  go_enter Try.func18, Try.ntmps18
  go_wp2_with (go_at_call 17; refine (dead_run b i l 0 c f w (by omega) h).mono ?_; rintro e w' ⟨rfl, rfl⟩)
  go_ret
  exact ⟨rfl, h.point0 i, (Only.refl _ _).setCell _ _⟩

theorem revive_no (b i l s c f : Nat) (w : World) (hs : s < 1002) (hs0 : 0 < s) (h : Win w b i l s c f) :
    Calls Try.prog 18 #[.pointer (some ⟨b, 0, none⟩)] w fun e w' => e = .returned (.bool false) ∧ Win w' b i l s c f ∧ Only b w w' := by
  have hd : decide (s = 0) = false := by simp; omega
  go_enter Try.func18, Try.ntmps18
  go_wp2_with (go_at_call 17; refine (dead_run b i l s c f w hs h).mono ?_; rintro e w' ⟨rfl, rfl⟩)
  go_ret
  exact ⟨rfl, h, Only.refl _ _⟩

theorem done_none (b i l s c : Nat) (g : Bool) (w : World) (h : Win w b i l s c 0) :
    Calls Try.prog 16 #[.pointer (some ⟨b, 0, none⟩), .bool g] w fun e w' => e = .returned (.int .i64 1) ∧ Win w' b i l s c 0 ∧ Only b w w' := by
  obtain ⟨-, -, -, h3⟩ := h.cell
  go_enter Try.func16, Try.ntmps16
  go_wp2
  go_ret
  exact ⟨rfl, h, Only.refl _ _⟩

theorem done_dead (b i l c f : Nat) (g : Bool) (w : World) (hf : f < 1001) (h : Win w b i l 0 c (f + 1)) :
    Calls Try.prog 16 #[.pointer (some ⟨b, 0, none⟩), .bool g] w fun e w' => e = .returned (.int .i64 0) ∧ Win w' b i l 0 c f ∧ Only b w w' := by
  obtain ⟨-, -, -, h3⟩ := h.cell
  have hz := h.free 3
  have hw := h.flight f
  go_enter Try.func16, Try.ntmps16
  go_wp2_with (go_at_call 17; refine (dead_run b i l 0 c f _ (by omega) hw).mono ?_; rintro e w' ⟨rfl, rfl⟩)
  go_ret
  exact ⟨rfl, hw, (Only.refl _ _).setCell _ _⟩

theorem done_ill (b i l s c f : Nat) (w : World) (hf : f < 1001) (hs : s < 1001) (h : Win w b i l (s + 1) c (f + 1)) :
    Calls Try.prog 16 #[.pointer (some ⟨b, 0, none⟩), .bool false] w fun e w' => e = .returned (.int .i64 0) ∧ Win w' b i l s 0 f ∧ Only b w w' := by
  obtain ⟨-, -, h2, h3⟩ := h.cell
  have hz := h.free 3
  have hz2 := h.free 2
  have hw := h.flight f
  have hd : decide (s + 1 = 0) = false := by simp
  have ha := run_sub_1 s hs
  go_enter Try.func16, Try.ntmps16
  go_wp2_with (go_at_call 17; refine (dead_run b i l (s + 1) c f _ (by omega) hw).mono ?_; rintro e w' ⟨rfl, rfl⟩)
  go_ret
  exact ⟨rfl, hw.point0 s, ((Only.refl _ _).setCell _ _).setCell _ _⟩

theorem done_more (b i l s c f : Nat) (w : World) (hf : f < 1001) (hs : s < 1001) (hc : c + 1 < s) (h : Win w b i l s c (f + 1)) :
    Calls Try.prog 16 #[.pointer (some ⟨b, 0, none⟩), .bool true] w fun e w' => e = .returned (.int .i64 0) ∧ Win w' b i l s (c + 1) f ∧ Only b w w' := by
  obtain ⟨-, -, h2, h3⟩ := h.cell
  have hz := h.free 3
  have hw := h.flight f
  have hd : decide (s = 0) = false := by simp; omega
  go_enter Try.func16, Try.ntmps16
  go_wp2_with (first
    | (go_at_call 17; refine (dead_run b i l s c f _ (by omega) hw).mono ?_; rintro e w' ⟨rfl, rfl⟩)
    | (go_at_call 43; refine (well_more b i l s c f _ hs hc hw).mono ?_; rintro e w1 ⟨rfl, hw1, ho1⟩))
  go_ret
  exact ⟨rfl, hw1, ((Only.refl _ _).setCell _ _).trans ho1⟩

theorem done_top (b i s f : Nat) (w : World) (hf : f < 1001) (hs : s + 1 < 1001) (h : Win w b i (s + 1) (s + 1) s (f + 1)) :
    Calls Try.prog 16 #[.pointer (some ⟨b, 0, none⟩), .bool true] w fun e w' => e = .returned (.int .i64 0) ∧ Win w' b i (s + 1) (s + 1) 0 f ∧ Only b w w' := by
  obtain ⟨-, -, h2, h3⟩ := h.cell
  have hz := h.free 3
  have hw := h.flight f
  have hd : decide (s + 1 = 0) = false := by simp
  go_enter Try.func16, Try.ntmps16
  go_wp2_with (first
    | (go_at_call 17; refine (dead_run b i (s + 1) (s + 1) s f _ (by omega) hw).mono ?_; rintro e w' ⟨rfl, rfl⟩)
    | (go_at_call 43; refine (well_top b i (s + 1) s f _ hs rfl hw).mono ?_; rintro e w1 ⟨rfl, hw1, ho1⟩))
  go_ret
  exact ⟨rfl, hw1, ((Only.refl _ _).setCell _ _).trans ho1⟩

theorem done_up (b i l s f : Nat) (w : World) (hf : f < 1001) (hl : l < 1001) (hs : s + 1 < l) (h : Win w b i l (s + 1) s (f + 1)) :
    Calls Try.prog 16 #[.pointer (some ⟨b, 0, none⟩), .bool true] w fun e w' => e = .returned (.int .i64 0) ∧ Win w' b i l (s + 2) 0 f ∧ Only b w w' := by
  obtain ⟨-, -, h2, h3⟩ := h.cell
  have hz := h.free 3
  have hw := h.flight f
  have hd : decide (s + 1 = 0) = false := by simp
  go_enter Try.func16, Try.ntmps16
  go_wp2_with (first
    | (go_at_call 17; refine (dead_run b i l (s + 1) s f _ (by omega) hw).mono ?_; rintro e w' ⟨rfl, rfl⟩)
    | (go_at_call 43; refine (well_up b i l (s + 1) s f _ hs hl rfl hw).mono ?_; rintro e w1 ⟨rfl, hw1, ho1⟩))
  go_ret
  exact ⟨rfl, hw1, ((Only.refl _ _).setCell _ _).trans ho1⟩

theorem new_ok (i l : Nat) (w : World) (hi : 1 ≤ i) (hil : i ≤ l) (hl : l ≤ 1000) :
    Calls Try.prog 13 #[.int .i64 i, .int .i64 l] w fun e w' => e = .returned (.tuple #[.pointer (some ⟨w.heap.size, 0, none⟩), .int .i64 0]) ∧
      w.alloc (.cells (winCells i l i 0 0) 79) = w' := by
  unfold winCells
  rw [← zero_fl]
  have hc : ∀ (n : Nat) (w : World), (convert 3 38 (.int .i64 n)).run Try.prog w = .ok (.float .f64 (fl n)) w := fun n w =>
    run_convert_int_float w 3 38 .i64 .f64 n (by kernel_rfl) (by kernel_rfl)
  have h1 : decide ((i : Int) < 1) = false := by simp; omega
  have h2 : decide ((l : Int) < (i : Int)) = false := by simp; omega
  have h3 : decide (1000 < (l : Int)) = false := by simp; omega
  go_enter Try.func13, Try.ntmps13
  go_wp2
  go_ret2
  exact ⟨rfl, rfl⟩

theorem new_bad (i l : Int) (w : World) (h : i < 1 ∨ l < i ∨ 1000 < l) :
    Calls Try.prog 13 #[.int .i64 i, .int .i64 l] w fun e w' => e = .returned (.tuple #[.pointer none, .int .i64 1]) ∧ w = w' := by
  by_cases h1 : i < 1
  · have h1' : decide (i < 1) = true := by simpa using h1
    go_enter Try.func13, Try.ntmps13
    go_wp2
    go_ret2
    exact ⟨rfl, rfl⟩
  · by_cases h2 : l < i
    · have h1' : decide (i < 1) = false := by simpa using h1
      have h2' : decide (l < i) = true := by simpa using h2
      go_enter Try.func13, Try.ntmps13
      go_wp2
      go_ret2
      exact ⟨rfl, rfl⟩
    · have h3 : 1000 < l := by omega
      have h1' : decide (i < 1) = false := by simpa using h1
      have h2' : decide (l < i) = false := by simpa using h2
      have h3' : decide (1000 < l) = true := by simpa using h3
      go_enter Try.func13, Try.ntmps13
      go_wp2
      go_ret2
      exact ⟨rfl, rfl⟩

theorem Win.made {w : World} (i l s c f : Nat) : Win (w.alloc (.cells (winCells i l s c f) 79)) w.heap.size i l s c f := by
  unfold Win World.alloc
  simp

theorem Only.below {B b : Nat} {w w' : World} (h : Only b w w') (hb : B ≤ b) : Below B w w' :=
  ⟨h.os, h.tape, h.output, by rw [h.size]; exact Nat.le_refl _, fun k hk => h.block k (by omega)⟩

theorem Win.below {B : Nat} {w w' : World} {b i l s c f : Nat} (h : Win w b i l s c f) (hb : Below B w w') (hB : b < B) : Win w' b i l s c f := by
  unfold Win at *
  rw [hb.block b hB]; exact h

theorem Win.only {w w' : World} {b b' i l s c f : Nat} (h : Win w b i l s c f) (ho : Only b' w w') (hB : b ≠ b') : Win w' b i l s c f := by
  unfold Win at *
  rw [ho.block b hB]; exact h

theorem Win.lt {w : World} {b i l s c f : Nat} (h : Win w b i l s c f) : b < w.heap.size := by
  unfold Win at h
  rcases Nat.lt_or_ge b w.heap.size with h' | h'
  · exact h'
  · rw [Array.getElem?_eq_none h'] at h; cases h

/-- The size and the credit behind a delivery that went well. -/
def upS (l s c : Nat) : Nat := if c + 1 < s then s else min (s + 1) l
def upC (s c : Nat) : Nat := if c + 1 < s then c + 1 else 0

theorem done_well (b i l s c f : Nat) (w : World) (hf : f < 1001) (hl : l < 1001) (hs : s ≤ l) (hc : c < s) (h : Win w b i l s c (f + 1)) :
    Calls Try.prog 16 #[.pointer (some ⟨b, 0, none⟩), .bool true] w fun e w' => e = .returned (.int .i64 0) ∧ Win w' b i l (upS l s c) (upC s c) f ∧ Only b w w' := by
  by_cases h1 : c + 1 < s
  · rw [upS, upC, if_pos h1, if_pos h1]
    exact done_more b i l s c f w hf (by omega) h1 h
  · obtain rfl : s = c + 1 := by omega
    rw [upS, upC, if_neg h1, if_neg h1]
    by_cases h2 : c + 1 = l
    · subst h2
      rw [Nat.min_eq_right (by omega)]
      exact done_top b i c f w hf hl h
    · rw [Nat.min_eq_left (by omega)]
      exact done_up b i l c f w hf hl (by omega) h

theorem awake_run (w : World) : Calls Try.prog 12 #[] w fun e w' => e = .returned (.bool true) ∧ Below w.heap.size w w' := by
  go_enter Try.func12, Try.ntmps12
  go_wp2_with (first
    | (go_at_call 13; refine (new_ok 1 1 w (by omega) (by omega) (by omega)).mono ?_; rintro e w' ⟨rfl, rfl⟩)
    | (go_at_call 15; refine (take_yes w.heap.size 1 1 1 0 0 _ (by omega) (by omega) (Win.made ..)).mono ?_; rintro e w1 ⟨rfl, hw1, ho1⟩)
    | (go_at_call 25; refine (flight_run w.heap.size 1 1 1 0 1 _ hw1).mono ?_; rintro e w' ⟨rfl, rfl⟩))
  go_ret
  exact ⟨rfl, ((Below.refl _ _).alloc (Nat.le_refl _) _).trans (ho1.below (Nat.le_refl _))⟩

end Go.Proofs.Ytnakafmlenngnaa.Wi
