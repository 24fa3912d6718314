/- The contracts of the document's window, and of the law's same. -/
import Derived.Test.YtnakafmlenngnaaWin
namespace Go.Proofs.Ytnakafmlenngnaa.Wi
open Go.RowKit Go.Proofs.Ytnakafmlenngnaa.Fl

/-- The five cells of the document's window. -/
def refCells (i l s c f : Nat) : Array Value := #[.int .i64 i, .int .i64 l, .int .i64 s, .int .i64 c, .int .i64 f]

def Ref (w : World) (b i l s c f : Nat) : Prop := w.heap[b]? = some (.cells (refCells i l s c f) 81 (0, 0))

theorem Ref.cell {w : World} {b i l s c f : Nat} (h : Ref w b i l s c f) :
    w.cell? ⟨b, 0, none⟩ = some (.int .i64 i) ∧ w.cell? ⟨b, 1, none⟩ = some (.int .i64 l) ∧
    w.cell? ⟨b, 2, none⟩ = some (.int .i64 s) ∧ w.cell? ⟨b, 3, none⟩ = some (.int .i64 c) ∧ w.cell? ⟨b, 4, none⟩ = some (.int .i64 f) := by
  unfold Ref at h
  simp [World.cell?, h, refCells]

theorem Ref.free {w : World} {b i l s c f : Nat} (h : Ref w b i l s c f) (o : Nat) : w.frozen? ⟨b, o, none⟩ = false := by
  unfold Ref at h
  simp [World.frozen?, h]

theorem Ref.drewN {w : World} {b i l s c f : Nat} (n : Nat) (h : Ref w b i l s c f) : Ref (w.drewN n) b i l s c f := h
theorem Ref.setS {w : World} {b i l s c f : Nat} (h : Ref w b i l s c f) (x : Nat) : Ref (w.setCell ⟨b, 2, none⟩ (.int .i64 x)) b i l x c f := by
  unfold Ref at *
  simp [World.setCell, Array.getElem?_modify, h, refCells]
theorem Ref.setC {w : World} {b i l s c f : Nat} (h : Ref w b i l s c f) (x : Nat) : Ref (w.setCell ⟨b, 3, none⟩ (.int .i64 x)) b i l s x f := by
  unfold Ref at *
  simp [World.setCell, Array.getElem?_modify, h, refCells]
theorem Ref.setF {w : World} {b i l s c f : Nat} (h : Ref w b i l s c f) (x : Nat) : Ref (w.setCell ⟨b, 4, none⟩ (.int .i64 x)) b i l s c x := by
  unfold Ref at *
  simp [World.setCell, Array.getElem?_modify, h, refCells]
theorem Ref.only {w w' : World} {b b' i l s c f : Nat} (h : Ref w b i l s c f) (ho : Only b' w w') (hB : b ≠ b') : Ref w' b i l s c f := by
  unfold Ref at *
  rw [ho.block b hB]; exact h
theorem Ref.made {w : World} (i l s c f : Nat) : Ref (w.alloc (.cells (refCells i l s c f) 81)) w.heap.size i l s c f := by
  unfold Ref World.alloc
  simp

theorem rnew_ok (i l : Nat) (w : World) (hi : 1 ≤ i) (hil : i ≤ l) (hl : l ≤ 1000) :
    Calls Try.prog 19 #[.int .i64 i, .int .i64 l] w fun e w' => e = .returned (.tuple #[.pointer (some ⟨w.heap.size, 0, none⟩), .int .i64 0]) ∧
      w.alloc (.cells (refCells i l i 0 0) 81) = w' := by
  unfold refCells
  have h1 : decide ((i : Int) < 1) = false := by simp; omega
  have h2 : decide ((l : Int) < (i : Int)) = false := by simp; omega
  have h3 : decide (1000 < (l : Int)) = false := by simp; omega
  go_enter Try.func19, Try.ntmps19
  go_wp2
  go_ret2
  exact ⟨rfl, rfl⟩

theorem rnew_bad (i l : Int) (w : World) (h : i < 1 ∨ l < i ∨ 1000 < l) :
    Calls Try.prog 19 #[.int .i64 i, .int .i64 l] w fun e w' => e = .returned (.tuple #[.pointer none, .int .i64 1]) ∧ w = w' := by
  rcases (by omega : i < 1 ∨ (¬ i < 1 ∧ l < i) ∨ (¬ i < 1 ∧ ¬ l < i ∧ 1000 < l)) with h1 | ⟨h1, h2⟩ | ⟨h1, h2, h3⟩
  · have h1' : decide (i < 1) = true := by simpa using h1
    go_enter Try.func19, Try.ntmps19
    go_wp2
    go_ret2
    exact ⟨rfl, rfl⟩
  · have h1' : decide (i < 1) = false := by simpa using h1
    have h2' : decide (l < i) = true := by simpa using h2
    go_enter Try.func19, Try.ntmps19
    go_wp2
    go_ret2
    exact ⟨rfl, rfl⟩
  · have h1' : decide (i < 1) = false := by simpa using h1
    have h2' : decide (l < i) = false := by simpa using h2
    have h3' : decide (1000 < l) = true := by simpa using h3
    go_enter Try.func19, Try.ntmps19
    go_wp2
    go_ret2
    exact ⟨rfl, rfl⟩

theorem rtake_yes (b i l s c f : Nat) (w : World) (hs : s < 1002) (hf : f < s) (h : Ref w b i l s c f) :
    Calls Try.prog 20 #[.pointer (some ⟨b, 0, none⟩)] w fun e w' => e = .returned (.bool true) ∧ Ref w' b i l s c (f + 1) ∧ Only b w w' := by
  obtain ⟨-, -, h2, -, h4⟩ := h.cell
  have hz := h.free 4
  have hd : decide ((s : Int) ≤ (f : Int)) = false := by simp; omega
  go_enter Try.func20, Try.ntmps20
  go_wp2
  go_quiet (fail)
  go_wp2
  go_ret
  exact ⟨rfl, (h.drewN _).setF (f + 1), ((Only.refl _ _).drewN _).setCell _ _⟩

theorem rtake_no (b i l s c f : Nat) (w : World) (hf : s ≤ f) (h : Ref w b i l s c f) :
    Calls Try.prog 20 #[.pointer (some ⟨b, 0, none⟩)] w fun e w' => e = .returned (.bool false) ∧ Ref w' b i l s c f ∧ Only b w w' := by
  obtain ⟨-, -, h2, -, h4⟩ := h.cell
  have hd : decide ((s : Int) ≤ (f : Int)) = true := by simp; omega
  go_enter Try.func20, Try.ntmps20
  go_wp2
  go_quiet (fail)
  go_wp2
  go_ret
  exact ⟨rfl, h.drewN _, (Only.refl _ _).drewN _⟩

theorem rrevive_yes (b i l c f : Nat) (w : World) (h : Ref w b i l 0 c f) :
    Calls Try.prog 22 #[.pointer (some ⟨b, 0, none⟩)] w fun e w' => e = .returned (.bool true) ∧ Ref w' b i l i 0 f ∧ Only b w w' := by
  obtain ⟨h0, -, h2, h3, -⟩ := h.cell
  have hz := h.free 2
  have hz3 := h.free 3
  go_enter Try.func22, Try.ntmps22
  go_wp2
  go_ret
  exact ⟨rfl, (h.setS i).setC 0, ((Only.refl _ _).setCell _ _).setCell _ _⟩

theorem rrevive_no (b i l s c f : Nat) (w : World) (hs0 : 0 < s) (h : Ref w b i l s c f) :
    Calls Try.prog 22 #[.pointer (some ⟨b, 0, none⟩)] w fun e w' => e = .returned (.bool false) ∧ Ref w' b i l s c f ∧ Only b w w' := by
  obtain ⟨h0, -, h2, h3, -⟩ := h.cell
  go_enter Try.func22, Try.ntmps22
  go_wp2
  go_ret
  exact ⟨rfl, h, Only.refl _ _⟩

theorem rdone_none (b i l s c : Nat) (g : Bool) (w : World) (h : Ref w b i l s c 0) :
    Calls Try.prog 21 #[.pointer (some ⟨b, 0, none⟩), .bool g] w fun e w' => e = .returned (.int .i64 1) ∧ Ref w' b i l s c 0 ∧ Only b w w' := by
  obtain ⟨-, -, -, -, h4⟩ := h.cell
  go_enter Try.func21, Try.ntmps21
  go_wp2
  go_ret
  exact ⟨rfl, h, Only.refl _ _⟩

theorem rdone_dead (b i l c f : Nat) (g : Bool) (w : World) (hf : f < 1001) (h : Ref w b i l 0 c (f + 1)) :
    Calls Try.prog 21 #[.pointer (some ⟨b, 0, none⟩), .bool g] w fun e w' => e = .returned (.int .i64 0) ∧ Ref w' b i l 0 c f ∧ Only b w w' := by
  obtain ⟨-, -, h2, -, h4⟩ := h.cell
  have hz := h.free 4
  go_enter Try.func21, Try.ntmps21
  go_wp2
  go_ret
  exact ⟨rfl, h.setF f, (Only.refl _ _).setCell _ _⟩

theorem rdone_ill (b i l s c f : Nat) (w : World) (hf : f < 1001) (hs : s < 1001) (h : Ref w b i l (s + 1) c (f + 1)) :
    Calls Try.prog 21 #[.pointer (some ⟨b, 0, none⟩), .bool false] w fun e w' => e = .returned (.int .i64 0) ∧ Ref w' b i l s 0 f ∧ Only b w w' := by
  obtain ⟨-, -, h2, h3, h4⟩ := h.cell
  have hz := h.free 4
  have hz2 := h.free 2
  have hz3 := h.free 3
  go_enter Try.func21, Try.ntmps21
  go_wp2
  go_ret
  exact ⟨rfl, ((h.setF f).setS s).setC 0, (((Only.refl _ _).setCell _ _).setCell _ _).setCell _ _⟩

theorem rdone_more (b i l s c f : Nat) (w : World) (hf : f < 1001) (hs : s < 1001) (hc : c + 1 < s) (h : Ref w b i l s c (f + 1)) :
    Calls Try.prog 21 #[.pointer (some ⟨b, 0, none⟩), .bool true] w fun e w' => e = .returned (.int .i64 0) ∧ Ref w' b i l s (c + 1) f ∧ Only b w w' := by
  obtain ⟨-, -, h2, h3, h4⟩ := h.cell
  have hz := h.free 4
  have hz3 := h.free 3
  go_enter Try.func21, Try.ntmps21
  go_wp2
  go_quiet (fail)
  go_wp2
  go_ret
  exact ⟨rfl, ((h.setF f).setC (c + 1)).drewN _, (((Only.refl _ _).setCell _ _).setCell _ _).drewN _⟩

theorem rdone_top (b i s f : Nat) (w : World) (hf : f < 1001) (hs : s < 1001) (h : Ref w b i (s + 1) (s + 1) s (f + 1)) :
    Calls Try.prog 21 #[.pointer (some ⟨b, 0, none⟩), .bool true] w fun e w' => e = .returned (.int .i64 0) ∧ Ref w' b i (s + 1) (s + 1) 0 f ∧ Only b w w' := by
  obtain ⟨-, h1, h2, h3, h4⟩ := h.cell
  have hz := h.free 4
  have hz2 := h.free 2
  have hz3 := h.free 3
  have hm : (s : Int) + 1 < s + 1 + 1 := by omega
  go_enter Try.func21, Try.ntmps21
  go_wp2
  go_quiet (fail)
  go_wp2
  go_region
  go_wp2
  go_ret
  exact ⟨rfl, ((((h.setF f).setC (s + 1)).drewN _).setS (s + 1)).setC 0, (((((Only.refl _ _).setCell _ _).setCell _ _).drewN _).setCell _ _).setCell _ _⟩

theorem rdone_up (b i l s f : Nat) (w : World) (hf : f < 1001) (hs : s + 1 < l) (hl2 : l < 1001) (h : Ref w b i l (s + 1) s (f + 1)) :
    Calls Try.prog 21 #[.pointer (some ⟨b, 0, none⟩), .bool true] w fun e w' => e = .returned (.int .i64 0) ∧ Ref w' b i l (s + 2) 0 f ∧ Only b w w' := by
  obtain ⟨-, h1, h2, h3, h4⟩ := h.cell
  have hz := h.free 4
  have hz2 := h.free 2
  have hz3 := h.free 3
  have hm : ¬ (l : Int) < s + 1 + 1 := by omega
  go_enter Try.func21, Try.ntmps21
  go_wp2
  go_quiet (fail)
  go_wp2
  go_region
  go_wp2
  go_ret
  exact ⟨rfl, ((((h.setF f).setC (s + 1)).drewN _).setS (s + 2)).setC 0, (((((Only.refl _ _).setCell _ _).setCell _ _).drewN _).setCell _ _).setCell _ _⟩

theorem rdone_well (b i l s c f : Nat) (w : World) (hf : f < 1001) (hl : l < 1001) (hs : s ≤ l) (hc : c < s) (h : Ref w b i l s c (f + 1)) :
    Calls Try.prog 21 #[.pointer (some ⟨b, 0, none⟩), .bool true] w fun e w' => e = .returned (.int .i64 0) ∧ Ref w' b i l (upS l s c) (upC s c) f ∧ Only b w w' := by
  by_cases h1 : c + 1 < s
  · rw [upS, upC, if_pos h1, if_pos h1]
    exact rdone_more b i l s c f w hf (by omega) h1 h
  · obtain rfl : s = c + 1 := by omega
    rw [upS, upC, if_neg h1, if_neg h1]
    by_cases h2 : c + 1 = l
    · subst h2
      rw [Nat.min_eq_right (by omega)]
      exact rdone_top b i c f w hf (by omega) h
    · rw [Nat.min_eq_left (by omega)]
      exact rdone_up b i l c f w hf (by omega) hl h

theorem same_run (b br i l s c f : Nat) (w : World) (hs : s < 1002) (hc : c < 1002) (h : Win w b i l s c f) (hr : Ref w br i l s c f) :
    Calls Try.prog 23 #[.pointer (some ⟨b, 0, none⟩), .pointer (some ⟨br, 0, none⟩)] w fun e w' => e = .returned (.bool true) ∧ w = w' := by
  obtain ⟨-, -, h2, h3, h4⟩ := hr.cell
  have hcv : ∀ (n : Nat) (w : World), (convert 3 38 (.int .i64 n)).run Try.prog w = .ok (.float .f64 (fl n)) w := fun n w =>
    run_convert_int_float w 3 38 .i64 .f64 n (by kernel_rfl) (by kernel_rfl)
  have e1 : (FloatKind.f64.format.order (fl s) (fl s) == some .eq) = true := by rw [ord_eq _ _ hs hs]; simp
  have e2 : (FloatKind.f64.format.order (fl c) (fl c) == some .eq) = true := by rw [ord_eq _ _ hc hc]; simp
  have e3 : (decide (s = 0) == ((s : Int) == 0)) = true := by
    by_cases h : s = 0
    · subst h; rfl
    · simp [h]
  have e4 : ((s : Int) == s) = true := by simp
  have e5 : ((f : Int) == f) = true := by simp
  go_enter Try.func23, Try.ntmps23
  go_wp2_with (first
    | (go_at_call 24; refine (point_run b i l s c f _ h).mono ?_; rintro e w' ⟨rfl, rfl⟩)
    | (go_at_call 14; refine (size_run b i l s c f _ hs h).mono ?_; rintro e w' ⟨rfl, rfl⟩)
    | (go_at_call 25; refine (flight_run b i l s c f _ h).mono ?_; rintro e w' ⟨rfl, rfl⟩)
    | (go_at_call 17; refine (dead_run b i l s c f _ hs h).mono ?_; rintro e w' ⟨rfl, rfl⟩))
  go_ret
  exact ⟨rfl, rfl⟩
end Go.Proofs.Ytnakafmlenngnaa.Wi
