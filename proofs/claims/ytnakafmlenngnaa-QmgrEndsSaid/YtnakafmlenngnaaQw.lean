/- New. -/
import Derived.Test.YtnakafmlenngnaaQk
namespace Go.Proofs.Ytnakafmlenngnaa.Qm
open Go.RowKit Go.Proofs.Ytnakafmlenngnaa.Wi

def limV (a i l mi ma li : Int) : Value := .agg #[.int .i64 a, .int .i64 i, .int .i64 l, .int .i64 mi, .int .i64 ma, .int .i64 li]
def Lm.v (l : Lm) : Value := limV l.active l.ini l.lim l.minb l.maxb l.life

def begin0 (l : Lm) : Qs := ⟨l, [], [], 0, []⟩

def NewPost (l : Lm) (w : World) (e : Ending) (w' : World) : Prop :=
  ∃ mb L F, e = .returned (.tuple #[.pointer (some ⟨mb, 0, none⟩), .int .i64 0]) ∧ Mg w' mb L F ∧ L.q = begin0 l ∧ Ext (fun _ => False) w w' ∧ ∀ k, F k → w.heap.size ≤ k

theorem istime_one (w : World) (g : Nat) (a : Int) (b : Bool) (h : isT a = b) (hg : w.cell? ⟨g, 0, none⟩ = some (.int .i64 a)) : Calls Try.prog 44 #[.slice (some ⟨g, 0, none⟩) 1 1] w fun e w' => e = .returned (.bool b) ∧ w = w' := by
  have hlt : g < w.heap.size := by
    rcases Nat.lt_or_ge g w.heap.size with f | f
    · exact f
    · simp [World.cell?, Array.getElem?_eq_none f] at hg
  refine (istime_run (some ⟨g, 0, none⟩) 1 1 (fun _ => a) _ ⟨by omega, fun k hk => ⟨g, 0, rfl, hlt, ?_⟩⟩).mono ?_
  · obtain rfl : k = 0 := by omega
    exact hg
  · rintro e w' ⟨⟨c, rfl, hc⟩, hw⟩
    refine ⟨?_, hw⟩
    have : c = b := by
      rw [← h, Bool.eq_iff_iff, hc]
      exact ⟨fun f => f 0 (by omega), fun f _ _ => f⟩
    rw [this]
theorem istime_two (w : World) (g : Nat) (a c : Int) (b : Bool) (h : (isT a && isT c) = b) (hg : w.cell? ⟨g, 0, none⟩ = some (.int .i64 a)) (hg1 : w.cell? ⟨g, 1, none⟩ = some (.int .i64 c)) : Calls Try.prog 44 #[.slice (some ⟨g, 0, none⟩) 2 2] w fun e w' => e = .returned (.bool b) ∧ w = w' := by
  have hlt : g < w.heap.size := by
    rcases Nat.lt_or_ge g w.heap.size with f | f
    · exact f
    · simp [World.cell?, Array.getElem?_eq_none f] at hg
  refine (istime_run (some ⟨g, 0, none⟩) 2 2 (fun k => if k = 0 then a else c) _ ⟨by omega, fun k hk => ⟨g, 0, rfl, hlt, ?_⟩⟩).mono ?_
  · rcases (by omega : k = 0 ∨ k = 1) with rfl | rfl
    · exact hg
    · exact hg1
  · rintro e w' ⟨⟨c', rfl, hc⟩, hw⟩
    refine ⟨?_, hw⟩
    have : c' = b := by
      rw [← h, Bool.eq_iff_iff, hc, Bool.and_eq_true]
      refine ⟨fun f => ⟨by simpa using f 0 (by omega), by simpa using f 1 (by omega)⟩, fun f k hk => ?_⟩
      rcases (by omega : k = 0 ∨ k = 1) with rfl | rfl
      · simpa using f.1
      · simpa using f.2
    rw [this]

/-- The world that New leaves. -/
def newW (a : Int) (i m : Nat) (mi ma li : Int) (w : World) : World :=
  ((((w.alloc (.cells #[.int .i64 a, .int .i64 (i : Nat), .int .i64 (m : Nat), .int .i64 mi, .int .i64 ma, .int .i64 li] 43)).alloc (.cells (winCells i m i 0 0) 79)).alloc (.cells #[.int .i64 li] 3)).alloc (.map #[] 0)).alloc
    (.cells #[.int .i64 a, .int .i64 (i : Nat), .int .i64 (m : Nat), .int .i64 mi, .int .i64 ma, .int .i64 li, .slice none 0 0, .slice none 0 0, .map (some (w.heap.size + 3)), .int .i64 0, .slice none 0 0] 87)

theorem new_mg (l : Lm) (hl : l.Ok) (w : World) : NewPost l w (.returned (.tuple #[.pointer (some ⟨w.heap.size + 4, 0, none⟩), .int .i64 0])) (newW l.active l.ini l.lim l.minb l.maxb l.life w) := by
  refine ⟨w.heap.size + 4, ⟨l, w.heap.size + 3, .slice none 0 0, .slice none 0 0, .slice none 0 0, [], [], 0, []⟩, fun k => k = w.heap.size + 4 ∨ k = w.heap.size + 3, rfl, ⟨⟨?_, fun z hz => (by cases hz), fun z hz => (by cases hz), World.ownsRow_nil _ _ _ _, ?_, World.ownsRow_nil _ _ _ _, fun z hz => (by cases hz), hl, Nat.le_refl _, List.Pairwise.nil, List.Pairwise.nil, ⟨.inl rfl, .inr rfl⟩, fun z hz => (by cases hz), fun z hz => (by cases hz), fun z hz => (by cases hz), ⟨fun g hg => (by cases hg), fun g hg => (by cases hg), fun g hg => (by cases hg)⟩, fun k hk => ?_⟩, World.ownsRow_nil _ _ _ _⟩, rfl, ?_, fun k hk => ?_⟩
  · unfold newW
    have e : ((((w.alloc (.cells #[.int .i64 l.active, .int .i64 (l.ini : Nat), .int .i64 (l.lim : Nat), .int .i64 l.minb, .int .i64 l.maxb, .int .i64 l.life] 43)).alloc (.cells (winCells l.ini l.lim l.ini 0 0) 79)).alloc (.cells #[.int .i64 l.life] 3)).alloc (.map #[] 0)).heap.size = w.heap.size + 4 := by simp
    rw [← e]
    exact (MapKept.heap_alloc _ _).1
  · refine ⟨#[], 0, ?_, rfl⟩
    unfold newW
    have e : (((w.alloc (.cells #[.int .i64 l.active, .int .i64 (l.ini : Nat), .int .i64 (l.lim : Nat), .int .i64 l.minb, .int .i64 l.maxb, .int .i64 l.life] 43)).alloc (.cells (winCells l.ini l.lim l.ini 0 0) 79)).alloc (.cells #[.int .i64 l.life] 3)).heap.size = w.heap.size + 3 := by simp
    dsimp only
    rw [Below.heap_alloc _ _ _ (by simp), ← e]
    exact (MapKept.heap_alloc _ _).1
  · unfold newW
    rcases hk with rfl | rfl <;> simp
  · exact (((((Ext.refl _ _).alloc _).alloc _).alloc _).alloc _).alloc _
  · rcases hk with rfl | rfl <;> omega

set_option maxHeartbeats 4000000 in
set_option maxRecDepth 100000 in
theorem new_ok_run (l : Lm) (hl : l.Ok) (w : World) : Calls Try.prog 27 #[l.v] w (NewPost l w) := by
  obtain ⟨a, i, m, mi, ma, li⟩ := l
  have hl' := hl
  obtain ⟨l1, l2, l3, l4, l5, l6, l7, l8, l9, l10⟩ := hl'
  dsimp only at l1 l2 l3 l4 l5 l6 l7 l8 l9 l10
  have HN := (show Hid (∀ W, Calls Try.prog 13 #[.int .i64 (i : Nat), .int .i64 (m : Nat)] W fun e w' => e = .returned (.tuple #[.pointer (some ⟨W.heap.size, 0, none⟩), .int .i64 0]) ∧ W.alloc (.cells (winCells i m i 0 0) 79) = w') from fun W => new_ok i m W (by omega) (by omega) (by omega))
  have HT := (show Hid (∀ (W : World) (g : Nat), W.cell? ⟨g, 0, none⟩ = some (.int .i64 li) → Calls Try.prog 44 #[.slice (some ⟨g, 0, none⟩) 1 1] W fun e w' => e = .returned (.bool true) ∧ W = w') from fun W g hg => istime_one W g li true (by unfold isT; simp; omega) hg)
  have HP := hid (new_mg ⟨a, i, m, mi, ma, li⟩ hl w)
  unfold newW at HP
  clear hl
  unfold Lm.v limV
  dsimp only
  have hmm := @run_makeMap Try.prog
  have d1 : decide (a < 1) = false := by simp; omega
  have d2 : decide (100 < a) = false := by simp; omega
  have d3 : decide (mi < 1) = false := by simp; omega
  have d4 : decide (ma < mi) = false := by simp; omega
  have d5 : decide (1000000 < ma) = false := by simp; omega
  clear l1 l2 l3 l4 l5 l6 l7 l8 l9 l10
  go_enter Try.func27, Try.ntmps27
  go_wp2_with (first | (go_at_call 13; refine (HN.out _).mono ?_; rintro e w1 ⟨rfl, rfl⟩) | (go_at_call 44; refine (HT.out _ _ ?_).mono ?_; (go_simp); rintro e w1 ⟨rfl, rfl⟩))
  go_ret2
  exact HP.out

def okLim (a i l mi ma li : Int) : Bool := decide (1 ≤ a) && decide (a ≤ 100) && decide (1 ≤ i) && decide (i ≤ l) && decide (l ≤ 1000) && decide (1 ≤ mi) && decide (mi ≤ ma) && decide (ma ≤ 1000000) && isT li

theorem okLim_ok {a i l mi ma li : Int} (h : okLim a i l mi ma li = true) : ∃ lm : Lm, lm.Ok ∧ lm.v = limV a i l mi ma li ∧ lm.active = a ∧ (lm.ini : Int) = i ∧ (lm.lim : Int) = l ∧ lm.minb = mi ∧ lm.maxb = ma ∧ lm.life = li := by
  simp only [okLim, isT, Bool.and_eq_true, decide_eq_true_eq] at h
  obtain ⟨⟨⟨⟨⟨⟨⟨⟨h1, h2⟩, h3⟩, h4⟩, h5⟩, h6⟩, h7⟩, h8⟩, h9, h10⟩ := h
  obtain ⟨i, rfl⟩ := Int.eq_ofNat_of_zero_le (show 0 ≤ i by omega)
  obtain ⟨l, rfl⟩ := Int.eq_ofNat_of_zero_le (show 0 ≤ l by omega)
  exact ⟨⟨a, i, l, mi, ma, li⟩, ⟨h1, h2, by dsimp only; omega, by dsimp only; omega, by dsimp only; omega, h6, h7, h8, h9, h10⟩, rfl, rfl, rfl, rfl, rfl, rfl, rfl⟩

set_option maxHeartbeats 4000000 in
set_option maxRecDepth 100000 in
theorem new_bad_run (a i l mi ma li : Int) (h : okLim a i l mi ma li = false) (w : World) : Calls Try.prog 27 #[limV a i l mi ma li] w (QuietPost (.tuple #[.pointer none, .int .i64 1]) w) := by
  unfold limV
  by_cases hw : i < 1 ∨ l < i ∨ 1000 < l
  · have HN := (show Hid (∀ W, Calls Try.prog 13 #[.int .i64 i, .int .i64 l] W fun e w' => e = .returned (.tuple #[.pointer none, .int .i64 1]) ∧ W = w') from fun W => new_bad i l W hw)
    clear hw h
    go_enter Try.func27, Try.ntmps27
    go_wp2_with (first | (go_at_call 13; refine (HN.out _).mono ?_; rintro e w1 ⟨rfl, rfl⟩))
    go_ret2
    exact ⟨rfl, (Ext.refl _ _).alloc _⟩
  obtain ⟨i, rfl⟩ := Int.eq_ofNat_of_zero_le (show 0 ≤ i by omega)
  obtain ⟨l, rfl⟩ := Int.eq_ofNat_of_zero_le (show 0 ≤ l by omega)
  have HN := (show Hid (∀ W, Calls Try.prog 13 #[.int .i64 (i : Nat), .int .i64 (l : Nat)] W fun e w' => e = .returned (.tuple #[.pointer (some ⟨W.heap.size, 0, none⟩), .int .i64 0]) ∧ W.alloc (.cells (winCells i l i 0 0) 79) = w') from fun W => new_ok i l W (by omega) (by omega) (by omega))
  have HT := (show Hid (isT li = false → ∀ (W : World) (g : Nat), W.cell? ⟨g, 0, none⟩ = some (.int .i64 li) → Calls Try.prog 44 #[.slice (some ⟨g, 0, none⟩) 1 1] W fun e w' => e = .returned (.bool false) ∧ W = w') from fun h W g hg => istime_one W g li false h hg)
  have hc : a < 1 ∨ (¬ a < 1 ∧ 100 < a) ∨ (¬ a < 1 ∧ ¬ 100 < a ∧ mi < 1) ∨ (¬ a < 1 ∧ ¬ 100 < a ∧ ¬ mi < 1 ∧ ma < mi) ∨ (¬ a < 1 ∧ ¬ 100 < a ∧ ¬ mi < 1 ∧ ¬ ma < mi ∧ 1000000 < ma) ∨ (¬ a < 1 ∧ ¬ 100 < a ∧ ¬ mi < 1 ∧ ¬ ma < mi ∧ ¬ 1000000 < ma ∧ isT li = false) := by
    cases ht : isT li with
    | false =>
      simp only [and_true]
      omega
    | true =>
      have : ¬ (1 ≤ a ∧ a ≤ 100 ∧ 1 ≤ mi ∧ mi ≤ ma ∧ ma ≤ 1000000) := by
        rintro ⟨h1, h2, h3, h4, h5⟩
        have : okLim a i l mi ma li = true := by
          simp only [okLim, ht, Bool.and_eq_true, decide_eq_true_eq, and_true]
          omega
        rw [this] at h
        cases h
      omega
  clear hw h
  rcases hc with h1 | ⟨h1, h2⟩ | ⟨h1, h2, h3⟩ | ⟨h1, h2, h3, h4⟩ | ⟨h1, h2, h3, h4, h5⟩ | ⟨h1, h2, h3, h4, h5, h6⟩
  all_goals
    go_enter Try.func27, Try.ntmps27
    go_wp2_with (first | (go_at_call 13; refine (HN.out _).mono ?_; rintro e w1 ⟨rfl, rfl⟩) | (go_at_call 44; refine (HT.out h6 _ _ ?_).mono ?_; (go_simp); rintro e w1 ⟨rfl, rfl⟩))
    go_ret2
    first | exact ⟨rfl, ((Ext.refl _ _).alloc _).alloc _⟩ | exact ⟨rfl, (((Ext.refl _ _).alloc _).alloc _).alloc _⟩
end Go.Proofs.Ytnakafmlenngnaa.Qm
