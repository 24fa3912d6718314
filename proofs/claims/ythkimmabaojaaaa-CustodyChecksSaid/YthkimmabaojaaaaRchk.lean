/- The document's machine: any deed; Check. -/
import Derived.Test.YthkimmabaojaaaaRacc
import Derived.Test.YthkimmabaojaaaaChk2
namespace Go.Proofs.Ythkimmabaojaaaa.Rf
open Go.RowKit Go.Proofs.Ythkimmabaojaaaa.Cu Go.Proofs.Ythkimmabaojaaaa.Cm Go.Proofs.Ythkimmabaojaaaa.Cl Go.Proofs.Ythkimmabaojaaaa.Ck Go.Proofs.Ythkimmabaojaaaa.Cc

set_option maxRecDepth 100000 in
theorem rdo_bad (rb : Nat) (d : Dd) (w : World) (hb : d.kind < 1 ∨ 9 < d.kind ∨ d.id.size < 1 ∨ 32 < d.id.size) :
    Calls Try.prog 21 #[.pointer (some ⟨rb, 0, none⟩), ddV d] w fun e w' => e = .returned (.int .i64 1) ∧ Ext (fun _ => False) w w' := by
  unfold ddV
  rcases (by omega : d.kind < 1 ∨ (¬ d.kind < 1 ∧ 9 < d.kind) ∨ (¬ d.kind < 1 ∧ ¬ 9 < d.kind ∧ d.id.size < 1) ∨ (¬ d.kind < 1 ∧ ¬ 9 < d.kind ∧ ¬ d.id.size < 1 ∧ 32 < d.id.size)) with h1 | ⟨h1, h2⟩ | ⟨h1, h2, h3⟩ | ⟨h1, h2, h3, h4⟩
  all_goals
    go_enter Try.func21, Try.ntmps21
    go_wp2_with fail
    go_ret
    exact ⟨rfl, (Ext.refl _ _).alloc _⟩

set_option maxRecDepth 100000 in
theorem rdo_no (rb B T : Nat) (es : List REnt) (d : Dd) (w : World) (h : RMach w rb B es T) (hk1 : 1 ≤ d.kind) (hk2 : d.kind ≤ 9) (hi1 : 1 ≤ d.id.size) (hi2 : d.id.size ≤ 32) (hS : mayS (absR es) d = false) :
    Calls Try.prog 21 #[.pointer (some ⟨rb, 0, none⟩), ddV d] w fun e w' => e = .returned (.int .i64 250) ∧ Ext (fun _ => False) w w' := by
  have HM := (show Hid (Calls Try.prog 26 #[.pointer (some ⟨rb, 0, none⟩), ddV d] (w.alloc (ddO d)) fun e w' => e = .returned (.bool false) ∧ Ext (fun _ => False) (w.alloc (ddO d)) w') from by
    have := rmay_run rb B T es d _ (h.grow ((Ext.refl _ w).alloc (ddO d))) hk1 hk2
    rw [hS] at this; exact this)
  unfold ddO at HM
  unfold ddV at HM ⊢
  clear hS h
  go_enter Try.func21, Try.ntmps21
  go_wp2_with fail
  refine HM.out.mono ?_
  rintro en w1 ⟨rfl, hx1⟩
  go_wp2_with fail
  go_ret
  exact ⟨rfl, ((Ext.refl _ _).alloc _).trans hx1⟩

/-- Behind Do. -/
def StepR (rb B T : Nat) (es : List REnt) (d : Dd) (w : World) (e : Ending) (w' : World) : Prop :=
  e = .returned (.int .i64 (stepE (absR es) d)) ∧ (∃ es', RMach w' rb B es' (T + 1) ∧ absR es' = stepS (absR es) d ∧ es'.length ≤ es.length + 1) ∧ Below B w w'

theorem rdeed_run (rb B T : Nat) (es : List REnt) (d : Dd) (w : World) (h : RMach w rb B es T) (hT : T + 1 ≤ 100000) (hes : es.length + 1 ≤ 100000) :
    Calls Try.prog 21 #[.pointer (some ⟨rb, 0, none⟩), ddV d] w (StepR rb B T es d w) := by
  have hB : B ≤ w.heap.size := by
    obtain ⟨v, h1, -⟩ := h.mach
    have := (Array.getElem?_eq_some_iff.1 h1).1
    have := h.own
    omega
  have hkeep : ∀ w', Ext (fun _ => False) w w' → (∃ es', RMach w' rb B es' (T + 1) ∧ absR es' = absR es ∧ es'.length ≤ es.length + 1) ∧ Below B w w' := fun w' hx => by
    have := h.grow hx
    exact ⟨⟨es, ⟨this.mach, fun e he => (this.cares e he).mono (Nat.le_succ _) hT, this.sep, this.own, this.few⟩, rfl, Nat.le_succ _⟩, hx.below hB fun _ f => f.elim⟩
  unfold StepR
  by_cases hb : d.kind < 1 ∨ 9 < d.kind ∨ d.id.size < 1 ∨ 32 < d.id.size
  · rw [stepE, stepS, if_pos hb, if_pos hb]
    refine (rdo_bad rb d w hb).mono ?_
    rintro e w' ⟨rfl, hx⟩
    exact ⟨rfl, hkeep w' hx⟩
  rw [stepE, stepS, if_neg hb, if_neg hb]
  by_cases hk : d.kind = 1
  · rw [if_pos hk, if_pos hk]
    by_cases hbad : (findM (absR es) d.id).isSome ∨ d.count < 1 ∨ 200 < d.count
    · rw [if_pos hbad, if_pos hbad]
      refine (rdo_no rb B T es d w h (by omega) (by omega) (by omega) (by omega) ?_).mono ?_
      · rw [mayS, if_pos hk]
        rcases hbad with f | f | f
        · cases hfm : findM (absR es) d.id with
          | none => rw [hfm] at f; cases f
          | some c => rfl
        · rw [decide_eq_false (by omega : ¬ 1 ≤ d.count)]; simp
        · rw [decide_eq_false (by omega : ¬ d.count ≤ 200)]; simp
      · rintro e w' ⟨rfl, hx⟩
        exact ⟨rfl, hkeep w' hx⟩
    · rw [if_neg hbad, if_neg hbad]
      have hno : findR es d.id = none := by
        cases hf : findR es d.id with
        | none => rfl
        | some e => exact (hbad (.inl (by rw [findM_absR, hf]; rfl))).elim
      refine (rdo_1 rb B T es d w h hT hes (by omega) (by omega) hno hk (by omega) (by omega)).mono ?_
      rintro e w' ⟨rfl, en, h1, h2, h3, h4⟩
      exact ⟨rfl, ⟨es ++ [en], h3, by simp [absR, h1, h2], by simp⟩, h4⟩
  · rw [if_neg hk, if_neg hk, findM_absR]
    cases hf : findR es d.id with
    | none =>
      refine (rdo_no rb B T es d w h (by omega) (by omega) (by omega) (by omega) ?_).mono ?_
      · rw [mayS, if_neg hk, findM_absR, hf]; rfl
      · rintro e w' ⟨rfl, hx⟩
        exact ⟨rfl, hkeep w' hx⟩
    | some e =>
      have hfe := findR_mem hf
      cases hm : may e.c d with
      | false =>
        refine (rdo_no rb B T es d w h (by omega) (by omega) (by omega) (by omega) ?_).mono ?_
        · rw [mayS, if_neg hk, findM_absR, hf]; exact hm
        · rintro e' w' ⟨rfl, hx⟩
          simp only [Option.map_some, hm, Bool.false_eq_true, if_false]
          exact ⟨trivial, hkeep w' hx⟩
      | true =>
        refine (rdo_any rb B T es e d w h hT (by omega) (by omega) hf hm (by omega) (by omega)).mono ?_
        rintro e' w' ⟨rfl, hC, hx⟩
        simp only [Option.map_some, hm, if_true]
        have ho := (h.cares e hfe.1).own
        refine ⟨trivial, ⟨updR es e.id (act e.c d), h.upd hfe.1 (Nat.le_succ _) hT hC hx, ?_, by simp [updR]⟩, hx.below hB ?_⟩
        · rw [absR_upd, hfe.2]
        · rintro k (f | f | f) <;> omega

set_option maxRecDepth 100000 in
theorem rcheck_run (x : Option Addr) (len cap : Nat) (D : Nat → Dd) (w : World) (hD : Deeds w x len D) (hl : len ≤ 2000) :
    Calls Try.prog 14 #[.slice x len cap] w (CheckPost D len w.heap.size w) := by
  obtain ⟨hlen, hcell⟩ := hD
  have J0 : Hid (RMach (w.alloc (.cells #[.slice none 0 0] 54)) w.heap.size w.heap.size [] 0) := by
    show RMach _ _ _ _ _
    exact ⟨⟨_, (MapKept.heap_alloc w _).1, World.ownsRow_nil _ _ _ _⟩, fun e he => (nomatch he), List.Pairwise.nil, Nat.le_refl _, Nat.zero_le _⟩
  have Hc := (show Hid (∀ k, k < len → ∃ b o, x = some ⟨b, o, none⟩ ∧ b < w.heap.size ∧ w.cell? ⟨b, o + k * 4, none⟩ = some (.int .i64 (D k).kind) ∧ w.cell? ⟨b, o + k * 4 + 1, none⟩ = some (.string (D k).id) ∧
    w.cell? ⟨b, o + k * 4 + 2, none⟩ = some (.int .i64 (D k).who) ∧ w.cell? ⟨b, o + k * 4 + 3, none⟩ = some (.int .i64 (D k).count)) from hcell)
  clear hcell
  go_enter Try.func14, Try.ntmps14
  go_wp2_with fail
  go_loopg [4] len (fun g i wr => ∃ (k : Nat) (es : List REnt), i = .int .i64 k ∧ k + g = len ∧ RMach wr w.heap.size w.heap.size es k ∧ absR es = runTo D k ∧ es.length ≤ k ∧ (∀ j, j < k → stepE (runTo D j) (D j) = 0) ∧ Below w.heap.size w wr)
  case atStart => exact ⟨0, [], rfl, by omega, J0.out, rfl, Nat.le_refl _, fun j hj => by omega, (Below.refl _ _).alloc (Nat.le_refl _) _⟩
  case round =>
    obtain ⟨k, es, rfl, hk, hM, ha, hes, hj, hx⟩ := hrel
    have Hk := (show Hid (k + gk = len) from hk)
    have Hj := (show Hid (∀ j, j < k → stepE (runTo D j) (D j) = 0) from hj)
    have hkl : k ≤ len := by omega
    clear hk hj J0
    by_cases hlt : k < len
    · obtain ⟨xb, xo, rfl, hxb, c0, c1, c2, c3⟩ := Hc.out k hlt
      have hcc : ∀ o, wr.cell? ⟨xb, o, none⟩ = w.cell? ⟨xb, o, none⟩ := fun o => Below.cell hx (p := ⟨xb, o, none⟩) hxb
      have f0 := (hcc _).trans c0
      have f1 := (hcc _).trans c1
      have f2 := (hcc _).trans c2
      have f3 := (hcc _).trans c3
      have HC := (show Hid (Calls Try.prog 21 #[.pointer (some ⟨w.heap.size, 0, none⟩), ddV (D k)] wr fun e w' => e = .returned (.int .i64 (stepE (runTo D k) (D k))) ∧ ∃ es', RMach w' w.heap.size w.heap.size es' (k + 1) ∧ absR es' = runTo D (k + 1) ∧ es'.length ≤ k + 1 ∧ Below w.heap.size w w') from by
        refine (rdeed_run _ _ k es (D k) wr hM (by omega) (by omega)).mono ?_
        rintro e w' ⟨rfl, ⟨es', h1, h2, h3⟩, h4⟩
        rw [ha] at h2 ⊢
        exact ⟨rfl, es', h1, h2, by omega, hx.trans h4⟩)
      unfold ddV at HC
      clear hcc c0 c1 c2 c3 hM ha hes hx
      by_cases he : stepE (runTo D k) (D k) = 0
      · have He := (show Hid (stepE (runTo D k) (D k) = 0) from he)
        rw [he] at HC
        clear he
        go_wp2_with (go_at_call 21; refine HC.out.mono ?_; rintro e w4 ⟨rfl, es', hM4, ha4, hes4, hx4⟩)
        go_roundg (gk - 1)
        case measure => have := Hk.out; omega
        case rel => exact ⟨k + 1, es', by go_num, by have := Hk.out; omega, hM4, ha4, hes4, fun j hj => by
                      by_cases e : j = k
                      · subst e; exact He.out
                      · exact Hj.out j (by omega), hx4⟩
      · have He := (show Hid (stepE (runTo D k) (D k) ≠ 0) from he)
        have heb : (stepE (runTo D k) (D k) != 0) = true := by simp [he]
        generalize stepE (runTo D k) (D k) = s at HC heb he
        go_wp2_with (go_at_call 21; refine HC.out.mono ?_; rintro e w4 ⟨rfl, es', hM4, ha4, hes4, hx4⟩)
        go_ret
        exact ⟨k, ⟨hkl, Hj.out, fun _ => He.out⟩, rfl, hx4⟩
    · obtain rfl : k = len := by omega
      clear hM ha hes
      go_wp2_with fail
      go_ret
      exact ⟨k, ⟨Nat.le_refl _, Hj.out, fun h => (hlt h).elim⟩, rfl, hx⟩
end Go.Proofs.Ythkimmabaojaaaa.Rf
