/- custody.Check: how many deeds a new machine does. -/
import Derived.Test.YthkimmabaojaaaaDeeds
namespace Go.Proofs.Ythkimmabaojaaaa.Cc
open Go.RowKit Go.Proofs.Ythkimmabaojaaaa.Cu Go.Proofs.Ythkimmabaojaaaa.Cm Go.Proofs.Ythkimmabaojaaaa.Cl Go.Proofs.Ythkimmabaojaaaa.Ck

/-- The machine behind the first k deeds. -/
def runTo (D : Nat → Dd) : Nat → St
  | 0 => []
  | k + 1 => stepS (runTo D k) (D k)

/-- n of the len deeds may be done, one by one. -/
def IsFirst (D : Nat → Dd) (len n : Nat) : Prop := n ≤ len ∧ (∀ j, j < n → stepE (runTo D j) (D j) = 0) ∧ (n < len → stepE (runTo D n) (D n) ≠ 0)

theorem IsFirst.uniq {D : Nat → Dd} {len n m : Nat} (h : IsFirst D len n) (k : IsFirst D len m) : n = m := by
  rcases Nat.lt_trichotomy n m with e | e | e
  · exact (h.2.2 (Nat.lt_of_lt_of_le e k.1) (k.2.1 n e)).elim
  · exact e
  · exact (k.2.2 (Nat.lt_of_lt_of_le e h.1) (h.2.1 m e)).elim

theorem chk1_run (cb mb T : Nat) (st : St) (F : Nat → Prop) (d : Dd) (w : World) (hT : T + 1 ≤ 100000) (h : MachS w mb st T F) (hc : w.cell? ⟨cb, 0, none⟩ = some (.pointer (some ⟨mb, 0, none⟩))) :
    Calls Try.prog 20 #[ddV d, .pointer (some ⟨cb, 0, none⟩)] w fun e w' => e = .returned (.bool (stepE st d != 0)) ∧ MachS w' mb (stepS st d) (T + 1) (fun k => F k ∨ w.heap.size ≤ k) ∧ Ext F w w' := by
  have HD := (show Hid (Calls Try.prog 11 #[.pointer (some ⟨mb, 0, none⟩), ddV d] (w.alloc (ddO d)) fun e w' => e = .returned (.int .i64 (stepE st d)) ∧ MachS w' mb (stepS st d) (T + 1) (fun k => F k ∨ w.heap.size ≤ k) ∧ Ext F w w') from by
    refine (deed_run mb T st F d _ hT (h.grow ((Ext.refl _ w).alloc (ddO d)))).mono ?_
    rintro e w' ⟨rfl, hM, hx⟩
    exact ⟨rfl, hM.wide fun k hk => hk.elim .inl fun f => .inr (by simp at f; omega), ((Ext.refl _ w).alloc (ddO d)).trans hx⟩)
  have hcl : cb < w.heap.size := by
    rcases Nat.lt_or_ge cb w.heap.size with h' | h'
    · exact h'
    · simp [World.cell?, Array.getElem?_eq_none h'] at hc
  unfold ddV at HD ⊢
  unfold ddO at HD
  go_enter Try.func20, Try.ntmps20
  go_wp2_with (go_at_call 11; refine HD.out.mono ?_; rintro e w1 ⟨rfl, hM, hx⟩)
  go_ret
  exact ⟨rfl, hM, hx⟩

def FirstPost (D : Nat → Dd) (len B : Nat) (w : World) (e : Ending) (w' : World) : Prop := ∃ n : Nat, IsFirst D len n ∧ e = .returned (.int .i64 (if n < len then (n : Int) else -1)) ∧ Below B w w'

theorem indexD_run (x : Option Addr) (len cap cb mb B : Nat) (D : Nat → Dd) (w : World) (hD : Deeds w x len D) (hl : len ≤ 2000) (hM : MachS w mb [] 0 (fun k => B ≤ k ∧ k ≠ cb))
    (hc : w.cell? ⟨cb, 0, none⟩ = some (.pointer (some ⟨mb, 0, none⟩))) (hB : B ≤ w.heap.size) (hxB : ∀ b o, x = some ⟨b, o, none⟩ → b < B) :
    Calls Try.prog 19 #[.slice x len cap, .func (.func 20) #[] #[.pointer (some ⟨cb, 0, none⟩)]] w (FirstPost D len B w) := by
  obtain ⟨hlen, hcell⟩ := hD
  have hcl : cb < w.heap.size := by
    rcases Nat.lt_or_ge cb w.heap.size with h' | h'
    · exact h'
    · simp [World.cell?, Array.getElem?_eq_none h'] at hc
  go_enter Try.func19, Try.ntmps19
  go_wp2_with fail
  go_loopg [8] len (fun g i wr => ∃ k : Nat, i = .int .i64 k ∧ k + g = len ∧ MachS wr mb (runTo D k) k (fun k => B ≤ k ∧ k ≠ cb) ∧ (∀ j, j < k → stepE (runTo D j) (D j) = 0) ∧ Ext (fun k => B ≤ k ∧ k ≠ cb) w wr)
  case atStart => exact ⟨0, rfl, by omega, hM, fun j hj => by omega, Ext.refl _ _⟩
  case round =>
    obtain ⟨k, rfl, hk, hM2, hj, hx⟩ := hrel
    have Hk := (show Hid (k + gk = len) from hk)
    have hkl : k ≤ len := by omega
    have Hj := (show Hid (∀ j, j < k → stepE (runTo D j) (D j) = 0) from hj)
    clear hk hj hM
    have hcr : wr.cell? ⟨cb, 0, none⟩ = some (.pointer (some ⟨mb, 0, none⟩)) := (World.cell?_of_block (w := w) (hx.block cb hcl fun f => f.2 rfl)).trans hc
    by_cases hlt : k < len
    · obtain ⟨xb, xo, rfl, hxb, c0, c1, c2, c3⟩ := hcell k hlt
      have hxB' := hxB xb xo rfl
      have hcc : ∀ o, wr.cell? ⟨xb, o, none⟩ = w.cell? ⟨xb, o, none⟩ := fun o => World.cell?_of_block (w := w) (hx.block xb hxb fun f => by omega)
      have f0 := (hcc _).trans c0
      have f1 := (hcc _).trans c1
      have f2 := (hcc _).trans c2
      have f3 := (hcc _).trans c3
      have HC := (show Hid (Calls Try.prog 20 #[ddV (D k), .pointer (some ⟨cb, 0, none⟩)] wr fun e w' => e = .returned (.bool (stepE (runTo D k) (D k) != 0)) ∧ MachS w' mb (runTo D (k + 1)) (k + 1) (fun k => B ≤ k ∧ k ≠ cb) ∧ Ext (fun k => B ≤ k ∧ k ≠ cb) w w') from by
        refine (chk1_run cb mb k _ _ (D k) wr (by omega) hM2 hcr).mono ?_
        rintro e w' ⟨rfl, hM3, hx3⟩
        refine ⟨rfl, hM3.wide fun j hj => hj.elim (fun f => f) fun f => ?_, hx.trans hx3⟩
        have := hx.size
        exact ⟨by omega, by omega⟩)
      unfold ddV at HC
      clear hcell hcc c0 c1 c2 c3 hM2 hxB
      by_cases he : stepE (runTo D k) (D k) = 0
      · have He := (show Hid (stepE (runTo D k) (D k) = 0) from he)
        have heb : (stepE (runTo D k) (D k) != 0) = false := by simp [he]
        rw [heb] at HC
        clear he heb
        go_wp2_with (go_at_call 20; refine HC.out.mono ?_; rintro e w4 ⟨rfl, hM4, hx4⟩)
        go_roundg (gk - 1)
        case measure => have := Hk.out; omega
        case rel => exact ⟨k + 1, by go_num, by have := Hk.out; omega, hM4, fun j hj => by
                      by_cases e : j = k
                      · subst e; exact He.out
                      · exact Hj.out j (by omega), hx4⟩
      · have He := (show Hid (stepE (runTo D k) (D k) ≠ 0) from he)
        have heb : (stepE (runTo D k) (D k) != 0) = true := by simp [he]
        rw [heb] at HC
        clear he heb
        go_wp2_with (go_at_call 20; refine HC.out.mono ?_; rintro e w4 ⟨rfl, hM4, hx4⟩)
        go_ret
        exact ⟨k, ⟨hkl, Hj.out, fun _ => He.out⟩, by rw [if_pos hlt]; rfl, hx4.below hB fun k h => h.1⟩
    · obtain rfl : k = len := by omega
      clear hcell
      go_wp2_with fail
      go_ret
      exact ⟨k, ⟨Nat.le_refl _, Hj.out, fun h => (hlt h).elim⟩, by rw [if_neg (Nat.lt_irrefl k)]; rfl, hx.below hB fun k h => h.1⟩
end Go.Proofs.Ythkimmabaojaaaa.Cc
