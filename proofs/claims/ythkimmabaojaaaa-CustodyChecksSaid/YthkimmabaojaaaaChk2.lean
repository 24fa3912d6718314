/- custody.Check whole; a deed that ends a care is not done twice. -/
import Derived.Test.YthkimmabaojaaaaChk
import Derived.Test.YthkimmabaojaaaaTwo
namespace Go.Proofs.Ythkimmabaojaaaa.Cc
open Go.RowKit Go.Proofs.Ythkimmabaojaaaa.Cu Go.Proofs.Ythkimmabaojaaaa.Cm Go.Proofs.Ythkimmabaojaaaa.Cl Go.Proofs.Ythkimmabaojaaaa.Ck

def CheckPost (D : Nat → Dd) (len B : Nat) (w : World) (e : Ending) (w' : World) : Prop := ∃ n : Nat, IsFirst D len n ∧ e = .returned (.int .i64 (n : Int)) ∧ Below B w w'

theorem Deeds.below {w w' : World} {x : Option Addr} {len B : Nat} {D : Nat → Dd} (h : Deeds w x len D) (hb : Below B w w') (hx : ∀ b o, x = some ⟨b, o, none⟩ → b < B) : Deeds w' x len D := by
  refine ⟨h.1, fun k hk => ?_⟩
  obtain ⟨b, o, rfl, h1, c0, c1, c2, c3⟩ := h.2 k hk
  have hB := hx b o rfl
  have hc : ∀ o, w'.cell? ⟨b, o, none⟩ = w.cell? ⟨b, o, none⟩ := fun o => Below.cell hb (p := ⟨b, o, none⟩) hB
  exact ⟨b, o, rfl, Nat.lt_of_lt_of_le h1 hb.size, (hc _).trans c0, (hc _).trans c1, (hc _).trans c2, (hc _).trans c3⟩

theorem Deeds.at_old {w : World} {x : Option Addr} {len : Nat} {D : Nat → Dd} (h : Deeds w x len D) (h0 : 0 < len) : ∀ b o, x = some ⟨b, o, none⟩ → b < w.heap.size := by
  intro b o e
  obtain ⟨b', o', e', h1, -⟩ := h.2 0 h0
  rw [e] at e'
  cases e'
  exact h1

theorem check_run (x : Option Addr) (len cap : Nat) (D : Nat → Dd) (w : World) (hD : Deeds w x len D) (hl : len ≤ 2000) :
    Calls Try.prog 13 #[.slice x len cap] w (CheckPost D len w.heap.size w) := by
  have HX := (show Hid (∀ (y : Option Addr), (0 < len → y = x) → ∀ (W : World) (cb mb : Nat), Below w.heap.size w W → MachS W mb [] 0 (fun k => w.heap.size ≤ k ∧ k ≠ cb) → W.cell? ⟨cb, 0, none⟩ = some (.pointer (some ⟨mb, 0, none⟩)) →
      Calls Try.prog 19 #[.slice x len cap, .func (.func 20) #[] #[.pointer (some ⟨cb, 0, none⟩)]] W (FirstPost D len w.heap.size W)) from by
    intro y _ W cb mb hb hM hc
    by_cases h0 : 0 < len
    · exact indexD_run x len cap cb mb w.heap.size D W (Deeds.below hD hb (Deeds.at_old hD h0)) hl hM hc hb.size (Deeds.at_old hD h0)
    · have hD' : Deeds W none len D := ⟨by omega, fun k hk => by omega⟩
      have hlen : len = 0 := by omega
      subst hlen
      go_enter Try.func19, Try.ntmps19
      go_wp2_with fail
      go_loopg [8] 0 (fun g i wr => i = .int .i64 0 ∧ wr = W)
      case atStart => exact ⟨rfl, rfl⟩
      case round =>
        obtain ⟨rfl, rfl⟩ := hrel
        go_wp2_with fail
        go_ret
        exact ⟨0, ⟨Nat.le_refl _, fun j hj => by omega, fun h => by omega⟩, rfl, Below.refl _ _⟩)
  have hlen := hD.1
  go_enter Try.func13, Try.ntmps13
  go_wp2_with fail
  refine (new_run w).mono ?_
  rintro e w1 ⟨rfl, hM, hx⟩
  have hb1 : Below w.heap.size w w1 := hx.below (Nat.le_refl _) fun _ f => f.elim
  have hM1 : MachS (w1.alloc (.cells #[.pointer (some ⟨w.heap.size + 1, 0, none⟩)] 24)) (w.heap.size + 1) [] 0 (fun k => w.heap.size ≤ k ∧ k ≠ w1.heap.size) :=
    ((Ca.machLt hM).grow ((Ext.refl _ _).alloc _)).wide fun k hk => ⟨hk.1, by have := hk.2; omega⟩
  have hc1 : (w1.alloc (.cells #[.pointer (some ⟨w.heap.size + 1, 0, none⟩)] 24)).cell? ⟨w1.heap.size, 0, none⟩ = some (.pointer (some ⟨w.heap.size + 1, 0, none⟩)) := by
    unfold World.cell?
    rw [(MapKept.heap_alloc w1 (.cells #[.pointer (some ⟨w.heap.size + 1, 0, none⟩)] 24)).1]
    rfl
  have HC := (show Hid (Calls Try.prog 19 #[.slice x len cap, .func (.func 20) #[] #[.pointer (some ⟨w1.heap.size, 0, none⟩)]] (w1.alloc (.cells #[.pointer (some ⟨w.heap.size + 1, 0, none⟩)] 24)) (FirstPost D len w.heap.size (w1.alloc (.cells #[.pointer (some ⟨w.heap.size + 1, 0, none⟩)] 24)))) from
    HX.out x (fun _ => rfl) _ _ _ (hb1.alloc hb1.size _) hM1 hc1)
  clear hM hx hM1 hc1 HX hD
  go_wp2_with fail
  refine HC.out.mono ?_
  rintro e w2 ⟨n, hn, rfl, hb2⟩
  have hb3 := (hb1.alloc hb1.size (.cells #[.pointer (some ⟨w.heap.size + 1, 0, none⟩)] 24)).trans hb2
  have Hn := (show Hid (IsFirst D len n) from hn)
  have hn1 := hn.1
  clear hn HC hb2
  by_cases hlt : n < len
  · rw [if_pos hlt]
    go_wp2_with fail
    go_ret
    exact ⟨n, Hn.out, rfl, hb3⟩
  · rw [if_neg hlt]
    have hl0 : n = len := by omega
    have Hl := (show Hid (n = len) from hl0)
    clear hl0
    go_wp2_with fail
    go_ret
    exact ⟨n, Hn.out, by rw [Hl.out]; rfl, hb3⟩

theorem may_twice (c : Care) (d : Dd) (hk1 : 2 ≤ d.kind) (hk2 : d.kind ≤ 9) (h2 : d.kind ≠ 2) (h8 : d.kind ≠ 8) (hm : may c d = true) : may (act c d) d = false := by
  unfold may at hm
  simp only [Bool.and_eq_true] at hm
  have hm := hm.1
  unfold mayK at hm
  rcases (by omega : d.kind = 3 ∨ d.kind = 4 ∨ d.kind = 5 ∨ d.kind = 6 ∨ d.kind = 7 ∨ d.kind = 9) with k | k | k | k | k | k
  · simp [k] at hm
    obtain ⟨p1, p2, p3⟩ := pend_yes hm.1
    simp [may, mayK, act, k, setSt, pend, p2]
  · simp [k] at hm
    obtain ⟨p1, p2, p3⟩ := pend_yes hm
    simp [may, mayK, act, k, setSt, pend, p2]
  · simp [k] at hm
    obtain ⟨p1, p2, p3⟩ := pend_yes hm
    simp [may, mayK, act, k, setSt, pend, p2]
  · simp [k] at hm
    simp [may, mayK, act, k, hm]
  · simp [k] at hm
    simp [may, mayK, act, k, hm]
  · simp [may, act, k]

theorem twice (st : St) (d : Dd) (h2 : d.kind ≠ 2) (h8 : d.kind ≠ 8) (he : stepE st d = 0) : stepE (stepS st d) d ≠ 0 := by
  unfold stepE at he
  split at he
  · cases he
  rename_i hb
  split at he
  · rename_i hk
    split at he
    · cases he
    · rename_i hbad
      have hno : findM st d.id = none := by
        cases hf : findM st d.id with
        | none => rfl
        | some c => exact (hbad (.inl (by rw [hf]; rfl))).elim
      unfold stepE
      rw [if_neg hb, if_pos hk, if_pos]
      · decide
      · left
        unfold stepS
        rw [if_neg hb, if_pos hk, if_neg hbad, findM_add _ _ _ _ hno, if_pos rfl]
        rfl
  · rename_i hk
    cases hf : findM st d.id with
    | none => rw [hf] at he; cases he
    | some c =>
      rw [hf] at he
      simp only at he
      split at he
      · rename_i hm
        unfold stepE
        rw [if_neg hb, if_neg hk]
        have : findM (stepS st d) d.id = some (act c d) := by
          unfold stepS
          rw [if_neg hb, if_neg hk, hf]
          simp only [hm, if_true]
          rw [findM_set, if_pos rfl, hf]
          rfl
        rw [this]
        simp only
        rw [may_twice c d (by omega) (by omega) h2 h8 hm]
        decide
      · cases he
end Go.Proofs.Ythkimmabaojaaaa.Cc
