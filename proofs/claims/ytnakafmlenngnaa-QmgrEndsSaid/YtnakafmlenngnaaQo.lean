/- A region that draws its order, loads from some cells and, last of all, stores into one of them: the loads may be taken first. -/
import Derived.Test.YtnakafmlenngnaaQb
import Derived.OrdersHeld
import Derived.Deep.RegionHeld
namespace Go.Proofs.Ytnakafmlenngnaa.Qm
open Go.RowKit Go.Proofs.Ytnakafmlenngnaa.Wi

section
variable {P : Program} {md : Region.Mode} {ops : Array Oper} {Q : Exit → Act → World → Prop} {s : Nat} {S : World → Prop}

/-- Whichever may come up comes up; behind each but number s the condition S stands. -/
def Till (P : Program) (md : Region.Mode) (ops : Array Oper) (Q : Exit → Act → World → Prop) (s : Nat) (S : World → Prop) (n : Nat) (d : Array Bool) (a : Act) (w : World) : Prop :=
  match n with
  | 0 => Region.ready md ops d = [] ∧ Q .normal a w
  | m + 1 => (Region.ready md ops d = [] → Q .normal a w) ∧ ∀ j, j ∈ Region.ready md ops d → wpOp P ops Q j (fun b u => (j ≠ s → S u) ∧ Till P md ops Q s S m (d.setIfInBounds j true) b u) a w

theorem Till.any {n : Nat} : ∀ {d : Array Bool} {a : Act} {w : World}, Till P md ops Q s S n d a w → wpAny P md ops Q n d a w := by
  induction n with
  | zero => intro d a w h; exact h
  | succ m ih => intro d a w h; exact ⟨h.1, fun j hj => wpOp_mono (fun b u hb => ih hb.2) (h.2 j hj)⟩

/-- Number s waits for number i. -/
def waits (md : Region.Mode) (ops : Array Oper) (s i : Nat) : Bool :=
  match ops[s]? with
  | none => false
  | some o => o.after.any fun e => Region.binds md e && e.on == i

theorem waits_no {d : Array Bool} {i : Nat} (hw : waits md ops s i = true) (hi : i ∈ Region.ready md ops d) : s ∉ Region.ready md ops d := by
  intro hs
  obtain ⟨-, o, ho, hall⟩ := mem_ready.1 hs
  unfold waits at hw
  rw [ho] at hw
  obtain ⟨e, he, hb⟩ := Array.any_eq_true'.1 hw
  rw [Bool.and_eq_true, beq_iff_eq] at hb
  have h1 := hall e he hb.1
  rw [hb.2] at h1
  have h2 := (mem_ready.1 hi).1
  by_cases hl : i < d.size
  · simp [hl] at h1 h2; rw [h1] at h2; cases h2
  · simp [Array.getElem?_eq_none (Nat.le_of_not_lt hl)] at h1

theorem Till.swap {i : Nat} {oi : Oper} {v : Value} (hi : ops[i]? = some oi) (hn : Region.noSelect ops = true) (hw : waits md ops s i = true) (hQ : ∀ c b u, Q (.panic c) (b.put oi.dst v) u → Q (.panic c) b u) (n : Nat) :
    ∀ (d : Array Bool) (a : Act) (w : World), (∀ j oj, ops[j]? = some oj → j ≠ i → d.getD j true = false → (∀ e ∈ oj.after, Region.binds md e = true → e.on ≠ i) → oi.apart ops oj = true) →
      i ∈ Region.ready md ops d → YieldsIf P ops S oi v a → S w → Till P md ops Q s S n (d.setIfInBounds i true) (a.put oi.dst v) w → Till P md ops Q s S (n + 1) d a w := by
  induction n with
  | zero =>
    intro d a w _ hr hy hS H
    refine ⟨fun h => absurd hr (by rw [h]; simp), fun j hj => ?_⟩
    by_cases hji : j = i
    · subst hji
      exact hy.wpOp hi hS ⟨fun _ => hS, H⟩
    · exact absurd (ready_mono hj hji) (by rw [H.1]; simp)
  | succ m ih =>
    intro d a w hap hr hy hS H
    refine ⟨fun h => absurd hr (by rw [h]; simp), fun j hj => ?_⟩
    by_cases hji : j = i
    · subst hji
      exact hy.wpOp hi hS ⟨fun _ => hS, H⟩
    have hjs : j ≠ s := fun e => waits_no hw hr (by rw [← e]; exact hj)
    obtain ⟨hun, oj, hoj, hall⟩ := mem_ready.1 hj
    have hir := (mem_ready.1 hr).1
    have hfree : ∀ e ∈ oj.after, Region.binds md e = true → e.on ≠ i := fun e he hb heq => by
      have h1 := hall e he hb
      rw [heq] at h1
      by_cases hl : i < d.size
      · simp [hl] at h1 hir; rw [h1] at hir; cases hir
      · simp [Array.getElem?_eq_none (Nat.le_of_not_lt hl)] at h1
    refine wpOp_mono (fun b u hbu => ?_) (wpOp_putIf hoj (hap j oj hoj hji hun hfree) (fun cs b => Region.noSelect_spec hn i oi cs b hi) (fun cs b => Region.noSelect_spec hn j oj cs b hoj) hQ hy (H.2 j (ready_mono hj hji)))
    obtain ⟨hyb, hSu, hT⟩ := hbu
    refine ⟨hSu, ih (d.setIfInBounds j true) b u (fun k ok hk hki hku hno => hap k ok hk hki ?_ hno) (ready_mono hr (Ne.symm hji)) hyb (hSu hjs) ?_⟩
    · by_cases hjk : j = k
      · subst hjk; exact hun
      · rwa [getD_set_ne true hjk] at hku
    · rwa [Array.setIfInBounds_comm _ _ hji]

/-- Number i is taken first. -/
theorem Till.take (i : Nat) {oi : Oper} (v : Value) {n : Nat} {d : Array Bool} {a : Act} {w : World} (hi : ops[i]? = some oi) (hn : Region.noSelect ops = true) (hw : waits md ops s i = true) (hf : Region.free md ops d i = true) (hr : (Region.ready md ops d).contains i = true)
    (hQ : ∀ c b u, Q (.panic c) (b.put oi.dst v) u → Q (.panic c) b u) (hg : Region.wanted oi (yielded ops a.tmps) = true) (hv : ∀ u, S u → (execOp a.eval oi).run P u = .ok (.value v) u) (hS : S w)
    (h : Till P md ops Q s S n (d.setIfInBounds i true) (a.put oi.dst v) w) : Till P md ops Q s S (n + 1) d a w :=
  Till.swap hi hn hw hQ n d a w (Region.free_spec hi hf) (by simpa using hr) (.inl ⟨hg, hv⟩) hS h

/-- Number i alone may come up. -/
theorem Till.step (i : Nat) {oi : Oper} {n : Nat} {d : Array Bool} {a : Act} {w : World} (hi : ops[i]? = some oi) (hr : Region.ready md ops d = [i])
    (h : ∀ K : Act → World → Prop, Hid (∀ b u, (i ≠ s → S u) → Till P md ops Q s S n (d.setIfInBounds i true) b u → K b u) → if Region.wanted oi (yielded ops a.tmps) = true then Oper.wp P oi a w K Q else K (a.put oi.dst undef) w) : Till P md ops Q s S (n + 1) d a w := by
  refine ⟨fun h0 => (by rw [hr] at h0; cases h0), fun j hj => ?_⟩
  rw [hr, List.mem_singleton] at hj
  subst hj
  exact wpOp_step hi fun K hK => h K fun b u h1 h2 => hK b u ⟨h1, h2⟩

/-- Nothing is left. -/
theorem Till.done {n : Nat} {d : Array Bool} {a : Act} {w : World} (hr : Region.ready md ops d = []) (h : Q .normal a w) : Till P md ops Q s S n d a w := by
  cases n with
  | zero => exact ⟨hr, h⟩
  | succ m => exact ⟨fun _ => h, fun j hj => by rw [hr] at hj; cases hj⟩

theorem Till.region (s : Nat) (S : World → Prop) {id : Nat} {a : Act} {w : World} (hm : P.follows .mixedOrders = true) (h : Till P .any ops Q s S ops.size (Array.replicate ops.size false) a w.drew) : (Code.region id ops true).wp P Q a w :=
  wp_region_any hm h.any
end
end Go.Proofs.Ytnakafmlenngnaa.Qm
