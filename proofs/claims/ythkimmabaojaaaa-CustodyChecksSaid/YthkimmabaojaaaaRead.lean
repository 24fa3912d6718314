/- The machine's making and its readers. -/
import Derived.Test.YthkimmabaojaaaaStep
namespace Go.Proofs.Ythkimmabaojaaaa.Cm
open Go.RowKit Go.Proofs.Ythkimmabaojaaaa.Cu

theorem new_run (w : World) :
    Calls Try.prog 8 #[] w fun e w' => e = .returned (.pointer (some ⟨w.heap.size + 1, 0, none⟩)) ∧ MachS w' (w.heap.size + 1) [] 0 (fun k => w.heap.size ≤ k) ∧ Ext (fun _ => False) w w' := by
  have hmm := @run_makeMap Try.prog
  have hM : Mach ((w.alloc (.map #[] 0)).alloc (.cells #[.map (some w.heap.size)] 39)) (w.heap.size + 1) w.heap.size [] 0 := by
    refine ⟨?_, ?_, by simp, by omega, by simp, by simp⟩
    · have := (MapKept.heap_alloc (w.alloc (.map #[] 0)) (.cells #[.map (some w.heap.size)] 39)).1
      simpa using this
    · refine ⟨#[], 0, ?_, rfl⟩
      rw [Below.heap_alloc _ _ _ (by simp)]
      exact (MapKept.heap_alloc w _).1
  have HM := (show Hid (MachS ((w.alloc (.map #[] 0)).alloc (.cells #[.map (some w.heap.size)] 39)) (w.heap.size + 1) [] 0 (fun k => w.heap.size ≤ k)) from
    ⟨_, _, hM, rfl, fun k hk => by rcases hk with rfl | rfl | ⟨e, he, -⟩; exact Nat.le_succ _; exact Nat.le_refl _; cases he⟩)
  clear hM
  go_enter Try.func8, Try.ntmps8
  go_wp2
  go_ret
  exact ⟨rfl, HM.out, ((Ext.refl _ _).alloc _).alloc _⟩

/-- What is told of a recipient. -/
def rcOf (st : St) (id : ByteArray) (a : Int) : Nat × Nat :=
  match findM st id with
  | none => (0, 0)
  | some c => if 0 ≤ a ∧ a < c.l.length then c.l.getD a.toNat (0, 0) else (0, 0)

theorem rcpt_run (mb T : Nat) (st : St) (F : Nat → Prop) (id : ByteArray) (a : Int) (w : World) (h : MachS w mb st T F) :
    Calls Try.prog 15 #[.pointer (some ⟨mb, 0, none⟩), .string id, .int .i64 a] w fun e w' => e = .returned (.agg #[.int .i64 (rcOf st id a).1, .int .i64 (rcOf st id a).2]) ∧ Ext (fun _ => False) w w' := by
  obtain ⟨pb, es, hM, rfl, hF⟩ := h
  have hm := hM.cell
  have hml : mb < w.heap.size := (Array.getElem?_eq_some_iff.1 hM.mach).1
  have hlk : (Instr.lookup 37 (.map (some pb)) (.string id) false).run Try.prog (w.alloc (.cells #[.int .i64 0, .int .i64 0] 41)) = .ok (.pointer ((findE es id).map fun e => ⟨e.cb, 0, none⟩)) (w.alloc (.cells #[.int .i64 0, .int .i64 0] 41)) :=
    (hM.grow ((Ext.refl _ w).alloc _)).look id
  unfold rcOf
  rw [findM_abs]
  cases hf : findE es id with
  | none =>
    rw [hf] at hlk
    simp only [Option.map_none] at hlk ⊢
    clear hf
    go_enter Try.func15, Try.ntmps15
    go_wp2
    exact bodyPost_ret (v := .agg #[.int .i64 0, .int .i64 0]) (by simp [results, Try.results15, go_sem]) rfl ⟨rfl, (Ext.refl _ _).alloc _⟩
  | some e =>
    rw [hf] at hlk
    simp only [Option.map_some] at hlk ⊢
    have hc := hM.cares e (findE_mem hf).1
    obtain ⟨h0, -, -⟩ := hc.cells
    have hcl : e.cb < w.heap.size := (Array.getElem?_eq_some_iff.1 hc.care).1
    have hll : e.lb < w.heap.size := (Array.getElem?_eq_some_iff.1 hc.list).1
    have ht := hc.top
    clear hf
    by_cases h1 : 0 ≤ a
    · obtain ⟨k, rfl⟩ := Int.eq_ofNat_of_zero_le h1
      by_cases h2 : k < e.c.l.length
      · have hs := hc.state k h2
        have htm := hc.time k h2
        rw [if_pos ⟨h1, by omega⟩]
        simp only [Int.toNat_natCast]
        generalize (e.c.l.getD k (0, 0)) = x at hs htm
        generalize e.c.l.length = n at h0 ht h2
        clear hc
        go_enter Try.func15, Try.ntmps15
        go_wp2
        exact bodyPost_ret (v := .agg #[.int .i64 x.1, .int .i64 x.2]) (by simp [results, Try.results15, go_sem]) rfl ⟨rfl, (Ext.refl _ _).alloc _⟩
      · rw [if_neg (by omega)]
        have e2 : decide ((k : Int) < e.c.l.length) = false := by simp; omega
        go_enter Try.func15, Try.ntmps15
        go_wp2
        exact bodyPost_ret (v := .agg #[.int .i64 0, .int .i64 0]) (by simp [results, Try.results15, go_sem]) rfl ⟨rfl, (Ext.refl _ _).alloc _⟩
    · rw [if_neg (by omega)]
      have e2 : decide (0 ≤ a) = false := by simpa using h1
      go_enter Try.func15, Try.ntmps15
      go_wp2
      exact bodyPost_ret (v := .agg #[.int .i64 0, .int .i64 0]) (by simp [results, Try.results15, go_sem]) rfl ⟨rfl, (Ext.refl _ _).alloc _⟩

theorem state_run (mb T : Nat) (st : St) (F : Nat → Prop) (id : ByteArray) (a : Int) (w : World) (h : MachS w mb st T F) :
    Calls Try.prog 9 #[.pointer (some ⟨mb, 0, none⟩), .string id, .int .i64 a] w fun e w' => e = .returned (.int .i64 (rcOf st id a).1) ∧ Ext (fun _ => False) w w' := by
  have hfd : ∀ (x y : Int) (w : World), (Instr.field 41 (.agg #[.int .i64 x, .int .i64 y]) 0).run Try.prog w = .ok (.int .i64 x) w := fun _ _ _ => by kernel_rfl
  go_enter Try.func9, Try.ntmps9
  go_wp2_with (go_at_call 15; refine (rcpt_run mb T st F id a _ h).mono ?_; rintro e w' ⟨rfl, hx⟩)
  go_ret
  exact ⟨rfl, hx⟩

theorem times_run (mb T : Nat) (st : St) (F : Nat → Prop) (id : ByteArray) (a : Int) (w : World) (h : MachS w mb st T F) :
    Calls Try.prog 10 #[.pointer (some ⟨mb, 0, none⟩), .string id, .int .i64 a] w fun e w' => e = .returned (.int .i64 (rcOf st id a).2) ∧ Ext (fun _ => False) w w' := by
  have hfd : ∀ (x y : Int) (w : World), (Instr.field 41 (.agg #[.int .i64 x, .int .i64 y]) 1).run Try.prog w = .ok (.int .i64 y) w := fun _ _ _ => by kernel_rfl
  go_enter Try.func10, Try.ntmps10
  go_wp2_with (go_at_call 15; refine (rcpt_run mb T st F id a _ h).mono ?_; rintro e w' ⟨rfl, hx⟩)
  go_ret
  exact ⟨rfl, hx⟩

/-- Whether a message is there, and held. -/
def heldOf (st : St) (id : ByteArray) : Bool :=
  match findM st id with
  | none => false
  | some c => c.held && !c.removed

theorem held_run (mb T : Nat) (st : St) (F : Nat → Prop) (id : ByteArray) (w : World) (h : MachS w mb st T F) :
    Calls Try.prog 12 #[.pointer (some ⟨mb, 0, none⟩), .string id] w fun e w' => e = .returned (.bool (heldOf st id)) ∧ Ext (fun _ => False) w w' := by
  obtain ⟨pb, es, hM, rfl, hF⟩ := h
  have hm := hM.cell
  have hlk := hM.look id
  unfold heldOf
  rw [findM_abs]
  cases hf : findE es id with
  | none =>
    rw [hf] at hlk
    simp only [Option.map_none] at hlk ⊢
    clear hf
    go_enter Try.func12, Try.ntmps12
    go_wp2
    go_ret
    exact ⟨rfl, Ext.refl _ _⟩
  | some e =>
    rw [hf] at hlk
    simp only [Option.map_some] at hlk ⊢
    have hc := hM.cares e (findE_mem hf).1
    obtain ⟨-, h1, h2⟩ := hc.cells
    generalize e.c.held = x at h1
    generalize e.c.removed = y at h2
    clear hf hc
    cases x <;> cases y
    all_goals
      go_enter Try.func12, Try.ntmps12
      go_wp2
      go_ret
      exact ⟨rfl, Ext.refl _ _⟩

theorem MachS.grow {w w' : World} {mb T : Nat} {st : St} {F : Nat → Prop} (h : MachS w mb st T F) (hx : Ext (fun _ => False) w w') : MachS w' mb st T F := by
  obtain ⟨pb, es, hM, ha, hF⟩ := h
  exact ⟨pb, es, hM.grow hx, ha, hF⟩
theorem MachS.far {w w' : World} {mb T : Nat} {st : St} {F G : Nat → Prop} (h : MachS w mb st T F) (hx : Ext G w w') (hFG : ∀ k, G k → ¬ F k) : MachS w' mb st T F := by
  obtain ⟨pb, es, hM, ha, hF⟩ := h
  exact ⟨pb, es, hM.ext hx fun k hk hf => hFG k hk (hF k hf), ha, hF⟩
theorem MachS.wide {w : World} {mb T : Nat} {st : St} {F G : Nat → Prop} (h : MachS w mb st T F) (hFG : ∀ k, F k → G k) : MachS w mb st T G := by
  obtain ⟨pb, es, hM, ha, hF⟩ := h
  exact ⟨pb, es, hM, ha, fun k hk => hFG k (hF k hk)⟩
theorem MachS.later {w : World} {mb T T' : Nat} {st : St} {F : Nat → Prop} (h : MachS w mb st T F) (hT : T ≤ T') (hT' : T' ≤ 100000) : MachS w mb st T' F := by
  obtain ⟨pb, es, hM, ha, hF⟩ := h
  exact ⟨pb, es, ⟨hM.mach, hM.map, fun e he => (hM.cares e he).mono hT hT', hM.ne, hM.apart, hM.sep⟩, ha, hF⟩

theorem awake_run (w : World) : Calls Try.prog 7 #[] w fun e w' => e = .returned (.bool true) ∧ Below w.heap.size w w' := by
  have hs : stepE [] ⟨1, ⟨#[97]⟩, 0, 1⟩ = 0 := by decide +kernel
  have hr : rcOf (stepS [] ⟨1, ⟨#[97]⟩, 0, 1⟩) ⟨#[97]⟩ 0 = (1, 0) := by decide +kernel
  have HS := (show Hid (stepE [] ⟨1, ⟨#[97]⟩, 0, 1⟩ = 0) from hs)
  have HR := (show Hid (rcOf (stepS [] ⟨1, ⟨#[97]⟩, 0, 1⟩) ⟨#[97]⟩ 0 = (1, 0)) from hr)
  clear hs hr
  have HD := (show Hid (∀ W : World, MachS W (w.heap.size + 1) [] 0 (fun k => w.heap.size ≤ k) → Calls Try.prog 11 #[.pointer (some ⟨w.heap.size + 1, 0, none⟩), .agg #[.int .i64 1, .string ⟨#[97]⟩, .int .i64 0, .int .i64 1]] W fun e w' => e = .returned (.int .i64 0) ∧ MachS w' (w.heap.size + 1) (stepS [] ⟨1, ⟨#[97]⟩, 0, 1⟩) 1 (fun k => w.heap.size ≤ k ∨ W.heap.size ≤ k) ∧ Ext (fun k => w.heap.size ≤ k) W w') from fun W hW => by
    have := deed_run (w.heap.size + 1) 0 [] (fun k => w.heap.size ≤ k) ⟨1, ⟨#[97]⟩, 0, 1⟩ W (by omega) hW
    rw [HS.out] at this
    exact this)
  go_enter Try.func7, Try.ntmps7
  go_wp2_with (first
    | (go_at_call 8; refine (new_run w).mono ?_; rintro e w1 ⟨rfl, hM, hx⟩)
    | (go_at_call 11; refine (HD.out _ hM).mono ?_; rintro e w2 ⟨rfl, hM2, hx2⟩)
    | (go_at_call 9; refine (state_run _ _ _ _ _ _ _ hM2).mono ?_; rw [HR.out]; rintro e w3 ⟨rfl, hx3⟩))
  go_ret
  exact ⟨rfl, ((hx.mono fun _ f => f.elim).trans hx2 |>.trans (hx3.mono fun _ f => f.elim)).below (Nat.le_refl _) fun _ h => h⟩
end Go.Proofs.Ythkimmabaojaaaa.Cm
