/- The machine: its contracts. -/
import Derived.Test.YthkimmabaojaaaaMap
namespace Go.Proofs.Ythkimmabaojaaaa.Cm
open Go.RowKit Go.Proofs.Ythkimmabaojaaaa.Cu

structure Ent where
  id : ByteArray
  cb : Nat
  lb : Nat
  c : Care

def ptrOf (e : Ent) : ByteArray × Value := (e.id, .pointer (some ⟨e.cb, 0, none⟩))
def foot (mb pb : Nat) (es : List Ent) (k : Nat) : Prop := k = mb ∨ k = pb ∨ ∃ e ∈ es, k = e.cb ∨ k = e.lb

/-- A machine: its block, its map's, and the blocks of its cares. -/
structure Mach (w : World) (mb pb : Nat) (es : List Ent) (T : Nat) : Prop where
  mach : w.heap[mb]? = some (.cells #[.map (some pb)] 39 (0, 0))
  map : SMap w pb (es.map ptrOf)
  cares : ∀ e ∈ es, CareAt w e.cb e.lb e.c T
  ne : mb ≠ pb
  apart : ∀ e ∈ es, e.cb ≠ mb ∧ e.cb ≠ pb ∧ e.lb ≠ mb ∧ e.lb ≠ pb
  sep : es.Pairwise fun a b => a.id ≠ b.id ∧ a.cb ≠ b.cb ∧ a.cb ≠ b.lb ∧ a.lb ≠ b.cb ∧ a.lb ≠ b.lb

def findE (es : List Ent) (id : ByteArray) : Option Ent := es.find? fun e => decide (e.id = id)

theorem look_find (es : List Ent) (id : ByteArray) : lookS (es.map ptrOf) id = (findE es id).map fun e => .pointer (some ⟨e.cb, 0, none⟩) := by
  unfold lookS findE
  induction es with
  | nil => rfl
  | cons e es ih =>
    simp only [List.map_cons, List.find?_cons]
    by_cases h : e.id = id
    · simp [ptrOf, h]
    · simp only [ptrOf, h, decide_false]
      exact ih

theorem findE_mem {es : List Ent} {id : ByteArray} {e : Ent} (h : findE es id = some e) : e ∈ es ∧ e.id = id := by
  unfold findE at h
  exact ⟨List.mem_of_find?_eq_some h, by simpa using List.find?_some h⟩

section
variable {w w' : World} {mb pb T : Nat} {es : List Ent}
theorem Mach.cell (h : Mach w mb pb es T) : w.cell? ⟨mb, 0, none⟩ = some (.map (some pb)) := by
  simp [World.cell?, h.mach]
theorem SMap.lt {b : Nat} {l : List (ByteArray × Value)} (h : SMap w b l) : b < w.heap.size := by
  obtain ⟨e, c, hb, _⟩ := h
  exact (Array.getElem?_eq_some_iff.1 hb).1
theorem SMap.ext {b : Nat} {l : List (ByteArray × Value)} {F : Nat → Prop} (h : SMap w b l) (hx : Ext F w w') (hF : ¬ F b) : SMap w' b l := by
  have hl := h.lt
  obtain ⟨e, c, hb, he⟩ := h
  exact ⟨e, c, (hx.block b hl hF).trans hb, he⟩
theorem Mach.ext {F : Nat → Prop} (h : Mach w mb pb es T) (hx : Ext F w w') (hF : ∀ k, F k → ¬ foot mb pb es k) : Mach w' mb pb es T := by
  have lt : ∀ {b : Nat} {o : Obj}, w.heap[b]? = some o → b < w.heap.size := fun h => (Array.getElem?_eq_some_iff.1 h).1
  refine ⟨(hx.block mb (lt h.mach) fun f => hF mb f (.inl rfl)).trans h.mach, h.map.ext hx fun f => hF pb f (.inr (.inl rfl)), fun e he => ?_, h.ne, h.apart, h.sep⟩
  exact (h.cares e he).ext hx (fun f => hF _ f (.inr (.inr ⟨e, he, .inl rfl⟩))) (fun f => hF _ f (.inr (.inr ⟨e, he, .inr rfl⟩)))
theorem Mach.grow (h : Mach w mb pb es T) (hx : Ext (fun _ => False) w w') : Mach w' mb pb es T := h.ext hx fun _ f => f.elim

theorem Mach.look (h : Mach w mb pb es T) (id : ByteArray) : (Instr.lookup 37 (.map (some pb)) (.string id) false).run Try.prog w = .ok (.pointer ((findE es id).map fun e => ⟨e.cb, 0, none⟩)) w := by
  rw [run_lookup_s w pb _ id (.pointer none) Try.underlying37 Try.underlying9 (fun w => by kernel_rfl) h.map, look_find]
  cases findE es id <;> rfl
end

def ddO (d : Dd) : Obj := .cells #[.int .i64 d.kind, .string d.id, .int .i64 d.who, .int .i64 d.count] 30

theorem do_none (mb pb T : Nat) (es : List Ent) (d : Dd) (w : World) (h : Mach w mb pb es T) (hk1 : 2 ≤ d.kind) (hk2 : d.kind ≤ 9) (hi1 : 1 ≤ d.id.size) (hi2 : d.id.size ≤ 32) (hno : findE es d.id = none) :
    Calls Try.prog 11 #[.pointer (some ⟨mb, 0, none⟩), ddV d] w fun e w' => e = .returned (.int .i64 250) ∧ Ext (fun _ => False) w w' := by
  have hm := h.cell
  have hlk : ∀ nq, (Instr.lookup 37 (.map (some pb)) (.string d.id) false).run Try.prog ((w.alloc (ddO d)).drewN nq) = .ok (.pointer none) ((w.alloc (ddO d)).drewN nq) := by
    intro nq
    have := (h.grow (((Ext.refl _ w).alloc (ddO d)).drewN nq)).look d.id
    rw [hno] at this; exact this
  have hml : mb < w.heap.size := (Array.getElem?_eq_some_iff.1 h.mach).1
  unfold ddO at hlk
  unfold ddV
  have hk0 : ((d.kind : Int) == 1) = false := by simp; omega
  go_enter Try.func11, Try.ntmps11
  go_wp2_with fail
  go_quiet (fail)
  go_wp2_with fail
  go_ret
  exact ⟨rfl, ((Ext.refl _ _).alloc _).drewN _⟩

theorem do_bad (mb : Nat) (d : Dd) (w : World) (hb : d.kind < 1 ∨ 9 < d.kind ∨ d.id.size < 1 ∨ 32 < d.id.size) :
    Calls Try.prog 11 #[.pointer (some ⟨mb, 0, none⟩), ddV d] w fun e w' => e = .returned (.int .i64 1) ∧ Ext (fun _ => False) w w' := by
  unfold ddV
  rcases (by omega : d.kind < 1 ∨ (¬ d.kind < 1 ∧ 9 < d.kind) ∨ (¬ d.kind < 1 ∧ ¬ 9 < d.kind ∧ d.id.size < 1) ∨ (¬ d.kind < 1 ∧ ¬ 9 < d.kind ∧ ¬ d.id.size < 1 ∧ 32 < d.id.size)) with h1 | ⟨h1, h2⟩ | ⟨h1, h2, h3⟩ | ⟨h1, h2, h3, h4⟩
  all_goals
    go_enter Try.func11, Try.ntmps11
    go_wp2_with fail
    go_ret
    exact ⟨rfl, (Ext.refl _ _).alloc _⟩

theorem do_acc_bad (mb pb T : Nat) (es : List Ent) (d : Dd) (w : World) (h : Mach w mb pb es T) (hk : d.kind = 1) (hi1 : 1 ≤ d.id.size) (hi2 : d.id.size ≤ 32)
    (hb : findE es d.id ≠ none ∨ d.count < 1 ∨ 200 < d.count) :
    Calls Try.prog 11 #[.pointer (some ⟨mb, 0, none⟩), ddV d] w fun e w' => e = .returned (.int .i64 250) ∧ Ext (fun _ => False) w w' := by
  have hm := h.cell
  have hlk : ∀ nq, (Instr.lookup 37 (.map (some pb)) (.string d.id) false).run Try.prog ((w.alloc (ddO d)).drewN nq) = .ok (.pointer ((findE es d.id).map fun e => ⟨e.cb, 0, none⟩)) ((w.alloc (ddO d)).drewN nq) := fun nq =>
    (h.grow (((Ext.refl _ w).alloc (ddO d)).drewN nq)).look d.id
  have hml : mb < w.heap.size := (Array.getElem?_eq_some_iff.1 h.mach).1
  unfold ddO at hlk
  unfold ddV
  rw [hk] at hlk ⊢
  cases hf : findE es d.id with
  | some e =>
    rw [hf] at hlk
    simp only [Option.map_some] at hlk
    clear hf hk hb
    go_enter Try.func11, Try.ntmps11
    go_wp2_with fail
    go_quiet (fail)
    go_wp2_with fail
    go_ret
    exact ⟨rfl, ((Ext.refl _ _).alloc _).drewN _⟩
  | none =>
    rw [hf] at hlk hb
    simp only [Option.map_none] at hlk
    have hb : d.count < 1 ∨ 200 < d.count := hb.resolve_left fun f => f rfl
    clear hf hk
    rcases (by omega : d.count < 1 ∨ (¬ d.count < 1 ∧ 200 < d.count)) with h1 | ⟨h1, h2⟩
    all_goals
      clear hb
      go_enter Try.func11, Try.ntmps11
      go_wp2_with fail
      go_quiet (fail)
      go_wp2_with fail
      go_ret
      exact ⟨rfl, ((Ext.refl _ _).alloc _).drewN _⟩

theorem do_no (mb pb T : Nat) (es : List Ent) (d : Dd) (w : World) (h : Mach w mb pb es T) (hk1 : 2 ≤ d.kind) (hk2 : d.kind ≤ 9) (hi1 : 1 ≤ d.id.size) (hi2 : d.id.size ≤ 32) (e : Ent)
    (hf : findE es d.id = some e) (hno : may e.c d = false) :
    Calls Try.prog 11 #[.pointer (some ⟨mb, 0, none⟩), ddV d] w fun e w' => e = .returned (.int .i64 250) ∧ Ext (fun _ => False) w w' := by
  have hm := h.cell
  have hlk : ∀ nq, (Instr.lookup 37 (.map (some pb)) (.string d.id) false).run Try.prog ((w.alloc (ddO d)).drewN nq) = .ok (.pointer (some ⟨e.cb, 0, none⟩)) ((w.alloc (ddO d)).drewN nq) := by
    intro nq
    have := (h.grow (((Ext.refl _ w).alloc (ddO d)).drewN nq)).look d.id
    rw [hf] at this; exact this
  have HM := (show Hid (∀ nq, Calls Try.prog 17 #[.pointer (some ⟨e.cb, 0, none⟩), ddV d] ((w.alloc (ddO d)).drewN nq) fun e w' => e = .returned (.bool false) ∧ Ext (fun _ => False) ((w.alloc (ddO d)).drewN nq) w') from fun nq => by
    rw [← hno]
    exact may_run e.cb e.lb T e.c d _ ((h.grow (((Ext.refl _ w).alloc (ddO d)).drewN nq)).cares e (findE_mem hf).1) hk1 hk2)
  have hml : mb < w.heap.size := (Array.getElem?_eq_some_iff.1 h.mach).1
  unfold ddO at hlk HM
  unfold ddV at HM ⊢
  have hk0 : ((d.kind : Int) == 1) = false := by simp; omega
  clear hf hno
  go_enter Try.func11, Try.ntmps11
  go_wp2_with fail
  go_quiet (fail)
  go_wp2_with (go_at_call 17; refine (HM.out _).mono ?_; rintro e w1 ⟨rfl, hx1⟩)
  go_ret
  exact ⟨rfl, (((Ext.refl _ _).alloc _).drewN _).trans hx1⟩

theorem box4 {w w1 : World} {n ty : Nat} {a b c d : Value} (hx : Ext (fun _ => False) ((w.alloc (.cells #[a, b, c, d] ty)).drewN n) w1) :
    w1.cell? ⟨w.heap.size, 0, none⟩ = some a ∧ w1.cell? ⟨w.heap.size, 1, none⟩ = some b ∧ w1.cell? ⟨w.heap.size, 2, none⟩ = some c ∧ w1.cell? ⟨w.heap.size, 3, none⟩ = some d := by
  have e : w1.heap[w.heap.size]? = some (.cells #[a, b, c, d] ty (0, 0)) := (hx.block w.heap.size (by simp) (fun f => f)).trans (MapKept.heap_alloc w _).1
  simp [World.cell?, e]

theorem do_yes (mb pb T : Nat) (es : List Ent) (d : Dd) (w : World) (h : Mach w mb pb es T) (hT : T + 1 ≤ 100000) (hk1 : 2 ≤ d.kind) (hk2 : d.kind ≤ 9) (hi1 : 1 ≤ d.id.size) (hi2 : d.id.size ≤ 32) (e : Ent)
    (hf : findE es d.id = some e) (hyes : may e.c d = true) :
    Calls Try.prog 11 #[.pointer (some ⟨mb, 0, none⟩), ddV d] w fun e' w' => e' = .returned (.int .i64 0) ∧ CareAt w' e.cb e.lb (act e.c d) (T + 1) ∧ Ext (fun k => k = e.cb ∨ k = e.lb) w w' := by
  have hm := h.cell
  have hlk : ∀ nq, (Instr.lookup 37 (.map (some pb)) (.string d.id) false).run Try.prog ((w.alloc (ddO d)).drewN nq) = .ok (.pointer (some ⟨e.cb, 0, none⟩)) ((w.alloc (ddO d)).drewN nq) := by
    intro nq
    have := (h.grow (((Ext.refl _ w).alloc (ddO d)).drewN nq)).look d.id
    rw [hf] at this; exact this
  have hC : ∀ nq, CareAt ((w.alloc (ddO d)).drewN nq) e.cb e.lb e.c T := fun nq => (h.grow (((Ext.refl _ w).alloc (ddO d)).drewN nq)).cares e (findE_mem hf).1
  have HM := (show Hid (∀ nq, Calls Try.prog 17 #[.pointer (some ⟨e.cb, 0, none⟩), ddV d] ((w.alloc (ddO d)).drewN nq) fun e' w' => e' = .returned (.bool true) ∧ Ext (fun _ => False) ((w.alloc (ddO d)).drewN nq) w') from fun nq => by
    rw [← hyes]
    exact may_run e.cb e.lb T e.c d _ (hC nq) hk1 hk2)
  have HD := (show Hid (∀ W, CareAt W e.cb e.lb e.c T → Calls Try.prog 18 #[.pointer (some ⟨e.cb, 0, none⟩), ddV d] W (DidPost e.cb e.lb (T + 1) (act e.c d) W)) from fun W hW =>
    do_run e.cb e.lb T e.c d W hT hW hk1 hk2 hyes)
  have HC := (show Hid (∀ nq, CareAt ((w.alloc (ddO d)).drewN nq) e.cb e.lb e.c T) from hC)
  have hml : mb < w.heap.size := (Array.getElem?_eq_some_iff.1 h.mach).1
  unfold ddO at hlk HM HC
  unfold ddV at HM HD ⊢
  have hk0 : ((d.kind : Int) == 1) = false := by simp; omega
  clear hf hyes hC
  go_enter Try.func11, Try.ntmps11
  go_wp2_with fail
  go_quiet (fail)
  go_wp2_with (first
    | (go_at_call 17; refine (HM.out _).mono ?_; rintro e' w1 ⟨rfl, hx1⟩; obtain ⟨b0, b1, b2, b3⟩ := box4 hx1)
    | (go_at_call 18; refine (HD.out _ ((HC.out _).ext hx1 (fun f => f) (fun f => f))).mono ?_; rintro e' w2 ⟨rfl, hc2, hx2⟩))
  go_ret
  exact ⟨rfl, hc2, ((((Ext.refl _ _).alloc _).drewN _).trans (hx1.mono fun _ f => f.elim)).trans hx2⟩
end Go.Proofs.Ythkimmabaojaaaa.Cm
