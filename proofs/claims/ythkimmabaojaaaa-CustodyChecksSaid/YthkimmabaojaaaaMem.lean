/- How a care lies in memory; the contracts of its readers. -/
import Derived.Test.YthkimmabaojaaaaRows
import Derived.Test.YthkimmabaojaaaaMod
import Derived.WalkKit
import Derived.WalkSpells
import Derived.WalkLawsBesides
import Derived.Deep.QuietTactic
import Derived.BigQuiet
import Derived.Below
import Derived.Deep.LoopGhost
import Derived.Deep.DeepCutAuto
import Derived.Deep.CutBlock
namespace Go.Proofs.Ythkimmabaojaaaa.Cm
open Go.RowKit Go.Proofs.Ythkimmabaojaaaa.Cu

/-- What was there is as it was, but for the blocks F; blocks may have been made. -/
structure Ext (F : Nat → Prop) (w w' : World) : Prop where
  os : w'.os = w.os
  tape : w'.tape = w.tape
  output : w'.output = w.output
  size : w.heap.size ≤ w'.heap.size
  block : ∀ k, k < w.heap.size → ¬ F k → w'.heap[k]? = w.heap[k]?

theorem Ext.refl (F : Nat → Prop) (w : World) : Ext F w w := ⟨rfl, rfl, rfl, Nat.le_refl _, fun _ _ _ => rfl⟩
theorem Ext.trans {F : Nat → Prop} {a b c : World} (h : Ext F a b) (k : Ext F b c) : Ext F a c :=
  ⟨k.os.trans h.os, k.tape.trans h.tape, k.output.trans h.output, Nat.le_trans h.size k.size, fun i hi hf => (k.block i (Nat.lt_of_lt_of_le hi h.size) hf).trans (h.block i hi hf)⟩
theorem Ext.mono {F G : Nat → Prop} {w w' : World} (h : Ext F w w') (hFG : ∀ k, F k → G k) : Ext G w w' :=
  ⟨h.os, h.tape, h.output, h.size, fun k hk hg => h.block k hk fun hf => hg (hFG k hf)⟩
theorem Ext.drewN {F : Nat → Prop} {w w1 : World} (h : Ext F w w1) (n : Nat) : Ext F w (w1.drewN n) := ⟨h.os, h.tape, h.output, h.size, h.block⟩
theorem Ext.alloc {F : Nat → Prop} {w w1 : World} (h : Ext F w w1) (o : Obj) : Ext F w (w1.alloc o) :=
  h.trans ⟨rfl, rfl, rfl, by simp, fun k hk _ => Below.heap_alloc _ _ _ hk⟩
theorem Ext.setCell {F : Nat → Prop} {w w1 : World} (h : Ext F w w1) (b o : Nat) (v : Value) (hb : F b) : Ext F w (w1.setCell ⟨b, o, none⟩ v) :=
  h.trans ⟨rfl, rfl, rfl, by simp [World.setCell], fun k _ hf => Below.heap_setCell _ _ _ _ fun e => hf (by rw [e]; exact hb)⟩
theorem Ext.setCell_new {F : Nat → Prop} {w w1 : World} (h : Ext F w w1) (b o : Nat) (v : Value) (hb : w.heap.size ≤ b) : Ext F w (w1.setCell ⟨b, o, none⟩ v) :=
  ⟨h.os, h.tape, h.output, by simpa [World.setCell] using h.size, fun k hk hf => (Below.heap_setCell _ _ _ _ (by show k ≠ b; omega)).trans (h.block k hk hf)⟩
theorem Ext.below {F : Nat → Prop} {w w' : World} (h : Ext F w w') {B : Nat} (hB : B ≤ w.heap.size) (hF : ∀ k, F k → B ≤ k) : Below B w w' :=
  ⟨h.os, h.tape, h.output, h.size, fun k hk => h.block k (by omega) fun hf => by have := hF k hf; omega⟩

def vals (l : List Nat) : List Value := l.map fun (n : Nat) => Value.int .i64 (n : Int)

/-- A care: its block and the block of its recipients. -/
structure CareAt (w : World) (cb lb : Nat) (c : Care) (T : Nat) : Prop where
  care : w.heap[cb]? = some (.cells #[.slice (some ⟨lb, 0, none⟩) c.l.length c.l.length, .bool c.held, .bool c.removed] 47 (0, 0))
  list : w.heap[lb]? = some (.cells (vals (flat c.l)).toArray 41 (0, 0))
  ne : cb ≠ lb
  pos : 1 ≤ c.l.length
  top : c.l.length ≤ 200
  times : ∀ x ∈ c.l, x.2 ≤ T
  small : T ≤ 100000

section
variable {w : World} {cb lb T : Nat} {c : Care}
theorem CareAt.cells (h : CareAt w cb lb c T) : w.cell? ⟨cb, 0, none⟩ = some (.slice (some ⟨lb, 0, none⟩) c.l.length c.l.length) ∧ w.cell? ⟨cb, 1, none⟩ = some (.bool c.held) ∧ w.cell? ⟨cb, 2, none⟩ = some (.bool c.removed) := by
  have := h.care
  simp [World.cell?, this]
theorem CareAt.free (h : CareAt w cb lb c T) (o : Nat) : w.frozen? ⟨cb, o, none⟩ = false := by
  have := h.care
  simp [World.frozen?, this]
theorem CareAt.freeL (h : CareAt w cb lb c T) (o : Nat) : w.frozen? ⟨lb, o, none⟩ = false := by
  have := h.list
  simp [World.frozen?, this]
theorem CareAt.state (h : CareAt w cb lb c T) (k : Nat) (hk : k < c.l.length) : w.cell? ⟨lb, k * 2, none⟩ = some (.int .i64 (c.l.getD k (0, 0)).1) := by
  have e := flat_even c.l k hk
  rw [List.getD_eq_getElem?_getD] at e
  simp [World.cell?, h.list, vals, Nat.mul_comm k 2, e]
theorem CareAt.time (h : CareAt w cb lb c T) (k : Nat) (hk : k < c.l.length) : w.cell? ⟨lb, k * 2 + 1, none⟩ = some (.int .i64 (c.l.getD k (0, 0)).2) := by
  have e := flat_odd c.l k hk
  rw [List.getD_eq_getElem?_getD] at e
  simp [World.cell?, h.list, vals, Nat.mul_comm k 2, e]
theorem CareAt.ext {w' : World} {F : Nat → Prop} (h : CareAt w cb lb c T) (hx : Ext F w w') (h1 : ¬ F cb) (h2 : ¬ F lb) : CareAt w' cb lb c T := by
  have lt : ∀ {b : Nat} {o : Obj}, w.heap[b]? = some o → b < w.heap.size := fun h => (Array.getElem?_eq_some_iff.1 h).1
  exact ⟨(hx.block cb (lt h.care) h1).trans h.care, (hx.block lb (lt h.list) h2).trans h.list, h.ne, h.pos, h.top, h.times, h.small⟩
end

theorem pending_run (cb lb T : Nat) (c : Care) (a : Int) (w : World) (h : CareAt w cb lb c T) :
    Calls Try.prog 23 #[.pointer (some ⟨cb, 0, none⟩), .int .i64 a] w fun e w' => e = .returned (.bool (pend c a)) ∧ w = w' := by
  obtain ⟨h0, -, -⟩ := h.cells
  have ht := h.top
  by_cases h1 : 0 ≤ a
  · obtain ⟨k, rfl⟩ := Int.eq_ofNat_of_zero_le h1
    by_cases h2 : k < c.l.length
    · have hs := h.state k h2
      have hp : pend c k = (((c.l.getD k (0, 0)).1 : Int) == 1) := by
        unfold pend
        simp only [Int.toNat_natCast]
        have e1 : decide ((0 : Int) ≤ k) = true := by simp
        have e2 : decide ((k : Int) < c.l.length) = true := by simp; omega
        rw [e1, e2]
        simp only [Bool.true_and]
        rw [Bool.eq_iff_iff]; simp; omega
      rw [hp]
      generalize (c.l.getD k (0, 0)).1 = s at hs
      generalize c.l.length = n at h0 ht h2
      clear hp h
      go_enter Try.func23, Try.ntmps23
      go_wp2
      go_ret
      exact ⟨rfl, rfl⟩
    · have hp : pend c k = false := by
        unfold pend
        have e2 : decide ((k : Int) < c.l.length) = false := by simp; omega
        rw [e2]; simp
      rw [hp]
      have e2 : decide ((k : Int) < c.l.length) = false := by simp; omega
      go_enter Try.func23, Try.ntmps23
      go_wp2
      go_ret
      exact ⟨rfl, rfl⟩
  · have hp : pend c a = false := by
      unfold pend
      simp [h1]
    rw [hp]
    have e2 : decide (0 ≤ a) = false := by simpa using h1
    go_enter Try.func23, Try.ntmps23
    go_wp2
    go_ret
    exact ⟨rfl, rfl⟩

theorem getD_lt {α : Type} (l : List α) (d : α) (k : Nat) (h : k < l.length) : l.getD k d = l[k] := by
  simp [List.getD_eq_getElem?_getD, h]
theorem getD_ge {α : Type} (l : List α) (d : α) (k : Nat) (h : l.length ≤ k) : l.getD k d = d := by
  simp [List.getD_eq_getElem?_getD, h]

theorem vals_set (l : List Nat) (k x : Nat) : (vals l).toArray.setIfInBounds k (.int .i64 x) = (vals (l.set k x)).toArray := by
  simp [vals, List.map_set]

theorem CareAt.setState {w : World} {cb lb T : Nat} {c : Care} (h : CareAt w cb lb c T) (k s : Nat) : CareAt (w.setCell ⟨lb, k * 2, none⟩ (.int .i64 s)) cb lb (setSt c k s) T := by
  have hl : (setSt c k s).l.length = c.l.length := by simp [setSt]
  refine ⟨?_, ?_, h.ne, by rw [hl]; exact h.pos, by rw [hl]; exact h.top, ?_, h.small⟩
  · rw [hl, Below.heap_setCell _ _ _ _ h.ne]; exact h.care
  · have := flat_setEven c.l k s
    simp only [World.setCell, Array.getElem?_modify, h.list, if_true, Option.map_some, Option.isSome_none, Bool.false_eq_true, if_false, Nat.mul_comm k 2, vals_set, this]
    rfl
  · intro x hx
    simp only [setSt] at hx
    rcases List.mem_or_eq_of_mem_set hx with hx | rfl
    · exact h.times x hx
    · by_cases hk : k < c.l.length
      · rw [getD_lt _ _ _ hk]
        have := h.times _ (List.getElem_mem hk)
        exact this
      · rw [getD_ge _ _ _ (by omega)]; exact Nat.zero_le _

theorem CareAt.setTime {w : World} {cb lb T : Nat} {c : Care} (h : CareAt w cb lb c T) (hT : T + 1 ≤ 100000) (k : Nat) (hk : k < c.l.length) :
    CareAt (w.setCell ⟨lb, k * 2 + 1, none⟩ (.int .i64 ((c.l.getD k (0, 0)).2 + 1 : Nat))) cb lb { c with l := c.l.set k ((c.l.getD k (0, 0)).1, (c.l.getD k (0, 0)).2 + 1) } (T + 1) := by
  refine ⟨?_, ?_, h.ne, by simpa using h.pos, by simpa using h.top, ?_, hT⟩
  · rw [Below.heap_setCell _ _ _ _ h.ne]; simpa using h.care
  · have := flat_setOdd c.l k ((c.l.getD k (0, 0)).2 + 1)
    simp only [World.setCell, Array.getElem?_modify, h.list, if_true, Option.map_some, Option.isSome_none, Bool.false_eq_true, if_false, Nat.mul_comm k 2, vals_set, this]
  · intro x hx
    simp only at hx
    rcases List.mem_or_eq_of_mem_set hx with hx | rfl
    · have := h.times x hx; omega
    · have := h.times _ (List.getElem_mem hk)
      rw [getD_lt _ _ _ hk]; simp only; omega

theorem end_run (cb lb T : Nat) (c : Care) (k s : Nat) (w : World) (hk : k < c.l.length) (h : CareAt w cb lb c T) :
    Calls Try.prog 25 #[.pointer (some ⟨cb, 0, none⟩), .int .i64 k, .int .i64 s] w fun e w' => e = .returned (.tuple #[]) ∧ CareAt w' cb lb (setSt c k s) T ∧ Ext (· = lb) w w' := by
  obtain ⟨h0, -, -⟩ := h.cells
  have hc := h.state k hk
  have hz := h.freeL (k * 2)
  have ht := h.top
  have H2 := h.setState k s
  generalize hn : c.l.length = n at h0 hk ht
  clear hn
  go_enter Try.func25, Try.ntmps25
  go_wp2
  go_end0
  exact ⟨rfl, H2, (Ext.refl _ _).setCell _ _ _ rfl⟩

theorem isPending_run (s t : Nat) (w : World) :
    Calls Try.prog 31 #[.agg #[.int .i64 s, .int .i64 t]] w fun e w' => e = .returned (.bool (s == 1)) ∧ w.alloc (.cells #[.int .i64 s, .int .i64 t] 41) = w' := by
  have e1 : ((s : Int) == 1) = (s == 1) := by rw [Bool.eq_iff_iff]; simp; omega
  go_enter Try.func31, Try.ntmps31
  go_wp2
  go_ret
  exact ⟨rfl, rfl⟩

/-- The place of the first pending one, or below 0. -/
def IdxPost (b : Bool) (w : World) (e : Ending) (w' : World) : Prop := ∃ i : Int, -1 ≤ i ∧ i ≤ 200 ∧ e = .returned (.int .i64 i) ∧ decide (0 ≤ i) = b ∧ Ext (fun _ => False) w w'

theorem over_no {c : Care} {k : Nat} (hk : k < c.l.length) (h : (c.l.getD k (0, 0)).1 = 1) : over c = false := by
  rw [getD_lt _ _ _ hk] at h
  unfold over
  rw [List.all_eq_false]
  exact ⟨_, List.getElem_mem hk, by simp [h]⟩

theorem over_yes {c : Care} (h : ∀ j, j < c.l.length → (c.l.getD j (0, 0)).1 ≠ 1) : over c = true := by
  unfold over
  rw [List.all_eq_true]
  intro x hx
  obtain ⟨j, hj, rfl⟩ := List.getElem_of_mem hx
  have := h j hj
  rw [getD_lt _ _ _ hj] at this
  simpa using this

theorem indexR_run (cb lb T : Nat) (c : Care) (w : World) (h : CareAt w cb lb c T) :
    Calls Try.prog 32 #[.slice (some ⟨lb, 0, none⟩) c.l.length c.l.length, .func (.func 31) #[] #[]] w (IdxPost (!over c) w) := by
  have ht := h.top
  generalize hn : c.l.length = n at ht
  have Hn : Hid (c.l.length = n) := hn
  clear hn
  go_enter Try.func32, Try.ntmps32
  go_wp2_with fail
  go_loopg [8] n (fun g k wr => ∃ k' : Nat, k = .int .i64 k' ∧ k' + g = n ∧ (∀ j, j < k' → (c.l.getD j (0, 0)).1 ≠ 1) ∧ Ext (fun _ => False) w wr)
  case atStart => exact ⟨0, rfl, by omega, fun j hj => by omega, Ext.refl _ _⟩
  case round =>
    obtain ⟨k, rfl, hk, hno, hx⟩ := hrel
    have Hk : Hid (k + gk = n) := hk
    have hkn : k ≤ n := by omega
    have Hno := (show Hid (∀ j, j < k → (c.l.getD j (0, 0)).1 ≠ 1) from hno)
    clear hk hno
    have hw := h.ext hx (fun f => f) (fun f => f)
    by_cases hlt : k < n
    · have hs := hw.state k (by rw [Hn.out]; exact hlt)
      have ht' := hw.time k (by rw [Hn.out]; exact hlt)
      by_cases h1 : (c.l.getD k (0, 0)).1 = 1
      · have ho := over_no (by rw [Hn.out]; exact hlt) h1
        rw [h1] at hs
        clear h1
        generalize (c.l.getD k (0, 0)).2 = t at ht'
        go_wp2_with (go_at_call 31; refine (isPending_run 1 t _).mono ?_; rintro e w' ⟨rfl, rfl⟩)
        go_ret
        exact ⟨k, by omega, by omega, rfl, by rw [ho]; simp, hx.alloc _⟩
      · have Hst := (show Hid ((c.l.getD k (0, 0)).1 ≠ 1) from h1)
        have hb : ((c.l.getD k (0, 0)).1 == 1) = false := by simpa using h1
        clear h1
        generalize hs1 : (c.l.getD k (0, 0)).1 = s at hs hb
        clear hs1
        generalize (c.l.getD k (0, 0)).2 = t at ht'
        go_wp2_with (go_at_call 31; refine (isPending_run s t _).mono ?_; rintro e w' ⟨rfl, rfl⟩)
        go_roundg (gk - 1)
        case measure => have := Hk.out; omega
        case rel => exact ⟨k + 1, by go_num, by have := Hk.out; omega, fun j hj => by
                      by_cases e : j = k
                      · subst e; exact Hst.out
                      · exact Hno.out j (by omega), hx.alloc _⟩
    · have ho : over c = true := over_yes fun j hj => Hno.out j (by have := Hn.out; omega)
      go_wp2_with fail
      go_ret
      exact ⟨-1, by omega, by omega, rfl, by rw [ho]; rfl, hx⟩

theorem containsR_run (cb lb T : Nat) (c : Care) (w : World) (h : CareAt w cb lb c T) :
    Calls Try.prog 30 #[.slice (some ⟨lb, 0, none⟩) c.l.length c.l.length, .func (.func 31) #[] #[]] w fun e w' => e = .returned (.bool (!over c)) ∧ Ext (fun _ => False) w w' := by
  have H := indexR_run cb lb T c w h
  have ht := h.top
  generalize hn : c.l.length = n at ht H
  generalize ho : over c = b at H
  clear hn ho
  have HH := (show Hid (Calls Try.prog 32 #[.slice (some ⟨lb, 0, none⟩) n n, .func (.func 31) #[] #[]] w (IdxPost (!b) w)) from H)
  clear H
  go_enter Try.func30, Try.ntmps30
  go_wp2_with (go_at_call 32; refine HH.out.mono ?_; rintro e w' ⟨i, hi, hi', rfl, hb, hx⟩)
  go_ret
  exact ⟨rfl, hx⟩

theorem over_run (cb lb T : Nat) (c : Care) (w : World) (h : CareAt w cb lb c T) :
    Calls Try.prog 24 #[.pointer (some ⟨cb, 0, none⟩)] w fun e w' => e = .returned (.bool (over c)) ∧ Ext (fun _ => False) w w' := by
  have H := containsR_run cb lb T c w h
  obtain ⟨h0, -, -⟩ := h.cells
  have HH := (show Hid (Calls Try.prog 30 #[.slice (some ⟨lb, 0, none⟩) c.l.length c.l.length, .func (.func 31) #[] #[]] w fun e w' => e = .returned (.bool (!over c)) ∧ Ext (fun _ => False) w w') from H)
  clear H
  go_enter Try.func24, Try.ntmps24
  go_wp2_with (go_at_call 30; refine HH.out.mono ?_; rintro e w' ⟨rfl, hx⟩)
  go_ret
  exact ⟨by simp, hx⟩
end Go.Proofs.Ythkimmabaojaaaa.Cm
