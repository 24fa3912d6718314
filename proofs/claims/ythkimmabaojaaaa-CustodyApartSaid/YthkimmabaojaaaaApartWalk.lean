/- CustodyApart: the walk of the law. -/
import Derived.Test.YthkimmabaojaaaaTwo
import Derived.Deep.RegionHeld3
namespace Go.Proofs.Ythkimmabaojaaaa.Ca
open Go.RowKit Go.Proofs.Ythkimmabaojaaaa.Cu Go.Proofs.Ythkimmabaojaaaa.Cm Go.Proofs.Ythkimmabaojaaaa.Cl Go.Proofs.Ythkimmabaojaaaa.Ck

/-- The two deeds' boxes. -/
def Boxes (w : World) (A : Nat) (a b : Dd) : Prop :=
  w.heap[A]? = some (.cells #[.int .i64 a.kind, .string a.id, .int .i64 a.who, .int .i64 a.count] 30 (0, 0)) ∧
  w.heap[A + 1]? = some (.cells #[.int .i64 b.kind, .string b.id, .int .i64 b.who, .int .i64 b.count] 30 (0, 0))

theorem Boxes.cells {w : World} {A : Nat} {a b : Dd} (h : Boxes w A a b) :
    (w.cell? ⟨A, 0, none⟩ = some (.int .i64 a.kind) ∧ w.cell? ⟨A, 1, none⟩ = some (.string a.id) ∧ w.cell? ⟨A, 2, none⟩ = some (.int .i64 a.who) ∧ w.cell? ⟨A, 3, none⟩ = some (.int .i64 a.count)) ∧
    (w.cell? ⟨A + 1, 0, none⟩ = some (.int .i64 b.kind) ∧ w.cell? ⟨A + 1, 1, none⟩ = some (.string b.id) ∧ w.cell? ⟨A + 1, 2, none⟩ = some (.int .i64 b.who) ∧ w.cell? ⟨A + 1, 3, none⟩ = some (.int .i64 b.count)) := by
  obtain ⟨h1, h2⟩ := h
  simp [World.cell?, h1, h2]

theorem Boxes.lt {w : World} {A : Nat} {a b : Dd} (h : Boxes w A a b) : A + 1 < w.heap.size := (Array.getElem?_eq_some_iff.1 h.2).1
theorem Boxes.below {w w' : World} {A B : Nat} {a b : Dd} (h : Boxes w A a b) (hb : Below B w w') (hA : A + 1 < B) : Boxes w' A a b :=
  ⟨(hb.block A (by omega)).trans h.1, (hb.block (A + 1) hA).trans h.2⟩
theorem Boxes.grow {w w' : World} {A : Nat} {a b : Dd} (h : Boxes w A a b) (hx : Ext (fun _ => False) w w') : Boxes w' A a b :=
  h.below (hx.below (Nat.le_refl _) fun _ f => f.elim) h.lt

theorem boxes_made (w : World) (a b : Dd) : Boxes ((w.alloc (.cells #[.int .i64 a.kind, .string a.id, .int .i64 a.who, .int .i64 a.count] 30)).alloc (.cells #[.int .i64 b.kind, .string b.id, .int .i64 b.who, .int .i64 b.count] 30)) w.heap.size a b := by
  have h1 := (MapKept.heap_alloc w (.cells #[.int .i64 a.kind, .string a.id, .int .i64 a.who, .int .i64 a.count] 30)).1
  have h2 := (MapKept.heap_alloc (w.alloc (.cells #[.int .i64 a.kind, .string a.id, .int .i64 a.who, .int .i64 a.count] 30)) (.cells #[.int .i64 b.kind, .string b.id, .int .i64 b.who, .int .i64 b.count] 30)).1
  refine ⟨(Below.heap_alloc _ _ _ (by simp)).trans h1, ?_⟩
  simpa using h2

theorem held_same (mb T : Nat) (st : St) (F : Nat → Prop) (id : ByteArray) (w : World) (h : MachS w mb st T F) :
    Calls Try.prog 12 #[.pointer (some ⟨mb, 0, none⟩), .string id] w fun e w' => e = .returned (.bool (heldOf st id)) ∧ w' = w := by
  obtain ⟨pb, es, hM, rfl, hF⟩ := h
  have hm := hM.cell
  have hlk := hM.look id
  unfold heldOf
  rw [findM_abs]
  cases hf : findE es id with
  | none =>
    rw [hf] at hlk
    simp only [Option.map_none] at hlk ⊢
    clear hf
    go_enter Try.func12, Try.ntmps12
    go_wp2
    go_ret
    exact ⟨rfl, rfl⟩
  | some e =>
    rw [hf] at hlk
    simp only [Option.map_some] at hlk ⊢
    have hc := hM.cares e (findE_mem hf).1
    obtain ⟨-, h1, h2⟩ := hc.cells
    generalize e.c.held = x at h1
    generalize e.c.removed = y at h2
    clear hf hc
    cases x <;> cases y
    all_goals
      go_enter Try.func12, Try.ntmps12
      go_wp2
      go_ret
      exact ⟨rfl, rfl⟩

theorem hold {w7 W w' : World} {A : Nat} {s t : Value} (h : W.cell? ⟨A, 1, none⟩ = some s ∧ W.cell? ⟨A + 1, 1, none⟩ = some t ∧ Ext (fun _ => False) w7 W) (hA : A + 1 < w7.heap.size) (hx : Ext (fun _ => False) W w') :
    w'.cell? ⟨A, 1, none⟩ = some s ∧ w'.cell? ⟨A + 1, 1, none⟩ = some t ∧ Ext (fun _ => False) w7 w' := by
  obtain ⟨h1, h2, h3⟩ := h
  have hs := h3.size
  exact ⟨(World.cell?_of_block (w := W) (hx.block A (by omega) fun f => f)).trans h1, (World.cell?_of_block (w := W) (hx.block (A + 1) (by omega) fun f => f)).trans h2, h3.trans hx⟩

theorem walk_same (v : Value) (a b : Dd) (w : World) (hid : a.id = b.id) :
    Calls Try.prog 4 #[v, ddV a, ddV b] w fun e w' => e = .returned (.bool true) ∧ Below w.heap.size w w' := by
  unfold ddV
  have hib : (b.id.toList == b.id.toList) = true := by simp
  have HB := (show Hid (Boxes ((w.alloc (.cells #[.int .i64 a.kind, .string a.id, .int .i64 a.who, .int .i64 a.count] 30)).alloc (.cells #[.int .i64 b.kind, .string b.id, .int .i64 b.who, .int .i64 b.count] 30)) w.heap.size a b) from boxes_made w a b)
  have hw : Below w.heap.size w ((w.alloc (.cells #[.int .i64 a.kind, .string a.id, .int .i64 a.who, .int .i64 a.count] 30)).alloc (.cells #[.int .i64 b.kind, .string b.id, .int .i64 b.who, .int .i64 b.count] 30)) :=
    ((Below.refl _ _).alloc (Nat.le_refl _) _).alloc (by simp) _
  have HW := (show Hid (Below w.heap.size w ((w.alloc (.cells #[.int .i64 a.kind, .string a.id, .int .i64 a.who, .int .i64 a.count] 30)).alloc (.cells #[.int .i64 b.kind, .string b.id, .int .i64 b.who, .int .i64 b.count] 30))) from hw)
  clear hw
  have hid' := (show Hid (a.id = b.id) from hid)
  clear hid
  go_enter Try.func4, Try.ntmps4
  go_wp2_with fail
  refine (awake_run _).mono ?_
  rintro e w1 ⟨rfl, hb1⟩
  have hB1 := HB.out.below hb1 HB.out.lt
  have hw1 := HW.out.trans (hb1.mono HW.out.size)
  clear hb1 HW HB
  go_wp2_with fail
  refine (new_run _).mono ?_
  rintro e w2 ⟨rfl, -, hx2⟩
  go_wp2_with fail
  refine (new_run _).mono ?_
  rintro e w3 ⟨rfl, -, hx3⟩
  have hB3 := (hB1.grow hx2).grow hx3
  have hx := hx2.trans hx3
  have hw3 := hw1.trans (hx.below hw1.size fun _ f => f.elim)
  obtain ⟨⟨-, f1, -, -⟩, ⟨-, g1, -, -⟩⟩ := hB3.cells
  rw [hid'.out] at f1
  clear hx2 hx3 hx hB1 hw1
  go_wp2_with fail
  go_ret
  exact ⟨rfl, hw3⟩

set_option maxRecDepth 100000 in
set_option maxHeartbeats 4000000 in
theorem walk_apart (x : Option Addr) (len cap : Nat) (D : Nat → Dd) (a b : Dd) (w : World) (hD : Deeds w x len D) (hid : a.id ≠ b.id) :
    Calls Try.prog 4 #[.slice x len cap, ddV a, ddV b] w fun e w' => e = .returned (.bool true) ∧ Below w.heap.size w w' := by
  obtain ⟨hlen, hcell⟩ := hD
  have hib : (a.id.toList == b.id.toList) = false := by
    rw [beq_eq_false_iff_ne]
    intro f
    apply hid
    rw [ByteArray.toList_eq, ByteArray.toList_eq] at f
    exact ByteArray.ext (Array.toList_inj.1 f)
  have HL := (show Hid (∀ (W : World) (mb nb T : Nat) (st st' : St) (d : Dd), T + 1 ≤ 100000 → w.heap.size + 2 ≤ W.heap.size → Two W mb nb st st' T (w.heap.size + 2) → Calls Try.prog 11 #[.pointer (some ⟨mb, 0, none⟩), ddV d] W fun e w' => e = .returned (.int .i64 (stepE st d)) ∧ Two w' mb nb (stepS st d) st' (T + 1) (w.heap.size + 2) ∧ Below (w.heap.size + 2) W w') from
    fun W mb nb T st st' d hT hB h => deed_left W mb nb T _ st st' d hT hB h)
  have HR := (show Hid (∀ (W : World) (mb nb T : Nat) (st st' : St) (d : Dd), T + 1 ≤ 100000 → w.heap.size + 2 ≤ W.heap.size → Two W mb nb st st' T (w.heap.size + 2) → Calls Try.prog 11 #[.pointer (some ⟨nb, 0, none⟩), ddV d] W fun e w' => e = .returned (.int .i64 (stepE st' d)) ∧ Two w' mb nb st (stepS st' d) (T + 1) (w.heap.size + 2) ∧ Below (w.heap.size + 2) W w') from
    fun W mb nb T st st' d hT hB h => deed_right W mb nb T _ st st' d hT hB h)
  unfold ddV at HL HR ⊢
  have HB := (show Hid (Boxes ((w.alloc (.cells #[.int .i64 a.kind, .string a.id, .int .i64 a.who, .int .i64 a.count] 30)).alloc (.cells #[.int .i64 b.kind, .string b.id, .int .i64 b.who, .int .i64 b.count] 30)) w.heap.size a b) from boxes_made w a b)
  have HW := (show Hid (Below w.heap.size w ((w.alloc (.cells #[.int .i64 a.kind, .string a.id, .int .i64 a.who, .int .i64 a.count] 30)).alloc (.cells #[.int .i64 b.kind, .string b.id, .int .i64 b.who, .int .i64 b.count] 30))) from
    ((Below.refl _ _).alloc (Nat.le_refl _) _).alloc (by simp) _)
  have Hid' := (show Hid (a.id ≠ b.id) from hid)
  clear hid
  go_enter Try.func4, Try.ntmps4
  go_wp2_with fail
  refine (awake_run _).mono ?_
  rintro e w1 ⟨rfl, hb1⟩
  have hB1 := HB.out.below hb1 HB.out.lt
  have hw1 := HW.out.trans (hb1.mono HW.out.size)
  clear hb1 HW HB
  go_wp2_with fail
  refine (new_run _).mono ?_
  rintro e w2 ⟨rfl, hM2, hx2⟩
  go_wp2_with fail
  refine (new_run _).mono ?_
  rintro e w3 ⟨rfl, hM3, hx3⟩
  have hB3 := (hB1.grow hx2).grow hx3
  have hx := hx2.trans hx3
  have hw3 := hw1.trans (hx.below hw1.size fun _ f => f.elim)
  have hs1 : w.heap.size + 2 ≤ w1.heap.size := hB1.lt
  have hT : Two w3 (w1.heap.size + 1) (w2.heap.size + 1) [] [] 0 (w.heap.size + 2) := by
    have h1 := machLt hM2
    have h2 := machLt hM3
    refine ⟨_, _, h1.grow hx3, h2, ?_, ?_⟩
    · rintro k ⟨-, h⟩ ⟨h', -⟩; omega
    · rintro k (⟨h, h'⟩ | ⟨h, h'⟩)
      · exact ⟨Nat.le_trans hs1 h, Nat.lt_of_lt_of_le h' hx3.size⟩
      · exact ⟨Nat.le_trans hs1 (Nat.le_trans hx2.size h), h'⟩
  have hA := hB3.lt
  clear hx2 hx3 hx hB1 hM2 hM3
  generalize w1.heap.size + 1 = mb at hT ⊢
  generalize w2.heap.size + 1 = nb at hT ⊢
  clear hw1 hs1
  obtain ⟨⟨-, f1, -, -⟩, ⟨-, g1, -, -⟩⟩ := hB3.cells
  go_wp2_with fail
  clear f1 g1
  go_loopg [10] 100 (fun g i wr => ∃ (k : Nat) (st : St), i = .int .i64 k ∧ k + g = 100 ∧ Two wr mb nb st st (2 * k) (w.heap.size + 2) ∧ Below w.heap.size w wr ∧ Boxes wr w.heap.size a b)
  case atStart => exact ⟨0, [], rfl, rfl, hT, hw3, hB3⟩
  case round =>
    obtain ⟨k, st, rfl, hk, hT2, hbr, hBr⟩ := hrel
    have Hk := (show Hid (k + gk = 100) from hk)
    have hk3 : k ≤ 100 := by omega
    clear hk hT hw3 hB3
    by_cases hlt : k < len ∧ k < 100
    · obtain ⟨h1, h2⟩ := hlt
      obtain ⟨xb, xo, rfl, hxb, c0, c1, c2, c3⟩ := hcell k h1
      clear hcell
      generalize D k = d at c0 c1 c2 c3
      have f0 := (Below.cell hbr (p := ⟨xb, xo + k * 4, none⟩) hxb).trans c0
      have f1 := (Below.cell hbr (p := ⟨xb, xo + k * 4 + 1, none⟩) hxb).trans c1
      have f2 := (Below.cell hbr (p := ⟨xb, xo + k * 4 + 2, none⟩) hxb).trans c2
      have f3 := (Below.cell hbr (p := ⟨xb, xo + k * 4 + 3, none⟩) hxb).trans c3
      go_wp2_with fail
      refine (HL.out _ mb nb (2 * k) st st d (by omega) hBr.lt hT2).mono ?_
      rintro e w4 ⟨rfl, hT4, hb4⟩
      have hbw4 := hbr.trans (hb4.mono (Nat.le_add_right _ _))
      have hB4 := hBr.below hb4 (by omega)
      clear f0 f1 f2 f3
      have f0 := (Below.cell hbw4 (p := ⟨xb, xo + k * 4, none⟩) hxb).trans c0
      have f1 := (Below.cell hbw4 (p := ⟨xb, xo + k * 4 + 1, none⟩) hxb).trans c1
      have f2 := (Below.cell hbw4 (p := ⟨xb, xo + k * 4 + 2, none⟩) hxb).trans c2
      have f3 := (Below.cell hbw4 (p := ⟨xb, xo + k * 4 + 3, none⟩) hxb).trans c3
      go_wp2_with fail
      refine (HR.out _ mb nb (2 * k + 1) (stepS st d) st d (by omega) hB4.lt hT4).mono ?_
      rintro e w5 ⟨rfl, hT5, hb5⟩
      have hbw5 := hbw4.trans (hb5.mono (Nat.le_add_right _ _))
      have hB5 := hB4.below hb5 (by omega)
      go_wp2_with fail
      go_roundg (gk - 1)
      case measure => have := Hk.out; omega
      case rel => exact ⟨k + 1, stepS st d, by go_num, by have := Hk.out; omega, hT5, hbw5, hB5⟩
    · have Hend := (show Hid (¬ (k < len ∧ k < 100)) from hlt)
      clear hcell hlt
      have hcd := apart_e st a b Hid'.out
      have hcd2 := apart_e st b a Hid'.out.symm
      have hrcs := apart_rc st a b Hid'.out
      have hhs := apart_held st a b Hid'.out
      rcases (by have := Hend.out; omega : ¬ k < len ∨ (k < len ∧ ¬ k < 100)) with h1 | ⟨h1, h2⟩
      all_goals
        obtain ⟨⟨f0, f1, f2, f3⟩, ⟨g0, g1, g2, g3⟩⟩ := hBr.cells
        go_wp2_with fail
        refine (HL.out _ mb nb (2 * k) st st a (by omega) hBr.lt hT2).mono ?_
        rintro e w4 ⟨rfl, hT4, hb4⟩
        have hbw4 := hbr.trans (hb4.mono (Nat.le_add_right _ _))
        have hB4 := hBr.below hb4 (by omega)
        clear f0 f1 f2 f3 g0 g1 g2 g3
        obtain ⟨⟨f0, f1, f2, f3⟩, ⟨g0, g1, g2, g3⟩⟩ := hB4.cells
        go_wp2_with fail
        refine (HL.out _ mb nb (2 * k + 1) _ st b (by omega) hB4.lt hT4).mono ?_
        rintro e w5 ⟨rfl, hT5, hb5⟩
        have hbw5 := hbw4.trans (hb5.mono (Nat.le_add_right _ _))
        have hB5 := hB4.below hb5 (by omega)
        clear f0 f1 f2 f3 g0 g1 g2 g3
        obtain ⟨⟨f0, f1, f2, f3⟩, ⟨g0, g1, g2, g3⟩⟩ := hB5.cells
        go_wp2_with fail
        refine (HR.out _ mb nb (2 * k + 2) _ st b (by omega) hB5.lt hT5).mono ?_
        rintro e w6 ⟨rfl, hT6, hb6⟩
        have hbw6 := hbw5.trans (hb6.mono (Nat.le_add_right _ _))
        have hB6 := hB5.below hb6 (by omega)
        clear f0 f1 f2 f3 g0 g1 g2 g3
        obtain ⟨⟨f0, f1, f2, f3⟩, ⟨g0, g1, g2, g3⟩⟩ := hB6.cells
        go_wp2_with fail
        refine (HR.out _ mb nb (2 * k + 3) _ _ a (by omega) hB6.lt hT6).mono ?_
        rintro e w7 ⟨rfl, hT7, hb7⟩
        have hbw7 := hbw6.trans (hb7.mono (Nat.le_add_right _ _))
        have hB7 := hB6.below hb7 (by omega)
        have HSm := (show Hid (∀ W, Ext (fun _ => False) w7 W → ∀ (id : ByteArray) (i : Int), Calls Try.prog 9 #[.pointer (some ⟨mb, 0, none⟩), .string id, .int .i64 i] W fun e w' => e = .returned (.int .i64 (rcOf (stepS (stepS st a) b) id i).1) ∧ Ext (fun _ => False) W w') from by
          intro W hW id i
          obtain ⟨F, G, m1, m2, -, -⟩ := hT7
          exact state_run mb _ _ F id i W (m1.grow hW))
        have HSn := (show Hid (∀ W, Ext (fun _ => False) w7 W → ∀ (id : ByteArray) (i : Int), Calls Try.prog 9 #[.pointer (some ⟨nb, 0, none⟩), .string id, .int .i64 i] W fun e w' => e = .returned (.int .i64 (rcOf (stepS (stepS st a) b) id i).1) ∧ Ext (fun _ => False) W w') from by
          intro W hW id i
          obtain ⟨F, G, m1, m2, -, -⟩ := hT7
          rw [← hrcs]
          exact state_run nb _ _ G id i W (m2.grow hW))
        have HTm := (show Hid (∀ W, Ext (fun _ => False) w7 W → ∀ (id : ByteArray) (i : Int), Calls Try.prog 10 #[.pointer (some ⟨mb, 0, none⟩), .string id, .int .i64 i] W fun e w' => e = .returned (.int .i64 (rcOf (stepS (stepS st a) b) id i).2) ∧ Ext (fun _ => False) W w') from by
          intro W hW id i
          obtain ⟨F, G, m1, m2, -, -⟩ := hT7
          exact times_run mb _ _ F id i W (m1.grow hW))
        have HTn := (show Hid (∀ W, Ext (fun _ => False) w7 W → ∀ (id : ByteArray) (i : Int), Calls Try.prog 10 #[.pointer (some ⟨nb, 0, none⟩), .string id, .int .i64 i] W fun e w' => e = .returned (.int .i64 (rcOf (stepS (stepS st a) b) id i).2) ∧ Ext (fun _ => False) W w') from by
          intro W hW id i
          obtain ⟨F, G, m1, m2, -, -⟩ := hT7
          rw [← hrcs]
          exact times_run nb _ _ G id i W (m2.grow hW))
        clear f0 f1 f2 f3 g0 g1 g2 g3 hT6 hT5 hT4 hT2 hrcs hbw6 hbw5 hbw4 hbr hB6 hB5 hB4 hBr hb4 hb5 hb6 hb7
        have HHm := (show Hid (∀ W, Ext (fun _ => False) w7 W → ∀ (id : ByteArray), Calls Try.prog 12 #[.pointer (some ⟨mb, 0, none⟩), .string id] W fun e w' => e = .returned (.bool (heldOf (stepS (stepS st a) b) id)) ∧ w' = W) from by
          intro W hW id
          obtain ⟨F, G, m1, m2, -, -⟩ := hT7
          exact held_same mb _ _ F id W (m1.grow hW))
        have HHn := (show Hid (∀ W, Ext (fun _ => False) w7 W → ∀ (id : ByteArray), Calls Try.prog 12 #[.pointer (some ⟨nb, 0, none⟩), .string id] W fun e w' => e = .returned (.bool (heldOf (stepS (stepS st a) b) id)) ∧ w' = W) from by
          intro W hW id
          obtain ⟨F, G, m1, m2, -, -⟩ := hT7
          rw [← hhs]
          exact held_same nb _ _ G id W (m2.grow hW))
        generalize rcOf (stepS (stepS st a) b) = rcv at HSm HSn HTm HTn
        generalize heldOf (stepS (stepS st a) b) = hv at HHm HHn
        clear hhs hT7
        go_wp2_with fail
        clear hcd hcd2
        go_loopg [15] 6 (fun g i wr => ∃ k : Nat, i = .int .i64 k ∧ k + g = 6 ∧ Ext (fun _ => False) w7 wr)
        case atStart => exact ⟨0, rfl, rfl, Ext.refl _ _⟩
        case round =>
          obtain ⟨j, rfl, hj, hxj⟩ := hrel
          have Hj := (show Hid (j + gk = 6) from hj)
          have hj6 : j ≤ 6 := by omega
          clear hj
          obtain ⟨⟨-, f1, -, -⟩, ⟨-, g1, -, -⟩⟩ := (hB7.grow hxj).cells
          by_cases hjl : j < 6
          · go_wp2_with fail
            have hA7 := hB7.lt
            have hS0 : wr.drew.cell? ⟨w.heap.size, 1, none⟩ = some (.string a.id) ∧ wr.drew.cell? ⟨w.heap.size + 1, 1, none⟩ = some (.string b.id) ∧ Ext (fun _ => False) w7 wr.drew := ⟨f1, g1, ⟨hxj.os, hxj.tape, hxj.output, hxj.size, hxj.block⟩⟩
            go_region_held3 (fun w' => w'.cell? ⟨w.heap.size, 1, none⟩ = some (.string a.id) ∧ w'.cell? ⟨w.heap.size + 1, 1, none⟩ = some (.string b.id) ∧ Ext (fun _ => False) w7 w') (assumption)
              (first | (go_at_call_of 9 (Value.pointer (some ⟨mb, 0, none⟩)); refine (HSm.out _ ?_ _ _).mono ?_; (apply And.right; apply And.right; assumption); rintro e w' ⟨rfl, hx⟩; have hs' := hold (by assumption) hA7 hx) | (go_at_call_of 9 (Value.pointer (some ⟨nb, 0, none⟩)); refine (HSn.out _ ?_ _ _).mono ?_; (apply And.right; apply And.right; assumption); rintro e w' ⟨rfl, hx⟩; have hs' := hold (by assumption) hA7 hx) | (go_at_call_of 10 (Value.pointer (some ⟨mb, 0, none⟩)); refine (HTm.out _ ?_ _ _).mono ?_; (apply And.right; apply And.right; assumption); rintro e w' ⟨rfl, hx⟩; have hs' := hold (by assumption) hA7 hx) | (go_at_call_of 10 (Value.pointer (some ⟨nb, 0, none⟩)); refine (HTn.out _ ?_ _ _).mono ?_; (apply And.right; apply And.right; assumption); rintro e w' ⟨rfl, hx⟩; have hs' := hold (by assumption) hA7 hx))
            go_wp2_with fail
            go_roundg (gk - 1)
            case measure => have := Hj.out; omega
            case rel => exact ⟨j + 1, by go_num, by have := Hj.out; omega, by apply And.right; apply And.right; assumption⟩
          · go_wp2_with fail
            go_quiet (first | (go_at_call_of 12 (Value.pointer (some ⟨mb, 0, none⟩)); exact Calls.quiet_of_same (HHm.out _ (hxj.drewN _) _)) | (go_at_call_of 12 (Value.pointer (some ⟨nb, 0, none⟩)); exact Calls.quiet_of_same (HHn.out _ (hxj.drewN _) _)))
            go_wp2_with fail
            go_ret
            exact ⟨rfl, (hbw7.trans (hxj.below hbw7.size fun _ f => f.elim)).trans ⟨rfl, rfl, rfl, Nat.le_refl _, fun _ _ => rfl⟩⟩
end Go.Proofs.Ythkimmabaojaaaa.Ca
