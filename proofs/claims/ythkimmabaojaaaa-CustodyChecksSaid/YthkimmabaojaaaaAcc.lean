import Derived.Test.YthkimmabaojaaaaMach
import Derived.Deep.RegionHeld3
namespace Go.Proofs.Ythkimmabaojaaaa.Cm
open Go.RowKit Go.Proofs.Ythkimmabaojaaaa.Cu

theorem acc_ins (mb pb T n k g : Nat) (es : List Ent) (d : Dd) (w w1 : World) (x y : Value) (h : Mach w mb pb es T) (hT : T ≤ 100000) (hno : findE es d.id = none) (h1 : 1 ≤ n) (h2 : n ≤ 200)
    (hgl : ((((w.alloc (.cells #[.int .i64 1, .string d.id, .int .i64 d.who, .int .i64 n] 30)).drewN k).alloc (.cells #[x, y] 41)).heap.size ≤ g))
    (hg : w1.heap[g]? = some (.cells (vals (flat (List.replicate n (1, 0)))).toArray 41 (0, 0)))
    (hx : Ext (fun _ => False) (((w.alloc (.cells #[.int .i64 1, .string d.id, .int .i64 d.who, .int .i64 n] 30)).drewN k).alloc (.cells #[x, y] 41)) w1) :
    ∃ w2, (Instr.mapUpdate 37 (.map (some pb)) (.string d.id) (.pointer (some ⟨w1.heap.size, 0, none⟩))).run Try.prog (w1.alloc (.cells #[.slice (some ⟨g, 0, none⟩) n n, .bool false, .bool false] 47)) = .ok () w2 ∧
      Mach w2 mb pb (es ++ [⟨d.id, w1.heap.size, g, ⟨List.replicate n (1, 0), false, false⟩⟩]) T ∧ w.heap.size ≤ w1.heap.size ∧ w.heap.size ≤ g ∧ Ext (foot mb pb es) w w2 ∧ (∀ b o, b < w1.heap.size → b ≠ pb → w2.cell? ⟨b, o, none⟩ = w1.cell? ⟨b, o, none⟩) := by
  have hx0 : Ext (fun _ => False) w w1 := ((((Ext.refl _ w).alloc _).drewN _).alloc _).trans hx
  have hgl' : w.heap.size ≤ g := by
    have : w.heap.size ≤ (((w.alloc (.cells #[.int .i64 1, .string d.id, .int .i64 d.who, .int .i64 n] 30)).drewN k).alloc (.cells #[x, y] 41)).heap.size := by simp; omega
    omega
  have hM1 : Mach (w1.alloc (.cells #[.slice (some ⟨g, 0, none⟩) n n, .bool false, .bool false] 47)) mb pb es T := h.grow (hx0.alloc _)
  have hgw : g < w1.heap.size := (Array.getElem?_eq_some_iff.1 hg).1
  have lt : ∀ {b : Nat} {o : Obj}, w.heap[b]? = some o → b < w.heap.size := fun h => (Array.getElem?_eq_some_iff.1 h).1
  have hmb := lt h.mach
  have hpb := h.map.lt
  obtain ⟨w2, hr, hS, hE⟩ := run_insert_s (P := Try.prog) (t := 37) (k := 9) (e := 43) _ pb _ d.id (.pointer (some ⟨w1.heap.size, 0, none⟩)) Try.underlying37 Try.underlying9 hM1.map (by rw [look_find, hno]; rfl)
  refine ⟨w2, hr, ?_, hx0.size, hgl', ?_, ?_⟩
  · have hM2 : ∀ b, b ≠ pb → b < (w1.alloc (.cells #[.slice (some ⟨g, 0, none⟩) n n, .bool false, .bool false] 47)).heap.size → w2.heap[b]? = (w1.alloc (.cells #[.slice (some ⟨g, 0, none⟩) n n, .bool false, .bool false] 47)).heap[b]? := fun b h1 h2 => hE.block b h2 h1
    have hsz : (w1.alloc (.cells #[.slice (some ⟨g, 0, none⟩) n n, .bool false, .bool false] 47)).heap.size = w1.heap.size + 1 := by simp
    have hold : ∀ e ∈ es, e.cb < w.heap.size ∧ e.lb < w.heap.size := fun e he => ⟨lt (h.cares e he).care, lt (h.cares e he).list⟩
    refine ⟨?_, ?_, ?_, h.ne, ?_, ?_⟩
    · rw [hM2 mb h.ne (by have := hx0.size; omega)]; exact hM1.mach
    · rw [List.map_append]; exact hS
    · intro e he
      rcases List.mem_append.1 he with he | he
      · have := h.apart e he
        exact (hM1.cares e he).ext hE this.2.1 this.2.2.2
      · simp only [List.mem_singleton] at he
        subst he
        refine ⟨?_, ?_, by simp only; omega, by simp only [List.length_replicate]; exact h1, by simp only [List.length_replicate]; exact h2, ?_, ?_⟩
        · rw [hM2 _ (by simp only; have := hx0.size; omega) (by simp only; omega)]
          simp only [List.length_replicate]
          exact (MapKept.heap_alloc w1 _).1
        · rw [hM2 _ (by simp only; omega) (by simp only; omega), Below.heap_alloc _ _ _ hgw]
          exact hg
        · intro x hx
          simp only [List.mem_replicate] at hx
          rw [hx.2]; exact Nat.zero_le _
        · exact hT
    · intro e he
      rcases List.mem_append.1 he with he | he
      · exact h.apart e he
      · simp only [List.mem_singleton] at he
        subst he
        have := hx0.size
        simp only
        omega
    · rw [List.pairwise_append]
      refine ⟨h.sep, by simp, ?_⟩
      intro a ha b hb
      simp only [List.mem_singleton] at hb
      subst hb
      have := hold a ha
      have := hx0.size
      refine ⟨?_, by simp only; omega, by simp only; omega, by simp only; omega, by simp only; omega⟩
      intro e
      have : findE es d.id ≠ none := by
        unfold findE
        rw [ne_eq, List.find?_eq_none]
        intro hh
        exact hh a ha (by simpa using e)
      exact this hno
  · have hE' := hE.mono (G := foot mb pb es) fun k e => .inr (.inl e)
    exact ((hx0.mono fun _ f => f.elim).alloc _).trans hE'
  · intro b o hb hne
    exact (World.cell?_of_block (w := w1.alloc (.cells #[.slice (some ⟨g, 0, none⟩) n n, .bool false, .bool false] 47)) (hE.block b (by simp; omega) hne)).trans (World.cell?_of_block (w := w1) (Below.heap_alloc _ _ _ hb))

theorem acc_cells (mb pb T n k : Nat) (es : List Ent) (d : Dd) (w w1 : World) (x y : Value) (h : Mach w mb pb es T)
    (hx : Ext (fun _ => False) (((w.alloc (.cells #[.int .i64 1, .string d.id, .int .i64 d.who, .int .i64 n] 30)).drewN k).alloc (.cells #[x, y] 41)) w1) :
    w1.cell? ⟨mb, 0, none⟩ = some (.map (some pb)) ∧ w1.cell? ⟨w.heap.size, 1, none⟩ = some (.string d.id) ∧ w1.cell? ⟨w.heap.size, 3, none⟩ = some (.int .i64 n) ∧ mb < w1.heap.size ∧ w.heap.size < w1.heap.size ∧ mb ≠ pb ∧ w.heap.size ≠ pb := by
  have hx0 : Ext (fun _ => False) w w1 := ((((Ext.refl _ w).alloc _).drewN _).alloc _).trans hx
  have hx1 : Ext (fun _ => False) ((w.alloc (.cells #[.int .i64 1, .string d.id, .int .i64 d.who, .int .i64 n] 30)).drewN k) w1 := ((Ext.refl _ _).alloc _).trans hx
  obtain ⟨-, b1, -, b3⟩ := box4 hx1
  have hs := hx1.size
  have hp := h.map.lt
  have hm : mb < w.heap.size := (Array.getElem?_eq_some_iff.1 h.mach).1
  simp only [World.drewN] at hs
  have : (w.alloc (.cells #[.int .i64 1, .string d.id, .int .i64 d.who, .int .i64 n] 30)).heap.size = w.heap.size + 1 := by simp
  exact ⟨(h.grow hx0).cell, b1, b3, by omega, by omega, h.ne, by omega⟩

theorem do_acc (mb pb T n : Nat) (es : List Ent) (d : Dd) (w : World) (hT : T ≤ 100000) (h : Mach w mb pb es T) (hk : d.kind = 1) (hi1 : 1 ≤ d.id.size) (hi2 : d.id.size ≤ 32)
    (hno : findE es d.id = none) (hn : d.count = n) (h1 : 1 ≤ n) (h2 : n ≤ 200) :
    Calls Try.prog 11 #[.pointer (some ⟨mb, 0, none⟩), ddV d] w fun e w' => ∃ cb lb, e = .returned (.int .i64 0) ∧ Mach w' mb pb (es ++ [⟨d.id, cb, lb, ⟨List.replicate n (1, 0), false, false⟩⟩]) T ∧ w.heap.size ≤ cb ∧ w.heap.size ≤ lb ∧ Ext (foot mb pb es) w w' := by
  have hm := h.cell
  have hlk : ∀ nq, (Instr.lookup 37 (.map (some pb)) (.string d.id) false).run Try.prog ((w.alloc (ddO d)).drewN nq) = .ok (.pointer none) ((w.alloc (ddO d)).drewN nq) := by
    intro nq
    have := (h.grow (((Ext.refl _ w).alloc (ddO d)).drewN nq)).look d.id
    rw [hno] at this; exact this
  have hml : mb < w.heap.size := (Array.getElem?_eq_some_iff.1 h.mach).1
  unfold ddO at hlk
  unfold ddV
  rw [hk, hn] at hlk ⊢
  clear hk hn
  go_enter Try.func11, Try.ntmps11
  go_wp2_with fail
  go_quiet (fail)
  go_wp2_with fail
  go_region_held3 (fun w' => w'.cell? ⟨mb, 0, none⟩ = some (.map (some pb)) ∧ w'.cell? ⟨w.heap.size, 1, none⟩ = some (.string d.id) ∧ w'.cell? ⟨w.heap.size, 3, none⟩ = some (.int .i64 n)) (go_simp)
    ((go_at_call 16; refine (repeat_run (w.heap.size + 1) n _ h1 h2 (by go_simp) (by go_simp)).mono ?_; rintro e w1 ⟨g, hgl, rfl, hg, hx⟩; obtain ⟨w2, hr, hM, hl1, hl2, hE, hcc⟩ := acc_ins mb pb T n _ g es d w w1 _ _ h hT hno h1 h2 hgl hg hx; obtain ⟨k0, k1, k3, k4, k5, k6, k7⟩ := acc_cells mb pb T n _ es d w w1 _ _ h hx; have q0 := (hcc mb 0 k4 k6).trans k0; have q1 := (hcc w.heap.size 1 k5 k7).trans k1; have q3 := (hcc w.heap.size 3 k5 k7).trans k3; clear hcc))
  go_wp2_with fail
  go_ret
  exact ⟨_, _, rfl, hM, hl1, hl2, hE⟩
end Go.Proofs.Ythkimmabaojaaaa.Cm
