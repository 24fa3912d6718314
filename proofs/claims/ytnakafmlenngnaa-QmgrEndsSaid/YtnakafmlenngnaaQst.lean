/- A script that came in: its steps. -/
import Derived.Test.YtnakafmlenngnaaQos
import Derived.Test.YtnakafmlenngnaaQa
import Derived.Deep.Slices
import Derived.Deep.Fields
import Derived.SliceStrings
import Derived.ChangeSame
namespace Go.Proofs.Ytnakafmlenngnaa.Qm
open Go.RowKit Go.ChangeShapes Go.WideShapes Go.ChangeAt Go.Deep Go.Proofs.Ytnakafmlenngnaa.Wi

structure St where
  op : Int
  n : Int
  id : ByteArray
  came : Int
  now : Int
  dests : List ByteArray
  results : List Int
  well : Bool

structure StepAt (w : World) (b o : Nat) (s : St) : Prop where
  blt : b < w.heap.size
  c0 : w.cell? ⟨b, o, none⟩ = some (.int .i64 s.op)
  c1 : w.cell? ⟨b, o + 1, none⟩ = some (.int .i64 s.n)
  c2 : w.cell? ⟨b, o + 2, none⟩ = some (.string s.id)
  c3 : w.cell? ⟨b, o + 3, none⟩ = some (.int .i64 s.came)
  c4 : w.cell? ⟨b, o + 4, none⟩ = some (.int .i64 s.now)
  c5 : ∃ x c, w.cell? ⟨b, o + 5, none⟩ = some (.slice x s.dests.length c) ∧ StrsAt w x s.dests
  c6 : ∃ x c, w.cell? ⟨b, o + 6, none⟩ = some (.slice x s.results.length c) ∧ ResL w x s.results
  c7 : w.cell? ⟨b, o + 7, none⟩ = some (.bool s.well)
  c8 : ∃ t u x n c, w.cell? ⟨b, o + 8, none⟩ = some (.string t) ∧ w.cell? ⟨b, o + 9, none⟩ = some (.string u) ∧ w.cell? ⟨b, o + 10, none⟩ = some (.slice x n c)
def StepsAt (w : World) (x : Option Addr) (l : List St) : Prop :=
  l.length ≤ 9223372036854775807 ∧ ∀ k (hk : k < l.length), ∃ b o, x = some ⟨b, o, none⟩ ∧ StepAt w b (o + k * 11) l[k]

theorem StepAt.quiet {w w' : World} {b o : Nat} {s : St} (h : StepAt w b o s) (hx : Ext (fun _ => False) w w') : StepAt w' b o s := by
  have hc : ∀ k, w'.cell? ⟨b, k, none⟩ = w.cell? ⟨b, k, none⟩ := fun k => hx.cell h.blt (fun f => f) k
  obtain ⟨h0, h1, h2, h3, h4, h5, ⟨x5, c5, h6, h6'⟩, ⟨x6, c6, h7, h7'⟩, h8, t, u, x, n, c, h9, h10, h11⟩ := h
  exact ⟨Nat.lt_of_lt_of_le h0 hx.size, (hc _).trans h1, (hc _).trans h2, (hc _).trans h3, (hc _).trans h4, (hc _).trans h5, ⟨x5, c5, (hc _).trans h6, h6'.ext hx fun _ _ _ f => f⟩, ⟨x6, c6, (hc _).trans h7, IntsAt.ext h7' hx fun _ _ _ f => f⟩, (hc _).trans h8, t, u, x, n, c, (hc _).trans h9, (hc _).trans h10, (hc _).trans h11⟩

section
variable {H : Type} {enc : TypeId × Value → H} {W : World}
theorem trod_i {n : Nat} {v : Value} {y : DataW H × List MemPlace} (h : DataW.trod enc Try.prog W 0 (fun _ => true) true n 3 [v] = some y) : ∃ i : Int, v = .int .i64 i := cell_int h
theorem trod_s {n : Nat} {v : Value} {y : DataW H × List MemPlace} (h : DataW.trod enc Try.prog W 0 (fun _ => true) true n 9 [v] = some y) : ∃ s : ByteArray, v = .string s := by
  cases n with
  | zero => simp [DataW.trod] at h
  | succ n =>
    cases v <;> simp [DataW.trod, Try.underlying9] at h
    exact ⟨_, rfl⟩
theorem trod_b {n : Nat} {v : Value} {y : DataW H × List MemPlace} (h : DataW.trod enc Try.prog W 0 (fun _ => true) true n 4 [v] = some y) : ∃ s : Bool, v = .bool s := by
  cases n with
  | zero => simp [DataW.trod] at h
  | succ n =>
    cases v <;> simp [DataW.trod, Try.underlying4] at h
    exact ⟨_, rfl⟩
set_option maxRecDepth 100000 in
theorem trod_ints {n : Nat} {v : Value} {y : DataW H × List MemPlace} (h : DataW.trod enc Try.prog W 0 (fun _ => true) true n 30 [v] = some y) : ∃ x l c, v = .slice x l.length c ∧ ResL W x l := by
  have key : ∃ a len cap, ∃ zs : List Int, v = .slice a len cap ∧ ((a = none ∧ len = 0 ∧ cap = 0 ∧ zs = []) ∨
      ∃ x, a = some x ∧ len ≤ cap ∧ cap ≤ maxLen ∧ zs.length = cap ∧ (∀ i, i < zs.length → W.cell? (x.add i) = some (.int .i64 (zs.getD i 0))) ∧ ∀ n ∈ zs, (Lit.int .i64 n).wf = true) := by
    rcases open_ints Try.underlying30 Try.underlying3 (by kernel_rfl) h with ⟨hcs, _⟩ | ⟨x, l, c, zs, hcs, _, hl, hm, hz, _, hcell, hwz⟩
    · simp only [List.cons.injEq, and_true] at hcs
      exact ⟨none, 0, 0, [], hcs, .inl ⟨rfl, rfl, rfl, rfl⟩⟩
    · simp only [List.cons.injEq, and_true] at hcs
      exact ⟨some x, l, c, zs, hcs, .inr ⟨_, rfl, hl, hm, by simpa using hz, hcell, hwz⟩⟩
  obtain ⟨a, len, cap, zs, rfl, hz⟩ := key
  obtain ⟨h1, h2⟩ := cells_of_row hz
  have hlen : (zs.take len).length = len := by
    rcases hz with ⟨-, rfl, -, rfl⟩ | ⟨x, -, hl, -, hzl, -⟩
    · rfl
    · rw [List.length_take]; omega
  refine ⟨a, zs.take len, cap, by rw [hlen], ?_⟩
  unfold ResL
  rw [hlen]
  refine ⟨h1, fun k hk => ?_⟩
  obtain ⟨b, o, e, hc, hb⟩ := h2 k hk
  refine ⟨b, o, e, hb, ?_⟩
  rw [hc]
  dsimp only
  rw [List.getD_eq_getElem?_getD, List.getD_eq_getElem?_getD, List.getElem?_take_of_lt hk]
theorem add_none {b o : Nat} (j : Nat) : (⟨b, o, none⟩ : Addr).add j = ⟨b, o + j, none⟩ := by
  unfold Addr.add
  by_cases h : j = 0
  · subst h; rfl
  · simp [h]
set_option maxRecDepth 100000 in
theorem trod_strs {n : Nat} {v : Value} {y : DataW H × List MemPlace} (h : DataW.trod enc Try.prog W 0 (fun _ => true) true n 46 [v] = some y) : ∃ x l c, v = .slice x l.length c ∧ StrsAt W x l := by
  rcases open_strings Try.underlying46 Try.underlying9 (by kernel_rfl) h with ⟨hcs, _⟩ | ⟨⟨b, o, sp⟩, l, c, ss, hcs, _, hl, hm, hss, _, hcell, _⟩
  · simp only [List.cons.injEq, and_true] at hcs
    exact ⟨none, [], 0, hcs, by simp, fun k hk => by simp at hk⟩
  · simp only [List.cons.injEq, and_true] at hcs
    simp only [if_true] at hss
    unfold maxLen at hm
    have hlen : (ss.take l).length = l := by rw [List.length_take]; omega
    refine ⟨_, ss.take l, c, by rw [hlen]; exact hcs, by omega, fun k hk => ?_⟩
    have hk' : k < l := by omega
    have hs : sp = none := by simpa [Addr.add] using World.cell?_spot (hcell 0 (by omega))
    subst hs
    have h1 := hcell k (by omega)
    rw [add_none] at h1
    refine ⟨b, o, rfl, ?_, ?_⟩
    · rcases Nat.lt_or_ge b W.heap.size with h' | h'
      · exact h'
      · simp [World.cell?, Array.getElem?_eq_none h'] at h1
    · rw [h1]
      simp [List.getD_eq_getElem?_getD, show k < ss.length by omega]
theorem trod_slice_any {n : Nat} {v : Value} {y : DataW H × List MemPlace} (h : DataW.trod enc Try.prog W 0 (fun _ => true) true n 30 [v] = some y) : ∃ x l c, v = .slice x l c := by
  obtain ⟨x, l, c, e, -⟩ := trod_ints h
  exact ⟨x, _, c, e⟩

set_option maxRecDepth 100000 in
theorem step_of {n : Nat} {cs : List Value} {y : DataW H × List MemPlace} (b o : Nat) (hb : b < W.heap.size) (hc : W.cells? 0 ⟨b, o, none⟩ 11 = some cs) (h : DataW.trod enc Try.prog W 0 (fun _ => true) true n 64 cs = some y) : ∃ s, StepAt W b o s := by
  obtain ⟨ys, m, -, -, hlen, hyl, hf⟩ := DataW.trod_struct Try.underlying64 h
  obtain ⟨_, hcl, hat⟩ := World.cells?_some hc
  have hat' : ∀ j (hj : j < 11), W.cell? ⟨b, o + j, none⟩ = some (cs[j]'(by omega)) := fun j hj => by
    have := hat j hj
    rw [add_none] at this
    rw [this, List.getElem?_eq_getElem (by omega)]
  have hd : ∀ j (hj : j < 11), (cs.drop j).take 1 = [cs[j]'(by omega)] := fun j hj => by
    rw [List.drop_eq_getElem_cons (by omega)]; rfl
  have hyl : ys.length = 9 := hyl
  have fld : ∀ (i : Nat) (hi : i < 9) (f : Field), (#[{ name := "Do", type := 3, offset := 0, embedded := false, tag := "", pkgPath := "", byteOffset := 0 },
        { name := "N", type := 3, offset := 1, embedded := false, tag := "", pkgPath := "", byteOffset := 8 },
        { name := "Id", type := 9, offset := 2, embedded := false, tag := "", pkgPath := "", byteOffset := 16 },
        { name := "Came", type := 3, offset := 3, embedded := false, tag := "", pkgPath := "", byteOffset := 32 },
        { name := "Now", type := 3, offset := 4, embedded := false, tag := "", pkgPath := "", byteOffset := 40 },
        { name := "Dests", type := 46, offset := 5, embedded := false, tag := "", pkgPath := "", byteOffset := 48 },
        { name := "Results", type := 30, offset := 6, embedded := false, tag := "", pkgPath := "", byteOffset := 72 },
        { name := "Well", type := 4, offset := 7, embedded := false, tag := "", pkgPath := "", byteOffset := 96 },
        { name := "Job", type := 49, offset := 8, embedded := false, tag := "", pkgPath := "", byteOffset := 104 }] : Array Field)[i]? = some f → DataW.trod enc Try.prog W 0 (fun _ => true) true m f.type ((cs.drop f.offset).take (Try.prog.cellsOf f.type)) = some ys[i] := fun i hi f hfi => by
    rw [hf i f hfi, List.getElem?_eq_getElem (by omega)]
  have t0 : DataW.trod enc Try.prog W 0 (fun _ => true) true m 3 ((cs.drop 0).take (Try.prog.cellsOf 3)) = some (ys[0]'(by omega)) := fld 0 (by omega) _ rfl
  have t1 : DataW.trod enc Try.prog W 0 (fun _ => true) true m 3 ((cs.drop 1).take (Try.prog.cellsOf 3)) = some (ys[1]'(by omega)) := fld 1 (by omega) _ rfl
  have t2 : DataW.trod enc Try.prog W 0 (fun _ => true) true m 9 ((cs.drop 2).take (Try.prog.cellsOf 9)) = some (ys[2]'(by omega)) := fld 2 (by omega) _ rfl
  have t3 : DataW.trod enc Try.prog W 0 (fun _ => true) true m 3 ((cs.drop 3).take (Try.prog.cellsOf 3)) = some (ys[3]'(by omega)) := fld 3 (by omega) _ rfl
  have t4 : DataW.trod enc Try.prog W 0 (fun _ => true) true m 3 ((cs.drop 4).take (Try.prog.cellsOf 3)) = some (ys[4]'(by omega)) := fld 4 (by omega) _ rfl
  have t5 : DataW.trod enc Try.prog W 0 (fun _ => true) true m 46 ((cs.drop 5).take (Try.prog.cellsOf 46)) = some (ys[5]'(by omega)) := fld 5 (by omega) _ rfl
  have t6 : DataW.trod enc Try.prog W 0 (fun _ => true) true m 30 ((cs.drop 6).take (Try.prog.cellsOf 30)) = some (ys[6]'(by omega)) := fld 6 (by omega) _ rfl
  have t7 : DataW.trod enc Try.prog W 0 (fun _ => true) true m 4 ((cs.drop 7).take (Try.prog.cellsOf 4)) = some (ys[7]'(by omega)) := fld 7 (by omega) _ rfl
  have t8 : DataW.trod enc Try.prog W 0 (fun _ => true) true m 49 ((cs.drop 8).take (Try.prog.cellsOf 49)) = some (ys[8]'(by omega)) := fld 8 (by omega) _ rfl
  have k3 : Try.prog.cellsOf 3 = 1 := by kernel_rfl
  have k9 : Try.prog.cellsOf 9 = 1 := by kernel_rfl
  have k46 : Try.prog.cellsOf 46 = 1 := by kernel_rfl
  have k30 : Try.prog.cellsOf 30 = 1 := by kernel_rfl
  have k4 : Try.prog.cellsOf 4 = 1 := by kernel_rfl
  have k49 : Try.prog.cellsOf 49 = 3 := by kernel_rfl
  rw [k3, hd _ (by omega)] at t0 t1 t3 t4
  rw [k9, hd _ (by omega)] at t2
  rw [k46, hd _ (by omega)] at t5
  rw [k30, hd _ (by omega)] at t6
  rw [k4, hd _ (by omega)] at t7
  rw [k49] at t8
  obtain ⟨zs, m', -, -, zl, zyl, zf⟩ := DataW.trod_struct Try.underlying49 t8
  have zyl : zs.length = 3 := zyl
  have z0 : DataW.trod enc Try.prog W 0 (fun _ => true) true m' 9 ((((cs.drop 8).take 3).drop 0).take (Try.prog.cellsOf 9)) = zs[0]? := zf 0 _ rfl
  have z1 : DataW.trod enc Try.prog W 0 (fun _ => true) true m' 9 ((((cs.drop 8).take 3).drop 1).take (Try.prog.cellsOf 9)) = zs[1]? := zf 1 _ rfl
  have z2 : DataW.trod enc Try.prog W 0 (fun _ => true) true m' 30 ((((cs.drop 8).take 3).drop 2).take (Try.prog.cellsOf 30)) = zs[2]? := zf 2 _ rfl
  have hd3 : (cs.drop 8).take 3 = [cs[8]'(by omega), cs[9]'(by omega), cs[10]'(by omega)] := by
    rw [List.drop_eq_getElem_cons (by omega), List.drop_eq_getElem_cons (by omega), List.drop_eq_getElem_cons (by omega)]; rfl
  rw [hd3] at z0 z1 z2
  rw [k9, List.getElem?_eq_getElem (by omega)] at z0 z1
  rw [k30, List.getElem?_eq_getElem (by omega)] at z2
  obtain ⟨i0, e0⟩ := trod_i t0
  obtain ⟨i1, e1⟩ := trod_i t1
  obtain ⟨i2, e2⟩ := trod_s t2
  obtain ⟨i3, e3⟩ := trod_i t3
  obtain ⟨i4, e4⟩ := trod_i t4
  obtain ⟨x5, l5, c5, e5, q5⟩ := trod_strs t5
  obtain ⟨x6, l6, c6, e6, q6⟩ := trod_ints t6
  obtain ⟨i7, e7⟩ := trod_b t7
  obtain ⟨i8, e8⟩ := trod_s z0
  obtain ⟨i9, e9⟩ := trod_s z1
  obtain ⟨x10, l10, c10, e10⟩ := trod_slice_any z2
  refine ⟨⟨i0, i1, i2, i3, i4, l5, l6, i7⟩, hb, ?_, ?_, ?_, ?_, ?_, ⟨x5, c5, ?_, q5⟩, ⟨x6, c6, ?_, q6⟩, ?_, i8, i9, x10, l10, c10, ?_, ?_, ?_⟩
  · exact (hat' 0 (by omega)).trans (congrArg some e0)
  · exact (hat' 1 (by omega)).trans (congrArg some e1)
  · exact (hat' 2 (by omega)).trans (congrArg some e2)
  · exact (hat' 3 (by omega)).trans (congrArg some e3)
  · exact (hat' 4 (by omega)).trans (congrArg some e4)
  · exact (hat' 5 (by omega)).trans (congrArg some e5)
  · exact (hat' 6 (by omega)).trans (congrArg some e6)
  · exact (hat' 7 (by omega)).trans (congrArg some e7)
  · exact (hat' 8 (by omega)).trans (congrArg some e8)
  · exact (hat' 9 (by omega)).trans (congrArg some e9)
  · exact (hat' 10 (by omega)).trans (congrArg some e10)

set_option maxRecDepth 100000 in
theorem open_steps {r : Reach} {b0 : Nat} {v : Value} {d : DataW H} {p : List MemPlace} (hv : Value.okWide Try.prog W r b0 59 v) (h : DataW.Trod enc Try.prog W 0 (fun _ => true) true 59 v d p) :
    ∃ x l c, v = .slice x l.length c ∧ StepsAt W x l := by
  obtain ⟨a, len, cap, rfl⟩ := okWide_slice Try.underlying59 hv
  obtain ⟨fuel, hf⟩ := h
  rcases open_slice Try.underlying59 hf with ⟨hcs, _⟩ | ⟨⟨b, o, sp⟩, l, c, m, n, D, Pl, hcs, _, hl, hm, hmm, _, hi⟩
  · simp [Value.cells] at hcs
    obtain ⟨rfl, rfl, rfl⟩ := hcs
    exact ⟨none, [], 0, rfl, by simp, fun k hk => by simp at hk⟩
  · simp [Value.cells] at hcs
    obtain ⟨rfl, rfl, rfl⟩ := hcs
    simp only [if_true] at hmm
    subst hmm
    unfold maxLen at hm
    have c64 : Try.prog.cellsOf 64 = 11 := by kernel_rfl
    rw [c64] at hi
    have hsp : 0 < len → sp = none := fun h0 => by
      obtain ⟨cs, hc, -⟩ := hi 0 (by omega)
      obtain ⟨_, hcl, hat⟩ := World.cells?_some hc
      have := hat 0 (by omega)
      rw [List.getElem?_eq_getElem (by omega)] at this
      have h2 := World.cell?_spot this
      simpa [Addr.add] using h2
    have key : ∀ k, k < len → ∃ s, StepAt W b (o + k * 11) s := by
      intro k hk
      have := hsp (by omega)
      subst this
      obtain ⟨cs, hc, ht⟩ := hi k (by omega)
      rw [add_none] at hc
      refine step_of b (o + k * 11) ?_ hc ht
      obtain ⟨_, hcl, hat⟩ := World.cells?_some hc
      have := hat 0 (by omega)
      rw [List.getElem?_eq_getElem (by omega)] at this
      rcases Nat.lt_or_ge b W.heap.size with h' | h'
      · exact h'
      · simp [World.cell?, Addr.add, Array.getElem?_eq_none h'] at this
    refine ⟨_, List.ofFn (n := len) fun k => Classical.choose (key k.1 k.2), _, by rw [List.length_ofFn], by rw [List.length_ofFn]; omega, fun k hk => ?_⟩
    rw [List.length_ofFn] at hk
    have := hsp (by omega)
    subst this
    refine ⟨b, o, rfl, ?_⟩
    rw [List.getElem_ofFn]
    exact Classical.choose_spec (key k hk)
end
end Go.Proofs.Ytnakafmlenngnaa.Qm
