/- Next: the end of a delivery's beginning. -/
import Derived.Test.YtnakafmlenngnaaQv
namespace Go.Proofs.Ytnakafmlenngnaa.Qm
open Go.RowKit Go.Proofs.Ytnakafmlenngnaa.Wi

theorem Ext.free {F : Nat → Prop} {w w' : World} (h : Ext F w w') {b : Nat} (hb : b < w.heap.size) (hF : ¬ F b) (o : Nat) : w'.frozen? ⟨b, o, none⟩ = w.frozen? ⟨b, o, none⟩ := by
  have := h.block b hb hF
  unfold World.frozen?
  simp only [this]

theorem begin_q (L : Lq) (i a : Nat) (hi : i < L.ds.length) (ha : a < L.ms.length) :
    begin_ L.q i L.ds[i].d a L.ms[a].m = (⟨L.ms[a].m.id, L.ds[i].d.name, (takeF L.ds[i].d.name L.ms[a].m.rs).2⟩,
      { (turned (tookL L i) a { L.ms[a].m with rs := (takeF L.ds[i].d.name L.ms[a].m.rs).1 }).q with jobs := (tookL L i).q.jobs ++ [⟨L.ms[a].m.id, L.ds[i].d.name, (takeF L.ds[i].d.name L.ms[a].m.rs).2⟩] }) := by
  have e1 : (L.ms.modify a fun z => { z with m := { L.ms[a].m with rs := (takeF L.ds[i].d.name L.ms[a].m.rs).1 } }).map (·.m) = (L.ms.map (·.m)).set a { L.ms[a].m with rs := (takeF L.ds[i].d.name L.ms[a].m.rs).1 } := by
    rw [modify_set _ _ _ ha, List.map_set]
  have e2 : (L.ds.modify i fun z => { z with d := { z.d with f := z.d.f + 1 } }).map (·.d) = (L.ds.map (·.d)).set i { L.ds[i].d with f := L.ds[i].d.f + 1 } := by
    rw [modify_set _ _ _ hi, List.map_set]
  unfold begin_ turned tookL Lq.q
  dsimp only
  rw [e1, e2, List.length_map]
  rfl

/-- The append of the job runs; what stands behind it. -/
def JobRuns (w w1 : World) (mb : Nat) (F : Nat → Prop) (j : Jb) (q' : Qs) (vj vc jv : Value) (jl jb : Nat) : Prop :=
  ∃ x c wA, (Builtin.append_ #[60, 60] 60 #[jv, .slice (some ⟨w1.heap.size, 0, none⟩) 1 1]).run Try.prog (w1.alloc (.cells #[.string j.id, .string j.dest, vc] 49)) = .ok (.slice x (jl + 1) c) wA ∧ jl + 1 ≤ c ∧ c ≤ 9223372036854775807 ∧
      JobStep mb F j q' vj w ((((wA.setCell ⟨mb, 10, none⟩ (.slice x (jl + 1) c)).setCell ⟨w.heap.size, 0, none⟩ (.string j.id)).setCell ⟨w.heap.size, 1, none⟩ (.string j.dest)).setCell ⟨w.heap.size, 2, none⟩ vj) ∧
      wA.cell? ⟨mb, 10, none⟩ = some jv ∧ wA.frozen? ⟨mb, 10, none⟩ = false ∧ (wA.cell? ⟨jb, 0, none⟩ = some (.string j.id) ∧ wA.cell? ⟨jb, 1, none⟩ = some (.string j.dest) ∧ wA.cell? ⟨jb, 2, none⟩ = some vj) ∧
      (wA.cell? ⟨w.heap.size, 0, none⟩ = some (.string ByteArray.empty) ∧ wA.cell? ⟨w.heap.size, 1, none⟩ = some (.string ByteArray.empty) ∧ wA.cell? ⟨w.heap.size, 2, none⟩ = some (.slice none 0 0) ∧ ∀ o, wA.frozen? ⟨w.heap.size, o, none⟩ = false) ∧ jb ≠ mb ∧ w.heap.size ≠ mb ∧ jb ≠ w.heap.size ∧ mb < wA.heap.size

/-- The append of the job. -/
theorem NextI.jobruns {w wr w1 : World} {mb : Nat} {L0 : Lq} {F : Nat → Prop} {db tb zb jb a : Nat} {n : ByteArray} {z : LM} {vj vc : Value} (h : NextI w wr mb L0 F db tb zb jb a n z z.m.rs.length z.m.rs.length vj) (hlt : ∀ k, F k → k < w.heap.size) (hx1 : Ext (fun _ => False) wr w1)
    (hc : w1.ownsRow wr.heap.size 3 1 vc (takeF n z.m.rs).2.length (intsC (takeF n z.m.rs).2)) (hj : L0.jobs.length ≤ 50000) {xv : Option Addr} {nv cv : Nat} (hv : vc = .slice xv nv cv) :
    JobRuns w w1 mb F ⟨z.m.id, n, (takeF n z.m.rs).2⟩ { (turned L0 a { z.m with rs := (takeF n z.m.rs).1 }).q with jobs := L0.q.jobs ++ [⟨z.m.id, n, (takeF n z.m.rs).2⟩] } vj vc L0.jv L0.jobs.length jb := by
  obtain ⟨i, j1, j2, j3, j4⟩ := info49
  have h1 := h.mg.quiet hx1
  have ec := (MapKept.heap_alloc w1 (.cells #[.string z.m.id, .string n, vc] 49)).1
  obtain ⟨v', wA, hr, hown, hg, -, hb⟩ := run_append_own_at (P := Try.prog) (w1.alloc (.cells #[.string z.m.id, .string n, vc] 49)) 0 60 60 49 i _ 3 56 Try.underlying60 j1 j2 j3 j4 rfl (by decide) L0.jv L0.jobs.length (L0.jobs.flatMap jbC) (h1.jrow.alloc _) ⟨w1.heap.size, 0, none⟩ 1 1 [.string z.m.id, .string n, vc] rfl
    (fun j u hu => by
      have ea : (⟨w1.heap.size, 0, none⟩ : Addr).add j = ⟨w1.heap.size, j, none⟩ := by
        unfold Addr.add
        by_cases h0 : j = 0
        · subst h0; rfl
        · simp [h0]
      rw [ea]
      unfold World.cell?
      simp only [ec]
      simpa using hu)
    (fun u hu => by simp at hu; rcases hu with rfl | rfl | rfl; rfl; rfl; rw [hv]; rfl) (by unfold maxLen; omega) (by omega) (Nat.zero_le _)
  obtain ⟨x, c, rfl, q1, q2⟩ := row_shape hown
  obtain ⟨f0, f1, f2, f3, f4⟩ := h.finish hlt hx1 hc hown hg (by simpa using hb)
  refine ⟨x, c, wA, hr, q1, q2, f0, f1, f2, ?_, ?_, fun e => h.nj.1 (by rw [e]; exact h.mg.fb.1), fun e => ?_, fun e => by have := h.nj.2; omega, ?_⟩
  · unfold jobO at f3
    simp [World.cell?, f3]
  · unfold resO at f4
    simp [World.cell?, World.frozen?, f4]
  · have := hlt _ h.mg.fb.1
    omega
  · have h3 := hg.size
    have := h1.mblt
    simp at h3
    omega
end Go.Proofs.Ytnakafmlenngnaa.Qm
