/- Done: where there is no such job. -/
import Derived.Test.YtnakafmlenngnaaQdo
namespace Go.Proofs.Ytnakafmlenngnaa.Qm
open Go.RowKit Go.Proofs.Ytnakafmlenngnaa.Wi

def airV (L : Lq) (j : Jb) : Int := if jIdx L.q.jobs j < L.jobs.length then (jIdx L.q.jobs j : Nat) else -1

theorem airV_run (mb : Nat) (L : Lq) (F : Nat → Prop) (j : Jb) (y : Option Addr) (c : Nat) (w : World) (h : Mg w mb L F) (hy : IntsL w y j.rs) :
    Calls Try.prog 59 #[.pointer (some ⟨mb, 0, none⟩), .agg #[.string j.id, .string j.dest, .slice y j.rs.length c]] w (QuietPost (.int .i64 (airV L j)) w) := by
  refine (air_run mb L F j y c w h hy).mono ?_
  rintro e w' ⟨⟨r, rfl, hr⟩, hx⟩
  refine ⟨?_, hx⟩
  unfold airV
  rcases hr with ⟨h1, rfl⟩ | ⟨rfl, h1⟩
  · rw [if_pos h1]
  · rw [if_neg h1]

/-- The calls that come first in Done. -/
def DonePre (j : Jb) (rx : Option Addr) (rc n : Nat) (now : Int) (w : World) : Prop :=
  (∀ (W : World) (g : Nat), W.cell? ⟨g, 0, none⟩ = some (.int .i64 now) → Calls Try.prog 44 #[.slice (some ⟨g, 0, none⟩) 1 1] W fun e w' => e = .returned (.bool true) ∧ W = w') ∧
  (∀ W, Ext (fun _ => False) w W → Calls Try.prog 58 #[.slice rx n rc, .func (.func 57) #[] #[]] W fun e w' => e = .returned (.bool false) ∧ W = w') ∧ n = j.rs.length

theorem done_pre {j : Jb} {rx : Option Addr} (rc : Nat) {res : List Int} {now : Int} {w : World} (hr : ResL w rx res) (hb : doneOk j res now = true) : DonePre j rx rc res.length now w := by
  rw [doneOk_eq] at hb
  simp only [Bool.and_eq_true, decide_eq_true_eq, Bool.not_eq_true'] at hb
  obtain ⟨⟨h1, h2⟩, h3⟩ := hb
  refine ⟨fun W g hg => istime_one W g now true h1 hg, fun W hW => ?_, h2⟩
  rw [← h3]
  exact odd_any rx res rc W (hr.quiet hW)

/-- The box of the job that was handed in. -/
def JBox (w w' : World) (j : Jb) (v : Value) : Prop := w'.heap[w.heap.size]? = some (.cells #[.string j.id, .string j.dest, v] 49 (0, 0)) ∧ Ext (fun _ => False) w w'
theorem JBox.quiet {w W W' : World} {j : Jb} {v : Value} (h : JBox w W j v) (hx : Ext (fun _ => False) W W') : JBox w W' j v := ⟨(hx.block _ (heap_lt h.1) fun f => f).trans h.1, h.2.trans hx⟩
theorem JBox.here {w w' : World} {j : Jb} {v : Value} (h : JBox w w' j v) : Ext (fun _ => False) w w' := h.2
theorem JBox.cells {w w' : World} {j : Jb} {v : Value} (h : JBox w w' j v) : w'.cell? ⟨w.heap.size, 0, none⟩ = some (.string j.id) ∧ w'.cell? ⟨w.heap.size, 1, none⟩ = some (.string j.dest) ∧ w'.cell? ⟨w.heap.size, 2, none⟩ = some v := by
  have := h.1
  simp [World.cell?, this]
theorem JBox.start (w : World) (j : Jb) (v u : Value) (t : TypeId) : JBox w ((w.alloc (.cells #[.string j.id, .string j.dest, v] 49)).alloc (.cells #[u] t)) j v :=
  ⟨(Below.heap_alloc _ _ _ (by simp)).trans (MapKept.heap_alloc w _).1, ((Ext.refl _ _).alloc _).alloc _⟩

/-- What the region with the two looks keeps. -/
theorem holdJ {w W W' : World} {j : Jb} {v : Value} (h : W.cell? ⟨w.heap.size, 0, none⟩ = some (.string j.id) ∧ W.cell? ⟨w.heap.size, 1, none⟩ = some (.string j.dest) ∧ W.cell? ⟨w.heap.size, 2, none⟩ = some v ∧ JBox w W j v) (hx : Ext (fun _ => False) W W') :
    W'.cell? ⟨w.heap.size, 0, none⟩ = some (.string j.id) ∧ W'.cell? ⟨w.heap.size, 1, none⟩ = some (.string j.dest) ∧ W'.cell? ⟨w.heap.size, 2, none⟩ = some v ∧ JBox w W' j v := by
  have := h.2.2.2.quiet hx
  obtain ⟨a, b, c⟩ := this.cells
  exact ⟨a, b, c, this⟩

set_option maxHeartbeats 8000000 in
set_option maxRecDepth 100000 in
theorem done_none_run (mb : Nat) (L : Lq) (F : Nat → Prop) (j : Jb) (y : Option Addr) (c : Nat) (rx : Option Addr) (rc : Nat) (res : List Int) (g : Bool) (now : Int) (w : World) (hM : Mg w mb L F) (hy : IntsL w y j.rs) (hr : ResL w rx res) (hb : doneOk j res now = true)
    (hno : ¬ mIdx L.q.ms j.id < L.ms.length ∨ ¬ jIdx L.q.jobs j < L.jobs.length) :
    Calls Try.prog 30 #[.pointer (some ⟨mb, 0, none⟩), .agg #[.string j.id, .string j.dest, .slice y j.rs.length c], .slice rx res.length rc, .bool g, .int .i64 now] w (QuietPost (.int .i64 222) w) := by
  obtain ⟨ht, ho, hl⟩ := done_pre rc hr hb
  have hxa : Ext (fun _ => False) w ((w.alloc (.cells #[.string j.id, .string j.dest, .slice y j.rs.length c] 49)).alloc (.cells #[.int .i64 now] 3)) := ((Ext.refl _ _).alloc _).alloc _
  have HT := hid ht
  have HO := hid (ho _ hxa)
  rw [hl] at HO ⊢
  have HF := (show Hid (∀ W, Ext (fun _ => False) w W → Calls Try.prog 48 #[.pointer (some ⟨mb, 0, none⟩), .string j.id] W (QuietPost (foundV L (mIdx L.q.ms j.id)) W)) from fun W hW => find_run mb L F j.id W (hM.quiet hW))
  have HA := (show Hid (∀ W, Ext (fun _ => False) w W → Calls Try.prog 59 #[.pointer (some ⟨mb, 0, none⟩), .agg #[.string j.id, .string j.dest, .slice y j.rs.length c]] W (QuietPost (.int .i64 (airV L j)) W)) from fun W hW => airV_run mb L F j y c W (hM.quiet hW) (hy.quiet hW))
  have hv : foundV L (mIdx L.q.ms j.id) = .pointer none ∨ airV L j = -1 := by
    rcases hno with h | h
    · left; unfold foundV; rw [List.getElem?_eq_none (by omega)]; rfl
    · right; unfold airV; rw [if_neg h]
  have hf : ∃ p, foundV L (mIdx L.q.ms j.id) = .pointer p := ⟨_, rfl⟩
  obtain ⟨p, hp⟩ := hf
  rw [hp] at HF hv
  generalize airV L j = av at HA hv
  have hv' : p = none ∨ av = -1 := by
    rcases hv with h | h
    · left; injection h
    · exact .inr h
  clear hM hy hr hb hno ht ho hl hp hv
  go_enter Try.func30, Try.ntmps30
  go_upto_region 4 with (first | (go_at_call 44; refine (HT.out _ _ ?_).mono ?_; (go_simp); rintro e w1 ⟨rfl, rfl⟩) | (go_at_call 58; refine HO.out.mono ?_; rintro e w1 ⟨rfl, rfl⟩))
  have hB := JBox.start w j (.slice y j.rs.length c) (.int .i64 now) 3
  generalize ((w.alloc (.cells #[.string j.id, .string j.dest, .slice y j.rs.length c] 49)).alloc (.cells #[.int .i64 now] 3)) = w1 at hB ⊢
  have hS0 : w1.drew.cell? ⟨w.heap.size, 0, none⟩ = some (.string j.id) ∧ w1.drew.cell? ⟨w.heap.size, 1, none⟩ = some (.string j.dest) ∧ w1.drew.cell? ⟨w.heap.size, 2, none⟩ = some (.slice y j.rs.length c) ∧ JBox w w1.drew j (.slice y j.rs.length c) := by
    have := hB.quiet (Ext.refl _ _).drew
    obtain ⟨a, b, c⟩ := this.cells
    exact ⟨a, b, c, this⟩
  clear hxa HT HO hB
  go_cut [12, 13] (fun u v wx => u = .pointer p ∧ v = .int .i64 av ∧ Hid (JBox w wx j (.slice y j.rs.length c)))
  case first =>
    go_wp2_with fail
    go_region_held3 (fun w' => w'.cell? ⟨w.heap.size, 0, none⟩ = some (.string j.id) ∧ w'.cell? ⟨w.heap.size, 1, none⟩ = some (.string j.dest) ∧ w'.cell? ⟨w.heap.size, 2, none⟩ = some (.slice y j.rs.length c) ∧ JBox w w' j (.slice y j.rs.length c)) (assumption)
      (first
        | (go_at_call 48; refine (HF.out _ ?_).mono ?_; (refine JBox.here (j := j) (v := .slice y j.rs.length c) ?_; apply And.right; apply And.right; apply And.right; assumption); rintro e wz ⟨rfl, hxz⟩; have hs' := holdJ (by assumption) hxz)
        | (go_at_call 59; refine (HA.out _ ?_).mono ?_; (refine JBox.here (j := j) (v := .slice y j.rs.length c) ?_; apply And.right; apply And.right; apply And.right; assumption); rintro e wz ⟨rfl, hxz⟩; have hs' := holdJ (by assumption) hxz))
    all_goals go_wp2_with fail
    all_goals go_meet
    all_goals exact ⟨rfl, rfl, by apply And.right; apply And.right; apply And.right; assumption⟩
  case rest =>
    obtain ⟨rfl, rfl, HJ⟩ := hcut
    clear HF HA hS0
    rcases hv' with rfl | rfl
    · go_wp2_with fail
      go_ret
      exact ⟨rfl, HJ.out.2⟩
    · cases p with
      | none =>
        go_wp2_with fail
        go_ret
        exact ⟨rfl, HJ.out.2⟩
      | some p =>
        go_wp2_with fail
        go_ret
        exact ⟨rfl, HJ.out.2⟩
end Go.Proofs.Ytnakafmlenngnaa.Qm
