/- The law's awake. -/
import Derived.Test.YtnakafmlenngnaaQnext
namespace Go.Proofs.Ytnakafmlenngnaa.Qm
open Go.RowKit Go.Proofs.Ytnakafmlenngnaa.Wi

theorem strs1 (w : World) (s : ByteArray) (ty : TypeId) : StrsAt (w.alloc (.cells #[.string s] ty)) (some ⟨w.heap.size, 0, none⟩) [s] := by
  have e := (MapKept.heap_alloc w (.cells #[.string s] ty)).1
  refine ⟨by simp, fun k hk => ⟨w.heap.size, 0, rfl, by simp, ?_⟩⟩
  obtain rfl : k = 0 := by simpa using hk
  unfold World.cell?
  rw [e]
  rfl

def lmA : Lm := ⟨1, 1, 1, 1, 1, 0⟩
def tA : ByteArray := ⟨#[97]⟩
def tX : ByteArray := ⟨#[120]⟩
def qA : Qs := (add (begin0 lmA) tA 0 [tX] 0).2

theorem qA_ok : (add (begin0 lmA) tA 0 [tX] 0).1 = 0 := by decide +kernel
theorem qA_next : (match next qA with | none => false | some x => decide (x.1.id = tA) && decide (x.1.dest = tX)) = true := by decide +kernel

theorem NextPost.sure {mb : Nat} {F : Nat → Prop} {q : Qs} {w : World} {e : Ending} {w' : World} {i d : ByteArray} (h : NextPost mb F q w e w') (hq : (match next q with | none => false | some x => decide (x.1.id = i) && decide (x.1.dest = d)) = true) :
    ∃ j q' v, next q = some (j, q') ∧ j.id = i ∧ j.dest = d ∧ e = .returned (.tuple #[.agg #[.string i, .string d, v], .bool true]) ∧ JobStep mb F j q' v w w' := by
  rcases h with ⟨h1, -⟩ | ⟨j, q', v, h1, rfl, h3⟩
  · rw [h1] at hq; cases hq
  · rw [h1] at hq
    simp only [Bool.and_eq_true, decide_eq_true_eq] at hq
    exact ⟨j, q', v, h1, hq.1, hq.2, by rw [hq.1, hq.2], h3⟩

set_option maxHeartbeats 4000000 in
set_option maxRecDepth 100000 in
theorem awake_run (w : World) : Calls Try.prog 26 #[] w fun e w' => e = .returned (.bool true) ∧ Ext (fun _ => False) w w' := by
  have HN := (show Hid (∀ W, Calls Try.prog 27 #[.agg #[.int .i64 1, .int .i64 1, .int .i64 1, .int .i64 1, .int .i64 1, .int .i64 0]] W (NewPost lmA W)) from fun W => new_ok_run lmA (by unfold Lm.Ok lmA; decide) W)
  have HA := (show Hid (∀ mb L F W, Mg W mb L F → L.q = begin0 lmA → Calls Try.prog 28 #[.pointer (some ⟨mb, 0, none⟩), .string tA, .int .i64 0, .slice (some ⟨W.heap.size, 0, none⟩) 1 1, .int .i64 0] (W.alloc (.cells #[.string tX] 9)) fun e w' => e = .returned (.int .i64 0) ∧ StepPost mb F qA (W.alloc (.cells #[.string tX] 9)) w') from by
    intro mb L F W hM hq
    have hl : L.ms.length = 0 ∧ L.ds.length = 0 := by
      have h1 := congrArg (fun q => q.ms.length) hq
      have h2 := congrArg (fun q => q.ds.length) hq
      simp [Lq.q, begin0] at h1 h2
      simp [h1, h2]
    refine (add_run mb L F tA 0 0 _ [tX] 1 _ (hM.quiet ((Ext.refl _ _).alloc _)) (by omega) (by omega) (strs1 W tX 9) (fun b o e f => ?_)).mono ?_
    · injection e with e
      injection e with e
      have := hM.lt b f
      omega
    · rintro e w' ⟨rfl, h⟩
      rw [hq] at h ⊢
      rw [qA_ok]
      exact ⟨rfl, h⟩)
  have HX := (show Hid (∀ mb L F W, Mg W mb L F → L.q = qA → Calls Try.prog 29 #[.pointer (some ⟨mb, 0, none⟩)] W (NextPost mb F qA W)) from by
    intro mb L F W hM hq
    have hl : L.ms.length = 1 ∧ L.ds.length = 1 ∧ L.jobs.length = 0 := by
      have h1 := congrArg (fun q => q.ms.length) hq
      have h2 := congrArg (fun q => q.ds.length) hq
      have h3 := congrArg (fun q => q.jobs.length) hq
      have e1 : qA.ms.length = 1 := by decide +kernel
      have e2 : qA.ds.length = 1 := by decide +kernel
      have e3 : qA.jobs.length = 0 := by decide +kernel
      simp only [Lq.q, List.length_map] at h1 h2 h3
      omega
    rw [← hq]
    exact next_run mb L F W hM (by omega) (by omega) (by omega))
  unfold tA tX at HA
  go_enter Try.func26, Try.ntmps26
  go_wp2_with fail
  refine (HN.out _).mono ?_
  rintro e w1 ⟨mb, L, F, rfl, hM, hq, hx, hF⟩
  have HA1 := hid (HA.out mb L F w1 hM hq)
  have HF := hid hF
  have HX1 := hid hx
  clear HN HA hM hq hx hF
  go_wp2_with fail
  refine HA1.out.mono ?_
  rintro e w2 ⟨rfl, L2, F2, hM2, hG2, hX2, hq2⟩
  have HX3 := hid (HX.out mb L2 F2 w2 hM2 hq2)
  have H2 := hid (And.intro hG2 hX2)
  clear hM2 hG2 hX2 hq2 HX HA1
  go_wp2_with fail
  refine HX3.out.mono ?_
  intro e w3 hn
  obtain ⟨j, q', v, -, -, -, rfl, L3, F3, -, -, hX3, -, hr3, -⟩ := hn.sure qA_next
  have HE : Hid (Ext (fun _ => False) w w3) := by
    show Ext _ _ _
    have a1 := HX1.out
    have a2 := (Ext.refl F w1).alloc (.cells #[.string tX] 9)
    have a3 := a2.trans H2.out.2
    have a4 := a3.grow (fun k hk => by
      rcases H2.out.1 k hk with f | f
      · exact .inl f
      · refine .inr ⟨?_, f.2⟩
        have := f.1
        simp at this
        omega) hX3
    exact ⟨a4.os.trans a1.os, a4.tape.trans a1.tape, a4.output.trans a1.output, Nat.le_trans a1.size a4.size, fun k hk _ => (a4.block k (Nat.lt_of_lt_of_le hk a1.size) fun f => by have := HF.out k f; omega).trans (a1.block k hk fun f => f)⟩
  obtain ⟨xv, cv, rfl, v1, v2⟩ := row_shape hr3
  unfold tA tX
  clear hn hX3 hr3 HX3 HX1 HF H2
  go_wp2_with fail
  go_ret
  exact ⟨rfl, HE.out.trans ((Ext.refl _ _).alloc _)⟩
end Go.Proofs.Ytnakafmlenngnaa.Qm
