/- The row of CidrWithin: the given statement from the walk of the law. -/
import Derived.Test.YtpmmaickjolimaaDoorCards
import Derived.Test.YtpmmaickjolimaaDoorTie
import Derived.Test.YtpmmaickjolimaaDoorDi
import Derived.Test.YtpmmaickjolimaaDoorDj
import Derived.Test.YtpmmaickjolimaaDoorCz
import Derived.Test.YtpmmaickjolimaaDoorCk
import Derived.WalkKit
import Derived.ProofKit
import Derived.OpenShut
import Derived.ShutString
import Derived.ChangeOld
import Derived.Below
import Derived.Carry
import Derived.SevenTiedAt
import Derived.SizedLaws
namespace Go.Proofs.YtpmmaickjolimaaDoor.cidrWithin
open Go.ChangeShapes Go.WideShapes Go.ChangeAt Go.RowKit Go.Proofs.YtpmmaickjolimaaDoor.Ci
open Go.ChangeMaps (open_string shut_string)
set_option linter.unusedVariables false

theorem laidOut : laidOutB Tryd.prog = true := by kernel_rfl
theorem reads (os : Os) {H : Type} (enc : TypeId × Value → H) : ∃ places, DataW.whole enc Tryd.prog ((laidWorld os).forCall (fun _ _ => 0) ⟨#[], #[netV (⟨false, 0, List.replicate 16 0⟩ : Nt), netV (⟨false, 0, List.replicate 16 0⟩ : Nt), .slice none 0 0], []⟩).memory Tryd.f6.params.toList Rows.cidrWithinSpec.vars false #[netV (⟨false, 0, List.replicate 16 0⟩ : Nt), netV (⟨false, 0, List.replicate 16 0⟩ : Nt), .slice none 0 0].toList 8 = some ([.agg [.lit (.bool false), .lit (.int .i64 0), .agg (List.replicate 16 (.lit (.int .u8 0)))], .agg [.lit (.bool false), .lit (.int .i64 0), .agg (List.replicate 16 (.lit (.int .u8 0)))], .nil], [], places) :=
  ⟨[], by kernel_rfl⟩

set_option maxRecDepth 100000 in
theorem lifted (os : Os) (started : os.Started) (H : Type) (enc : TypeId × Value → H) (F : Stop.Interp) :
    ReturnsInHanded {} Tryd.checked os 6 .any ((OpenSpec.ofChange Rows.cidrWithinSpec).preRow enc Tryd.prog Tryd.f6 Rows.cidrWithinRow.domain false Rows.cidrWithinRow.laid) (((OpenSpec.ofChange Rows.cidrWithinSpec).at F).post enc Tryd.prog Tryd.f6 false true false false) := by
  obtain ⟨places, hx⟩ := reads os enc
  refine returnsInHanded_of_row (C := Tryd.checked) (s := OpenSpec.ofChange Rows.cidrWithinSpec) own started (by kernel_rfl) Tryd.func6
    (witness_row_atRef (enc := enc) (C := Tryd.checked) false (laidWorld os) #[netV (⟨false, 0, List.replicate 16 0⟩ : Nt), netV (⟨false, 0, List.replicate 16 0⟩ : Nt), .slice none 0 0] rfl (by kernel_rfl) (by kernel_rfl) (by kernel_rfl)
      (OpenSpec.preRow_of_cond 8 hx (by kernel_rfl) (fun k hk => by cases hk) (by kernel_rfl) (laid_met os _))) ?_
  intro W base args ds gs before hval0 hW _ _ hz hL hS _
  have HL := lay_of (W := W) hL hS
  have hval : ∀ (j : Nat) t v, Tryd.f6.params[j]? = some t → args[j]? = some v → Value.okWide Tryd.prog W .any base t v := hval0
  have hW' := hW
  obtain ⟨p, q, hA0, hV, rfl, hfz, hnd⟩ := hW
  have hA : DataW.TrodAll enc Tryd.prog W 0 (fun _ => true) true Tryd.f6.params.toList args.toList ds p := hA0
  rw [Tryd.params6] at hA hval
  obtain ⟨v0, vs0, d0, ds0, p0, q0, hargs, rfl, rfl, h0, r0⟩ := trodAll_cons hA
  obtain ⟨v1, vs1, d1, ds1, p1, q1, rfl, rfl, rfl, h1, r1⟩ := trodAll_cons r0
  obtain ⟨v2, vs2, d2, ds2, p2, q2, rfl, rfl, rfl, h2, r2⟩ := trodAll_cons r1
  obtain ⟨rfl, rfl, rfl⟩ := trodAll_nil r2
  obtain rfl : args = #[v0, v1, v2] := by cases args; simp_all
  obtain ⟨rfl, rfl⟩ := trodVars_none hV
  have k0 := h0
  have lt0 : ∀ x ∈ p0, x.block < W.heap.size := by obtain ⟨m, hm⟩ := k0; exact DataW.trod_lt m _ _ _ hm
  have k1 := h1
  have lt1 : ∀ x ∈ p1, x.block < W.heap.size := by obtain ⟨m, hm⟩ := k1; exact DataW.trod_lt m _ _ _ hm
  have k2 := h2
  have lt2 : ∀ x ∈ p2, x.block < W.heap.size := by obtain ⟨m, hm⟩ := k2; exact DataW.trod_lt m _ _ _ hm
  obtain ⟨a, ha, rfl⟩ := net_of (hval 0 24 v0 rfl rfl) h0
  obtain ⟨c, hc, rfl⟩ := net_of (hval 1 24 v1 rfl rfl) h1
  obtain ⟨x, len, cap, rfl⟩ := okWide_slice Tryd.underlying35 (hval 2 35 v2 rfl rfl)
  obtain ⟨Ls, rfl, hN, hd⟩ := nets_of h2
  have hx : x = none ∧ Ls.length = 0 ∧ cap = 0 ∨ ∃ ad, x = some ad := by
    rcases hd with hd | ⟨ad, _, _, e, _⟩
    · exact .inl hd
    · exact .inr ⟨ad, e⟩
  have hm : Ls.length * 32 ≤ 140737488355328 := by
    rcases hd with hd | ⟨ad, el, sp, _, rfl, hl, _⟩
    · rw [hd.2.1]; decide
    · rw [Tryd.params6] at hz
      have := sized_slice hz (j := 2) (t := 35) (elems := el) (spare := sp) rfl rfl Tryd.underlying35
      rw [hl, show Tryd.checked.prog.bytesOf 24 = 32 by kernel_rfl] at this
      have := reachBytes_lt
      omega
  clear hA0 hval0
  refine (withinlaw_run a c ha hc Ls x cap hx hm W HL hN).mono fun e W' ⟨he, bel⟩ => ?_
  subst he
  exact ⟨_, rfl, _, _, _, [], _, [], hW', trodAll_mk1 (shut_bool Tryd.underlying4 _), (trodAll_cons_mk (Below.trod laidOut (by kernel_rfl) (of_decide_eq_true (by kernel_rfl)) k0 bel lt0) (trodAll_cons_mk (Below.trod laidOut (by kernel_rfl) (of_decide_eq_true (by kernel_rfl)) k1 bel lt1) (trodAll_cons_mk (Below.trod laidOut (by kernel_rfl) (of_decide_eq_true (by kernel_rfl)) k2 bel lt2) trodAll_mk0))), rfl, bel.frame _, fun h => by cases h⟩

theorem said : Rows.CidrWithinSaid :=
  OpenClaim.holds_of_cond 6 Tryd.f6 rfl rfl rfl rfl rfl rfl rfl ⟨rfl, rfl, rfl, rfl, rfl⟩ rfl rfl rfl rfl rfl (by kernel_rfl) Tryd.func6 (by kernel_rfl)
    (of_decide_eq_true (by kernel_rfl)) (by unfold Func.isWrapper; first | (rw [if_pos (by decide +kernel)]; kernel_rfl) | (rw [if_neg (by decide +kernel)]; exact ⟨rfl, rfl⟩))
    (fun os started H enc _ F => by rw [OpenClaim.pre_eq_preRow]; exact lifted os started H enc F)
theorem plain (f : FuncId) (fn : Func) (hf : Tryd.pinned.checked.prog.funcNamed "waybill/waybilllaw07.CidrWithin" = some f) (hfn : Tryd.pinned.checked.prog.funcs[f]? = some fn) :
    true = Tryd.pinned.checked.prog.looks [] ∧ ∀ (j : Nat) t, fn.params[j]? = some t → Tryd.pinned.checked.prog.wantsStandIn t = false := by
  obtain rfl : f = 6 := Option.some.inj ((show Tryd.prog.funcNamed "waybill/waybilllaw07.CidrWithin" = some 6 by kernel_rfl).symm.trans hf) |>.symm
  obtain rfl : fn = Tryd.f6 := (Option.some.inj (Tryd.func6.symm.trans hfn)).symm
  refine ⟨by kernel_rfl, fun j t ht => ?_⟩
  rw [Tryd.params6] at ht
  have hm := Array.mem_of_getElem? ht
  have : t = 24 ∨ t = 35 := by simpa using hm
  rcases this with rfl | rfl
  · exact (show Tryd.prog.wantsStandIn 24 = false by kernel_rfl)
  · exact (show Tryd.prog.wantsStandIn 35 = false by kernel_rfl)
/-- The card. -/
theorem proved : Rows.CidrWithinCardSaid :=
  Claim7.holds_tied_plain_at .later [] _ _ _ _ said (fun _ h => by cases h) (by kernel_rfl) (fun _ h => by cases h) cidrWithin_row_tie rfl ⟨rfl, rfl⟩ (by kernel_rfl) rfl plain (by kernel_rfl)
end Go.Proofs.YtpmmaickjolimaaDoor.cidrWithin
