/- A range that came in by value. -/
import Derived.Test.YtpmmaickjolimaaGreatDoorCm
import Derived.ProofKit
import Derived.OpenShut
import Derived.ChangeArms
import Derived.DataShut
import Derived.Lib.SmallJoins
namespace Go.Proofs.YtpmmaickjolimaaGreatDoor.Ci
open Go.ChangeShapes Go.WideShapes Go.Joins

theorem cellsNet : Tryz.prog.cellsOf 25 = 18 := by kernel_rfl
theorem cellsArr : Tryz.prog.cellsOf 23 = 16 := by kernel_rfl
theorem cellsByte : Tryz.prog.cellsOf 5 = 1 := by kernel_rfl
theorem cellsBool : Tryz.prog.cellsOf 4 = 1 := by kernel_rfl
theorem cellsInt : Tryz.prog.cellsOf 3 = 1 := by kernel_rfl
theorem bytes_trod {H : Type} {enc : TypeId × Value → H} {W : World} {spare : Nat → Bool} {held : Bool} {b0 fuel : Nat} : ∀ (l : List Value),
    (∀ j, j < l.length → ∃ z, DataW.trod enc Tryz.prog W b0 spare held fuel 5 ((l.drop (j * Tryz.prog.cellsOf 5)).take (Tryz.prog.cellsOf 5)) = some z) → ∃ a : List Nat, (∀ y ∈ a, y < 256) ∧ l = a.map u8V
  | [], _ => ⟨[], by simp, rfl⟩
  | c :: l, h => by
    obtain ⟨z, hz⟩ := h 0 (by simp)
    rw [cellsByte] at hz
    obtain ⟨n, e, -, wn⟩ := DataW.trod_int Tryz.underlying5 hz
    have e : c = .int .u8 n := by simpa using e
    obtain ⟨w1, w2⟩ := (Lit.wf_int_iff _ _).1 wn
    have w1 : 0 ≤ n := w1
    have w2 : n ≤ 255 := w2
    obtain ⟨a, ha, hl⟩ := bytes_trod l fun j hj => by
      obtain ⟨z2, hz2⟩ := h (j + 1) (by simpa using hj)
      rw [cellsByte] at hz2 ⊢
      exact ⟨z2, by simpa using hz2⟩
    refine ⟨n.toNat :: a, fun y hy => ?_, ?_⟩
    · rcases List.mem_cons.1 hy with rfl | hy
      · omega
      · exact ha y hy
    · rw [List.map_cons, ← hl, e]
      unfold u8V
      rw [show ((n.toNat : Nat) : Int) = n by omega]
/-- A range's cells, out of its reading. -/
theorem net_trod {H : Type} {enc : TypeId × Value → H} {W : World} {spare : Nat → Bool} {held : Bool} {b0 fuel : Nat} {cs : List Value} {x : DataW H × List MemPlace}
    (h : DataW.trod enc Tryz.prog W b0 spare held fuel 25 cs = some x) : ∃ n : Nt, n.Fits ∧ cs = netC n := by
  obtain ⟨ys, n', hn', hy, hlen, hyl, hf⟩ := DataW.trod_struct Tryz.underlying25 h
  rw [cellsNet] at hlen
  have h0 : DataW.trod enc Tryz.prog W b0 spare held n' 4 ((cs.drop 0).take (Tryz.prog.cellsOf 4)) = ys[0]? := hf 0 _ rfl
  have h1 : DataW.trod enc Tryz.prog W b0 spare held n' 3 ((cs.drop 1).take (Tryz.prog.cellsOf 3)) = ys[1]? := hf 1 _ rfl
  have h2 : DataW.trod enc Tryz.prog W b0 spare held n' 23 ((cs.drop 2).take (Tryz.prog.cellsOf 23)) = ys[2]? := hf 2 _ rfl
  rw [cellsBool, List.getElem?_eq_getElem (by rw [hyl]; decide)] at h0
  rw [cellsInt, List.getElem?_eq_getElem (by rw [hyl]; decide)] at h1
  rw [cellsArr, List.getElem?_eq_getElem (by rw [hyl]; decide)] at h2
  obtain ⟨b, e0, -⟩ := DataW.trod_bool Tryz.underlying4 h0
  obtain ⟨i, e1, -, wi⟩ := DataW.trod_int Tryz.underlying3 h1
  obtain ⟨xs, m, -, -, -, hxl, hx⟩ := DataW.trod_array Tryz.underlying23 h2
  obtain ⟨c0, r, rfl⟩ : ∃ c0 r, cs = c0 :: r := by cases cs with
    | nil => cases hlen
    | cons c0 r => exact ⟨c0, r, rfl⟩
  obtain ⟨c1, l, rfl⟩ : ∃ c1 l, r = c1 :: l := by cases r with
    | nil => cases hlen
    | cons c1 l => exact ⟨c1, l, rfl⟩
  have hl16 : l.length = 16 := by simpa using hlen
  have hd : ((c0 :: c1 :: l).drop 2).take 16 = l := by rw [List.drop_succ_cons, List.drop_succ_cons, List.drop_zero, List.take_of_length_le (by omega)]
  rw [hd] at hx
  obtain ⟨a, ha, hl⟩ := bytes_trod (enc := enc) (W := W) (b0 := b0) (spare := spare) (held := held) (fuel := m) l fun j hj => ⟨_, (hx j (by omega)).trans (List.getElem?_eq_getElem (by omega))⟩
  obtain ⟨w1, w2⟩ := (Lit.wf_int_iff _ _).1 wi
  have e0 : c0 = .bool b := by simpa using e0
  have e1 : c1 = .int .i64 i := by simpa using e1
  have hlen := congrArg List.length hl
  rw [List.length_map] at hlen
  refine ⟨⟨b, i, a⟩, ⟨w1, w2, hlen.symm.trans hl16, ha⟩, ?_⟩
  unfold netC
  rw [e0, e1, hl]
set_option maxRecDepth 100000 in
theorem net_of {H : Type} {enc : TypeId × Value → H} {W : World} {r : Reach} {b0 : Nat} {v : Value} {d : DataW H} {ps : List MemPlace} (hv : Value.okWide Tryz.prog W r b0 25 v)
    (h : DataW.Trod enc Tryz.prog W 0 (fun _ => true) true 25 v d ps) : ∃ n : Nt, n.Fits ∧ v = netV n := by
  obtain ⟨cs, rfl, hsz⟩ := okWide_struct Tryz.underlying25 hv
  obtain ⟨fuel, hf⟩ := h
  obtain ⟨n, hn, e⟩ := net_trod hf
  refine ⟨n, hn, ?_⟩
  unfold netV
  rw [← e]
  simp [Value.cells]
end Go.Proofs.YtpmmaickjolimaaGreatDoor.Ci
