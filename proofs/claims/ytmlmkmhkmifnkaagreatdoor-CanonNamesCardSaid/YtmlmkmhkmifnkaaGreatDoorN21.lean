/- Walk of the law of names. -/
import Derived.Test.YtmlmkmhkmifnkaaGreatDoorN20
import Derived.Test.YtmlmkmhkmifnkaaGreatDoorN17
import Derived.Test.YtmlmkmhkmifnkaaGreatDoorRows
import Derived.Test.YtmlmkmhkmifnkaaGreatDoorN03
import Derived.Deep.DeepHandedRow
import Derived.Deep.DeepWitnessRowRef
import Derived.Lib.LaidIn
import Derived.Lib.LaidTab
import Derived.Lib.LaidU8
import Derived.Lib.LaidCaseMet
import Derived.PinnedBridge
import Derived.Test.YtmlmkmhkmifnkaaGreatDoorN02
import Derived.Stop.LaidErr
import Derived.HandedShaped
import Derived.WalkSmall
import Derived.ProofKit
import Derived.Test.YtmlmkmhkmifnkaaGreatDoorN19
import Derived.Test.YtmlmkmhkmifnkaaGreatDoorN11
import Derived.OpenShut
import Derived.ChangeArms
import Derived.DataShut
import Derived.Deep.Slices
import Derived.Deep.Fields
import Derived.ChangeSame
import Derived.Carry
namespace Go.Proofs.YtmlmkmhkmifnkaaGreatDoor.Tb
open Go.RowKit
open Ci (Bel hid Aft wp_region_aft)

/-- The names, the first k written over. -/
def curN (v : Value) (k : Nat) : Array Value := (List.replicate k v ++ nmsV.drop k).toArray
theorem curN_at (v : Value) (k : Nat) (hk : k < 12) : (curN v k)[k]? = some (.string ⟨((nmsL[k]?).getD []).toArray⟩) := by
  have h := nms_at k hk
  unfold curN
  rw [List.getElem?_toArray, List.getElem?_append_right (by rw [List.length_replicate]; exact Nat.le_refl _), List.length_replicate, Nat.sub_self, List.getElem?_drop, Nat.add_zero]
  rw [List.getElem?_toArray] at h
  exact h
theorem curN_set (v : Value) (k : Nat) (hk : k < 12) : (curN v k).setIfInBounds k v = curN v (k + 1) := by
  have hl : k < nmsV.length := hk
  unfold curN
  rw [List.setIfInBounds_toArray, List.set_append_right _ _ (by rw [List.length_replicate]; exact Nat.le_refl _), List.length_replicate, Nat.sub_self, List.drop_eq_getElem_cons hl, List.set_cons_zero, List.replicate_succ', List.append_assoc]
  rfl
set_option maxHeartbeats 4000000 in
set_option maxRecDepth 100000 in
theorem names_law (over : ByteArray) (w : World) (hw : Lat w) : Calls Tryz.prog 4 #[.string over] w fun e w' => e = .returned (.bool true) ∧ Bel w w' := by
  have HA := hid (cawake_run w hw)
  have HN := (show Hid (∀ W, Calls Tryz.prog 15 #[] W fun e w' => e = .returned (.slice (some ⟨W.heap.size, 0, none⟩) 12 12) ∧ w' = W.alloc (.cells nmsV.toArray 9)) from fun W => names_run W)
  have HR := (show Hid (∀ W, Calls Tryz.prog 16 #[] W fun e w' => e = .returned (.slice (some ⟨W.heap.size, 0, none⟩) 12 12) ∧ w' = W.alloc (.cells nmsV.toArray 9)) from fun W => rnames_run W)
  clear hw
  go_enter Tryz.func4, Tryz.ntmps4
  go_wp2_with (first | (go_at_call 10; refine HA.out.mono ?_; rintro _ w1 ⟨rfl, hb1⟩; have HB1 := hid hb1; clear hb1) | (go_at_call 15; refine (HN.out _).mono ?_; rintro _ w2 ⟨rfl, hw2⟩; have HW2 := hid hw2; have hz2 : w2.heap.size = w1.heap.size + 1 := (by rw [hw2, World.size_alloc]); clear hw2) | (go_at_call 16; refine (HR.out _).mono ?_; rintro _ w3 ⟨rfl, hw3⟩; rw [hz2]; have HW3 := hid hw3; clear hw3))
  have HB3 := hid (show Bel w1 w3 by rw [HW3.out, HW2.out]; exact ((Bel.refl w1).alloc _).alloc _)
  have HX3 := hid (show w3.heap[w1.heap.size]? = some (.cells (curN (.string over) 0) 9 (0, 0)) by rw [HW3.out, HW2.out]; exact Bel.heap ((Bel.refl _).alloc _) (heap_alloc_new w1 _))
  have HY3 := hid (show w3.heap[w1.heap.size + 1]? = some (.cells nmsV.toArray 9 (0, 0)) by rw [HW3.out, HW2.out]; exact Ci.alloc_second w1 _ _)
  clear HW2 HW3 hz2
  go_loopg [6] 12 (fun gg v6 wr => ∃ i : Nat, v6 = .int .i64 i ∧ i + gg = 12 ∧ Hid (Bel w1 wr ∧ wr.heap[w1.heap.size]? = some (.cells (curN (.string over) i) 9 (0, 0)) ∧ wr.heap[w1.heap.size + 1]? = some (.cells nmsV.toArray 9 (0, 0))))
  case atStart => exact ⟨0, rfl, by omega, hid ⟨HB3.out, HX3.out, HY3.out⟩⟩
  case round =>
    clear HB3 HX3 HY3
    obtain ⟨i, rfl, hi, H⟩ := hrel
    have Hi := hid hi
    have hin : i ≤ 12 := by omega
    clear hi
    by_cases hlt : i < 12
    · have e1 : ∀ P : Aft wr, P.wd.cell? ⟨w1.heap.size, i, none⟩ = some (.string ⟨((nmsL[i]?).getD []).toArray⟩) := fun P => by
        rw [Lib.cell_of_heap (P.bel.heap H.out.2.1)]
        exact curN_at _ i hlt
      have e2 : ∀ P : Aft wr, P.wd.cell? ⟨w1.heap.size + 1, i, none⟩ = some (.string ⟨((nmsL[i]?).getD []).toArray⟩) := fun P => by
        rw [Lib.cell_of_heap (P.bel.heap H.out.2.2)]
        exact nms_at i hlt
      have HS := hid (curN_set (.string over) i hlt)
      generalize (⟨((nmsL[i]?).getD []).toArray⟩ : ByteArray) = nm at e1 e2
      go_wp2_with fail
      refine wp_region_aft (by kernel_rfl) (by kernel_rfl) ?_
      repeat (first | go_big_quiet_skip | go_big_quiet_step (fail) | quiet_step (fail))
      refine wpQuiet_nil ?_
      rintro _ ⟨P6, rfl⟩
      have k1 := e1 P6
      have f1 : P6.wd.frozen? ⟨w1.heap.size, i, none⟩ = false := Lib.frozen_of_heap (P6.bel.heap H.out.2.1) i
      have HX := hid (P6.bel.heap H.out.2.1)
      have HY := hid (P6.bel.heap H.out.2.2)
      have HB := hid (H.out.1.trans P6.bel)
      go_wp2_with fail
      go_roundg (gk - 1)
      case measure => have := Hi.out; omega
      case rel => exact ⟨i + 1, by go_num, by have := Hi.out; omega, hid ⟨HB.out.setCell (Nat.le_refl _) _, (heap_setCell_same _ _ _ _ _ _ HX.out).trans (by rw [HS.out]), (heap_setCell_other _ _ _ _ (fun e => by have e : w1.heap.size + 1 = w1.heap.size := e; omega)).trans HY.out⟩⟩
    · obtain rfl : i = 12 := by omega
      go_wp2_with (first | (go_at_call 15; refine (HN.out _).mono ?_; rintro _ w5 ⟨rfl, hw5⟩; have HW5 := hid hw5; clear hw5))
      have HB5 := hid (show Bel wr w5 by rw [HW5.out]; exact (Bel.refl wr).alloc _)
      have HX5 := hid (show w5.heap[wr.heap.size]? = some (.cells nmsV.toArray 9 (0, 0)) by rw [HW5.out]; exact heap_alloc_new wr _)
      have e1 : ∀ P : Aft w5, P.wd.cell? ⟨wr.heap.size, 0, none⟩ = some (.string ⟨#[66, 99, 99]⟩) := fun P => by
        rw [Lib.cell_of_heap (P.bel.heap HX5.out)]; rfl
      have e2 : ∀ P : Aft w5, P.wd.cell? ⟨w1.heap.size + 1, 0, none⟩ = some (.string ⟨#[66, 99, 99]⟩) := fun P => by
        rw [Lib.cell_of_heap (P.bel.heap (HB5.out.heap H.out.2.2))]; rfl
      refine wp_region_aft (by kernel_rfl) (by kernel_rfl) ?_
      repeat (first | go_big_quiet_skip | go_big_quiet_step (fail) | quiet_step (fail))
      refine wpQuiet_nil ?_
      rintro _ ⟨P6, rfl⟩
      go_wp2_with fail
      go_ret
      exact ⟨rfl, HB1.out.trans ((H.out.1.trans HB5.out).trans P6.bel)⟩
end Go.Proofs.YtmlmkmhkmifnkaaGreatDoor.Tb

/- What the listed package-level variables hold; a world for the rows' witness. -/
namespace Go.Proofs.YtmlmkmhkmifnkaaGreatDoor.Ci
open Go.RowKit Go.ChangeShapes Go.WideShapes Go.ChangeAt Go.Lib Go.Proofs

theorem own : ownKnob Tryz.prog.godebug = none := by kernel_rfl
def laidL : List (String × DataW Unit) := [("math/bits.deBruijn32tab", Rows.laid_math_bits_deBruijn32tab), ("math/bits.deBruijn64tab", Rows.laid_math_bits_deBruijn64tab), ("internal/strconv.uint64pow10", Rows.laid_internal_strconv_uint64pow10), ("unicode/utf8.acceptRanges", Rows.laid_unicode_utf8_acceptRanges), ("strconv.ErrRange", Rows.laid_strconv_ErrRange), ("strconv.ErrSyntax", Rows.laid_strconv_ErrSyntax), ("unicode.CaseRanges", Rows.laid_unicode_CaseRanges), ("unicode/utf8.first", Rows.laid_unicode_utf8_first)]
def db64 : List Int := [0, 1, 56, 2, 57, 49, 28, 3, 61, 58, 42, 50, 38, 29, 17, 4, 62, 47, 59, 36, 45, 43, 51, 22, 53, 39, 33, 30, 24, 18, 12, 5, 63, 55, 48, 27, 60, 41, 37, 16, 46, 35, 44, 21, 52, 32, 23, 11, 54, 26, 40, 15, 34, 20, 31, 10, 25, 14, 19, 9, 13, 8, 7, 6]
theorem star : "*" ++ "errors.errorString" = "*errors.errorString" := by decide
theorem rowE (u : TypeId) (h : Tryz.prog.typeName? 3 u = some "*errors.errorString") : u = 317 :=
  typeName_ptr_named (nm := "errors.errorString") (by rw [star]; kernel_rfl) (by kernel_rfl) (by decide) u (by rw [star]; exact h)
theorem gPow : Tryz.prog.globalNamed "internal/strconv.uint64pow10" = some 4 := by kernel_rfl
theorem gDb : Tryz.prog.globalNamed "math/bits.deBruijn64tab" = some 8 := by kernel_rfl
theorem gErr : Tryz.prog.globalNamed "strconv.ErrSyntax" = some 5 := by kernel_rfl
/-- What the row's list gives. -/
theorem lay_of {W : World} (hL : laidMet Tryz.prog laidL W) (hS : W.ShapedOpen Tryz.prog) : Lay W := by
  have hdb : Lib.TabIs Tryz.prog W "math/bits.deBruijn64tab" .u8 db64 :=
    Lib.tabIs_of_head (e := 5) gDb (by kernel_rfl) Tryz.underlying321 Tryz.underlying5 (by kernel_rfl) (by kernel_rfl) (show laidMet Tryz.prog (("math/bits.deBruijn64tab", Lib.tabData .u8 db64) :: _) W from hL.tail)
  have hpw : Lib.TabIs Tryz.prog W "internal/strconv.uint64pow10" .u64 Lib.pow10Tab :=
    Lib.tabIs_of_head (e := 241) gPow (by kernel_rfl) Tryz.underlying309 Tryz.underlying241 (by kernel_rfl) (by kernel_rfl) (show laidMet Tryz.prog (("internal/strconv.uint64pow10", Lib.tabData .u64 Lib.pow10Tab) :: _) W from hL.tail.tail)
  obtain ⟨a0, t0, hv0, -, -, -⟩ := laid_sentinel (g := 5) hL.tail.tail.tail.tail.tail (by kernel_rfl) (by kernel_rfl) Tryz.underlying130 rowE Tryz.underlying317 Tryz.underlying319 rfl rfl Tryz.underlying9 (by kernel_rfl) (by kernel_rfl)
  have c15 : W.cell? ⟨8, 15, none⟩ = some (.int .u8 4) := hdb.cell gDb 15 (by decide)
  have hsz : 8 < W.heap.size := by
    rcases Nat.lt_or_ge 8 W.heap.size with f | f
    · exact f
    · simp [World.cell?, Array.getElem?_eq_none f] at c15
  refine ⟨hsz, ?_, ⟨_, _, World.var?_cell gErr hv0 0⟩, fun w' hb => ?_, c15⟩
  · exact Go.Proofs.cell_of_shapedOpen_int (g := 1) (zero := #[.int .i64 0]) (t := 3) hS (of_decide_eq_true (by kernel_rfl)) (by kernel_rfl) rfl (by kernel_rfl) (by kernel_rfl) Tryz.underlying3
  · exact var?_below hb gPow (by omega) hpw

/-- The settled world, the two errors' structs, the variables as their initialisers lay them. -/
noncomputable def laidWorld (os : Os) : World :=
  let N := (World.settled Tryz.prog os).heap.size
  let w0 := World.holding Tryz.prog os ⟨#[.cells #[.string ⟨#[105, 110, 118, 97, 108, 105, 100, 32, 115, 121, 110, 116, 97, 120]⟩] 319, .cells #[.string ⟨#[118, 97, 108, 117, 101, 32, 111, 117, 116, 32, 111, 102, 32, 114, 97, 110, 103, 101]⟩] 319, .cells Lib.caseCells5 301], #[], []⟩
  let put (h : Array Obj) (g : Nat) (cs : Array Value) : Array Obj := h.modify g fun
    | .cells _ t frozen => .cells cs t frozen
    | o => o
  let h0 := put (put w0.heap 5 #[.iface 317 (.pointer (some ⟨N, 0, none⟩))]) 6 #[.iface 317 (.pointer (some ⟨N + 1, 0, none⟩))]
  let h1 := put h0 2 (Lib.firstTab.map fun z => Value.int .u8 z).toArray
  let h2 := put h1 3 ((List.range 16).flatMap fun i => [Value.int .u8 (Lib.accLo i), Value.int .u8 (Lib.accHi i)]).toArray
  let h3 := put h2 4 (Lib.pow10Tab.map fun z => Value.int .u64 z).toArray
  let h4 := put h3 8 (db64.map fun z => Value.int .u8 z).toArray
  let h5 := put h4 7 (([0, 1, 28, 2, 29, 14, 24, 3, 30, 22, 20, 15, 25, 17, 4, 8, 31, 27, 13, 23, 21, 19, 16, 7, 26, 12, 18, 6, 11, 5, 10, 9] : List Int).map fun z => Value.int .u8 z).toArray
  let h6 := put h5 0 #[.slice (some ⟨N + 2, 0, none⟩) caseA.size caseA.size]
  { w0 with heap := h6 }
noncomputable abbrev N0 : Nat := (World.settled Tryz.prog default).heap.size
/-- A row of the list laid elsewhere. -/
theorem laidVars_split {P : Program} {w : World} : ∀ {l l' : List (String × DataW Unit)} {ps : List MemPlace}, DataW.LaidVars P w (l ++ l') ps → ∃ p q, ps = p ++ q ∧ DataW.LaidVars P w l p ∧ DataW.LaidVars P w l' q
  | [], _, ps, h => ⟨[], ps, rfl, rfl, h⟩
  | (n, d) :: r, l', ps, h => by
    obtain ⟨g, t, cs, fuel, p, q, h1, h2, h3, h4, h5, rfl⟩ := h
    obtain ⟨p', q', rfl, h6, h7⟩ := laidVars_split h5
    exact ⟨MemPlace.row ⟨g, 0, none⟩ cs.size ++ p ++ p', q', by simp [List.append_assoc], ⟨g, t, cs, fuel, p, p', h1, h2, h3, h4, h6, rfl⟩, h7⟩
theorem laidMet_turn {P : Program} {w : World} {a b c : List (String × DataW Unit)} (h : laidMet P (a ++ b ++ c) w) : laidMet P (a ++ c ++ b) w := by
  obtain ⟨ps, h1, h2, h3⟩ := h
  obtain ⟨p, r, rfl, h4, h5⟩ := laidVars_split h1
  obtain ⟨p, q, rfl, h6, h7⟩ := laidVars_split h4
  have hp : (p ++ r ++ q).Perm (p ++ q ++ r) := by
    rw [List.append_assoc, List.append_assoc]
    exact List.Perm.append_left _ List.perm_append_comm
  exact ⟨p ++ r ++ q, LaidVars_append (LaidVars_append h6 h5) h7, hp.nodup_iff.2 h2, fun x o hx => h3 x o (hp.mem_iff.1 hx)⟩
def laidA : List (String × DataW Unit) := [("math/bits.deBruijn32tab", Rows.laid_math_bits_deBruijn32tab), ("math/bits.deBruijn64tab", Rows.laid_math_bits_deBruijn64tab), ("internal/strconv.uint64pow10", Rows.laid_internal_strconv_uint64pow10), ("unicode/utf8.acceptRanges", Rows.laid_unicode_utf8_acceptRanges), ("strconv.ErrRange", Rows.laid_strconv_ErrRange), ("strconv.ErrSyntax", Rows.laid_strconv_ErrSyntax)]
def laidF : List (String × DataW Unit) := [("unicode/utf8.first", Rows.laid_unicode_utf8_first)]
theorem case_extra : CaseExtra Tryz.prog Tryz.lays204_ren := ⟨by kernel_rfl, by kernel_rfl, by kernel_rfl, by kernel_rfl, by kernel_rfl, by kernel_rfl⟩
set_option maxRecDepth 1000000 in
theorem laid_met (os : Os) (args : Array Value) : laidMet Tryz.prog laidL ((laidWorld os).forCall (fun _ _ => 0) ⟨#[], args, []⟩).memory := by
  have h := laidMet_with_case (P := Tryz.prog) (ρ := Tryz.lays204_ren) { Tryz.lays204 with } Tryz.underlying298 case_extra (w := ((laidWorld os).forCall (fun _ _ => 0) ⟨#[], args, []⟩).memory) (l := laidA ++ laidF) 8 (by kernel_rfl) (by kernel_rfl) (by kernel_rfl) (N0 + 2) 301 (of_decide_eq_true (by kernel_rfl)) (by kernel_rfl) (by kernel_rfl) (by kernel_rfl)
  have e : Rows.laid_unicode_CaseRanges = caseData := Pinned.caseRanges_eq
  have := laidMet_turn h
  rw [← e] at this
  exact this
end Go.Proofs.YtmlmkmhkmifnkaaGreatDoor.Ci

/- What the listed package-level variables hold; texts and a path that came in. -/
namespace Go.Proofs.YtmlmkmhkmifnkaaGreatDoor.Tb
open Go.ChangeShapes Go.WideShapes Go.Deep Go.RowKit Go.Lib
open Ma (Pt Pts ptC)
open Ci (Bel Lay laidL lay_of)

theorem laid_first : ("unicode/utf8.first", Lib.firstData) ∈ laidL := by
  have e : Rows.laid_unicode_utf8_first = Lib.firstData := by kernel_rfl
  rw [← e]
  unfold laidL
  simp
theorem laid_accept : ("unicode/utf8.acceptRanges", Lib.acceptData) ∈ laidL := by
  have e : Rows.laid_unicode_utf8_acceptRanges = Lib.acceptData := by kernel_rfl
  rw [← e]
  unfold laidL
  simp
theorem nF : Tryz.prog.globalNamed "unicode/utf8.first" = some 2 := by kernel_rfl
theorem nA : Tryz.prog.globalNamed "unicode/utf8.acceptRanges" = some 3 := by kernel_rfl
set_option maxRecDepth 100000 in
theorem tabs_of {W : World} (hL : laidMet Tryz.prog laidL W) : Lib.Utf8Tabs 2 3 W := by
  have h3 := Lib.laidMet.reads hL laid_first
  have h4 := Lib.laidMet.reads hL laid_accept
  refine ⟨fun c hc => ?_, fun i hi => ?_⟩
  · obtain ⟨g, t, cs, fuel, p, hg, hty, hvar, hd⟩ := h3
    obtain rfl := Option.some.inj (nF.symm.trans hg)
    obtain rfl : 279 = t := Option.some.inj ((show (Tryz.prog.globals[2]?).map (·.type) = some 279 by kernel_rfl).symm.trans hty)
    have hcs := cells_of_tab Tryz.underlying279 Tryz.underlying5 (by kernel_rfl) (by kernel_rfl) hd
    have := World.var?_cell hg hvar c
    rw [this, ← Array.getElem?_toList, hcs]
    simp [firstTab, hc]
  · obtain ⟨g, t, cs, fuel, p, hg, hty, hvar, hd⟩ := h4
    obtain rfl := Option.some.inj (nA.symm.trans hg)
    obtain rfl : 282 = t := Option.some.inj ((show (Tryz.prog.globals[3]?).map (·.type) = some 282 by kernel_rfl).symm.trans hty)
    obtain ⟨fuel', d, q, hdi, he⟩ := array_elem Tryz.underlying282 hd i hi
    simp only [List.getElem?_map, List.getElem?_range hi, Option.map_some, Option.some.injEq] at hdi
    subst hdi
    rw [show Tryz.prog.cellsOf 281 = 2 by kernel_rfl] at he
    have hcs := ints_of_struct Tryz.underlying281 (fun j f hj => by
      match j, hj with
      | 0, hj => simp at hj; subst hj; exact ⟨Tryz.underlying5, rfl, by kernel_rfl⟩
      | 1, hj => simp at hj; subst hj; exact ⟨Tryz.underlying5, rfl, by kernel_rfl⟩
      | j + 2, hj => simp at hj) (by kernel_rfl) he
    have e0 := congrArg (·[0]?) hcs
    have e1 := congrArg (·[1]?) hcs
    simp only [List.getElem?_take, List.getElem?_drop] at e0 e1
    constructor
    · rw [World.var?_cell hg hvar (2 * i), ← Array.getElem?_toList]
      simpa [Nat.mul_comm] using e0
    · rw [World.var?_cell hg hvar (2 * i + 1), ← Array.getElem?_toList]
      simpa [Nat.mul_comm] using e1
theorem lat_of {W : World} (hL : laidMet Tryz.prog laidL W) (hS : W.ShapedOpen Tryz.prog) : Lat W := by
  exact ⟨lay_of hL hS, (lay_of hL hS).size, fun w' hb => Utf8Tabs_below (tabs_of hL) hb⟩
end Go.Proofs.YtmlmkmhkmifnkaaGreatDoor.Tb
