/- What the listed package-level variables hold; a world for the rows' witness. -/
import Derived.Test.YtpmmaickjolimaaGreatDoorRows
import Derived.Test.YtpmmaickjolimaaGreatDoorCn
import Derived.Deep.DeepHandedRow
import Derived.Deep.DeepWitnessRowRef
import Derived.Lib.LaidIn
import Derived.Lib.LaidTab
import Derived.Lib.LaidU8
import Derived.Stop.LaidErr
import Derived.HandedShaped
import Derived.WalkSmall
import Derived.ProofKit
namespace Go.Proofs.YtpmmaickjolimaaGreatDoor.Ci
open Go.RowKit Go.ChangeShapes Go.WideShapes Go.ChangeAt Go.Lib

theorem own : ownKnob Tryz.prog.godebug = none := by kernel_rfl
def laidL : List (String × DataW Unit) := [("math/bits.deBruijn32tab", Rows.laid_math_bits_deBruijn32tab), ("math/bits.deBruijn64tab", Rows.laid_math_bits_deBruijn64tab), ("internal/strconv.uint64pow10", Rows.laid_internal_strconv_uint64pow10), ("unicode/utf8.acceptRanges", Rows.laid_unicode_utf8_acceptRanges), ("strconv.ErrRange", Rows.laid_strconv_ErrRange), ("strconv.ErrSyntax", Rows.laid_strconv_ErrSyntax), ("unicode/utf8.first", Rows.laid_unicode_utf8_first)]
def db64 : List Int := [0, 1, 56, 2, 57, 49, 28, 3, 61, 58, 42, 50, 38, 29, 17, 4, 62, 47, 59, 36, 45, 43, 51, 22, 53, 39, 33, 30, 24, 18, 12, 5, 63, 55, 48, 27, 60, 41, 37, 16, 46, 35, 44, 21, 52, 32, 23, 11, 54, 26, 40, 15, 34, 20, 31, 10, 25, 14, 19, 9, 13, 8, 7, 6]
theorem star : "*" ++ "errors.errorString" = "*errors.errorString" := by decide
theorem rowE (u : TypeId) (h : Tryz.prog.typeName? 3 u = some "*errors.errorString") : u = 249 :=
  typeName_ptr_named (nm := "errors.errorString") (by rw [star]; kernel_rfl) (by kernel_rfl) (by decide) u (by rw [star]; exact h)
theorem gPow : Tryz.prog.globalNamed "internal/strconv.uint64pow10" = some 3 := by kernel_rfl
theorem gDb : Tryz.prog.globalNamed "math/bits.deBruijn64tab" = some 7 := by kernel_rfl
theorem gErr : Tryz.prog.globalNamed "strconv.ErrSyntax" = some 1 := by kernel_rfl
/-- What the row's list gives. -/
theorem lay_of {W : World} (hL : laidMet Tryz.prog laidL W) (hS : W.ShapedOpen Tryz.prog) : Lay W := by
  have hdb : Lib.TabIs Tryz.prog W "math/bits.deBruijn64tab" .u8 db64 :=
    Lib.tabIs_of_head (e := 5) gDb (by kernel_rfl) Tryz.underlying255 Tryz.underlying5 (by kernel_rfl) (by kernel_rfl) (show laidMet Tryz.prog (("math/bits.deBruijn64tab", Lib.tabData .u8 db64) :: _) W from hL.tail)
  have hpw : Lib.TabIs Tryz.prog W "internal/strconv.uint64pow10" .u64 Lib.pow10Tab :=
    Lib.tabIs_of_head (e := 176) gPow (by kernel_rfl) Tryz.underlying242 Tryz.underlying176 (by kernel_rfl) (by kernel_rfl) (show laidMet Tryz.prog (("internal/strconv.uint64pow10", Lib.tabData .u64 Lib.pow10Tab) :: _) W from hL.tail.tail)
  obtain ⟨a0, t0, hv0, -, -, -⟩ := laid_sentinel (g := 1) hL.tail.tail.tail.tail.tail (by kernel_rfl) (by kernel_rfl) Tryz.underlying93 rowE Tryz.underlying249 Tryz.underlying251 rfl rfl Tryz.underlying9 (by kernel_rfl) (by kernel_rfl)
  have c15 : W.cell? ⟨7, 15, none⟩ = some (.int .u8 4) := hdb.cell gDb 15 (by decide)
  have hsz : 8 ≤ W.heap.size := by
    rcases Nat.lt_or_ge 7 W.heap.size with f | f
    · exact f
    · simp [World.cell?, Array.getElem?_eq_none f] at c15
  refine ⟨hsz, ?_, ⟨_, _, World.var?_cell gErr hv0 0⟩, fun w' hb => ?_, c15⟩
  · exact Go.Proofs.cell_of_shapedOpen_int (g := 0) (zero := #[.int .i64 0]) (t := 3) hS (of_decide_eq_true (by kernel_rfl)) (by kernel_rfl) rfl (by kernel_rfl) (by kernel_rfl) Tryz.underlying3
  · exact var?_below hb gPow (by omega) hpw

/-- The settled world, the two errors' structs, the variables as their initialisers lay them. -/
noncomputable def laidWorld (os : Os) : World :=
  let N := (World.settled Tryz.prog os).heap.size
  let w0 := World.holding Tryz.prog os ⟨#[.cells #[.string ⟨#[105, 110, 118, 97, 108, 105, 100, 32, 115, 121, 110, 116, 97, 120]⟩] 251, .cells #[.string ⟨#[118, 97, 108, 117, 101, 32, 111, 117, 116, 32, 111, 102, 32, 114, 97, 110, 103, 101]⟩] 251], #[], []⟩
  let put (h : Array Obj) (g : Nat) (cs : Array Value) : Array Obj := h.modify g fun
    | .cells _ t frozen => .cells cs t frozen
    | o => o
  let h0 := put (put w0.heap 1 #[.iface 249 (.pointer (some ⟨N, 0, none⟩))]) 2 #[.iface 249 (.pointer (some ⟨N + 1, 0, none⟩))]
  let h1 := put h0 4 (Lib.firstTab.map fun z => Value.int .u8 z).toArray
  let h2 := put h1 5 ((List.range 16).flatMap fun i => [Value.int .u8 (Lib.accLo i), Value.int .u8 (Lib.accHi i)]).toArray
  let h3 := put h2 3 (Lib.pow10Tab.map fun z => Value.int .u64 z).toArray
  let h4 := put h3 7 (db64.map fun z => Value.int .u8 z).toArray
  let h5 := put h4 6 (([0, 1, 28, 2, 29, 14, 24, 3, 30, 22, 20, 15, 25, 17, 4, 8, 31, 27, 13, 23, 21, 19, 16, 7, 26, 12, 18, 6, 11, 5, 10, 9] : List Int).map fun z => Value.int .u8 z).toArray
  { w0 with heap := h5 }
noncomputable abbrev N0 : Nat := (World.settled Tryz.prog default).heap.size
set_option maxRecDepth 1000000 in
theorem laid_in (os : Os) (args : Array Value) : LaidIn Tryz.prog ((laidWorld os).forCall (fun _ _ => 0) ⟨#[], args, []⟩).memory laidL [6, 7, 3, 5, 2, 1, 4, N0, N0 + 1] :=
  LaidIn.of_run _ 8 (by kernel_rfl) (by kernel_rfl) (by kernel_rfl) (by kernel_rfl)
theorem laid_met (os : Os) (args : Array Value) : laidMet Tryz.prog laidL ((laidWorld os).forCall (fun _ _ => 0) ⟨#[], args, []⟩).memory := (laid_in os args).met
end Go.Proofs.YtpmmaickjolimaaGreatDoor.Ci
