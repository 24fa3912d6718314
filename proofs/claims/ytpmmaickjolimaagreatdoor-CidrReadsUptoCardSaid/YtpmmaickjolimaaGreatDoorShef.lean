/-
  DERIVED: THE SHELF's CONTRACTS AT THIS DUMP, IN PLAIN WORDS (tools/lay-plain.mjs out of 'TryzSheG.lean', which tools/lay-shelf.mjs wrote): THE SAME DECLARATIONS UNDER THE SAME NAMES: 'import', 'namespace', 'open', 'def', 'theorem' AND NOTHING ELSE: no command of the shelf's: FOR A HAND-IN. Each laying: the table of numbers ('.._ren') and one theorem, a field a fact of the dump's own or the kernel's comparison; each contract: ONE APPLICATION.
-/
import Derived.Shelf.Strings.FieldsFuncGrows
import Derived.Ground.NamesProg
import Derived.Test.YtpmmaickjolimaaGreatDoorProg
namespace Go.Proofs
open Go.Shelf
def Tryz.lays229_ren : Go.Shelf.Ren := ⟨fun | 229 => 40 | n => n, fun | 9 => 9 | 40 => 72 | 31 => 46 | 152 => 133 | 3 => 3 | 0 => 0 | 4 => 4 | 21 => 21 | 154 => 135 | n => n, fun | n => n⟩
theorem Tryz.lays229 : Go.Proofs.Lays.n229 Tryz.prog Tryz.lays229_ren := {
  mixed := by kernel_rfl
  f229 := Tryz.func40.trans (congrArg some (by kernel_rfl))
  t0 := Tryz.underlying0
  a0 := Tryz.isAgg0
  z0 := Tryz.sizeOf0
  v0 := Tryz.zeroValue0
  t3 := Tryz.underlying3
  a3 := Tryz.isAgg3
  z3 := Tryz.sizeOf3
  v3 := Tryz.zeroValue3
  t4 := Tryz.underlying4
  a4 := Tryz.isAgg4
  z4 := Tryz.sizeOf4
  v4 := Tryz.zeroValue4
  t9 := Tryz.underlying9
  a9 := Tryz.isAgg9
  z9 := Tryz.sizeOf9
  v9 := Tryz.zeroValue9
  t21 := Tryz.underlying21
  a21 := Tryz.isAgg21
  z21 := Tryz.sizeOf21
  v21 := Tryz.zeroValue21
  t31 := Tryz.underlying46
  a31 := Tryz.isAgg46
  z31 := Tryz.sizeOf46
  v31 := Tryz.zeroValue46
  t40 := Tryz.underlying72
  a40 := Tryz.isAgg72
  z40 := Tryz.sizeOf72
  v40 := Tryz.zeroValue72
  t152 := Tryz.underlying133
  a152 := Tryz.isAgg133
  z152 := Tryz.sizeOf133
  v152 := Tryz.zeroValue133
  t154 := Tryz.underlying135
  a154 := Tryz.isAgg135
  z154 := Tryz.sizeOf135
  v154 := Tryz.zeroValue135 }
end Go.Proofs
