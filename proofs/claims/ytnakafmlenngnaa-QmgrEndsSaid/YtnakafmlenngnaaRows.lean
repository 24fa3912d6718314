/-
  No cell of these rows narrows 'for every input' (looked for: loops, veiled, ifaces, maps, wideKeys, modest, calm, conditions, laid).
  DERIVED. THE GIVEN ROWS OF THIS SEAT. 9 by the template 'for every input the law returns true; each argument reads behind the call as it read before'; 0 by the template 'total and deterministic' (their statements: YtnakafmlenngnaaTotals.lean).
  GIVEN WITH THE SEED: the statements are not yours to turn. If you find one false, say at which input.
  Laid BY PROGRAM, IN A SANDBOX (cutbox-rows.mjs): the forced cells as the released guide's own fill.sh prints them over the translation d8af2f3a75ef0f54… (all of the seat's roots in one cut). By AI agents, Wed Nov 11 2026. No macro, syntax, notation, axiom, sorry.
-/
import Derived.Test.YtnakafmlenngnaaChecked
import GoSem.Claim
import GoSem.ClaimJoined
import GoSem.ClaimMapViews
import Derived.JoinedTies
import Derived.KernelRfl
namespace Go.Proofs.Ytnakafmlenngnaa
/- THE CELL 'sum', in the pinned program and in every row, IS THE sha256 OF THE DUMP (.gsa) THAT YtnakafmlenngnaaProg.lean LOADS. Nothing in Lean hashes anything: it is a label: what it is worth is what the hold of that sum in a sandbox is worth. -/
noncomputable def Try.pinned : Pinned := { name := "ytnakafmlenngnaa", sum := "d8af2f3a75ef0f547c946fdcf38ecb3dd2ea73566d318a11cdc29952aafee7cc", checked := Try.checked }
namespace Rows
def none {H : Type} : Left H := { results := [], args := [] }

/-- 'waybilllaw21.WindowGrows': WHATEVER THE INPUT: true; the input reads as it did. -/
def windowGrowsSpec : ChangeSpec := { name := "windowGrows", fn := fun _ => fun
  | [d1, d2, d3] => { results := [.lit (.bool true)], args := [d1, d2, d3] }
  | _ => none }
def windowGrowsRow : OpenClaim := { program := "ytnakafmlenngnaa", sum := "d8af2f3a75ef0f547c946fdcf38ecb3dd2ea73566d318a11cdc29952aafee7cc", func := "waybill/waybilllaw21.WindowGrows", spec := "windowGrows", apart := false }
def WindowGrowsSaid : Prop := windowGrowsRow.holds Try.pinned (OpenSpec.ofChange windowGrowsSpec)

/-- ITS FALSE NEIGHBOUR: 'it returns false'. Refute it at one input. -/
def windowGrowsWrong : ChangeSpec := { name := "windowGrows", fn := fun _ => fun
  | [d1, d2, d3] => { results := [.lit (.bool false)], args := [d1, d2, d3] }
  | _ => none }
def WindowGrowsWrongFalsely : Prop := windowGrowsRow.holds Try.pinned (OpenSpec.ofChange windowGrowsWrong)

/-- 'waybilllaw21.WindowScripts': WHATEVER THE INPUT: true; the input reads as it did. -/
def windowScriptsSpec : ChangeSpec := { name := "windowScripts", fn := fun _ => fun
  | [d1, d2, d3] => { results := [.lit (.bool true)], args := [d1, d2, d3] }
  | _ => none }
def windowScriptsRow : OpenClaim := { program := "ytnakafmlenngnaa", sum := "d8af2f3a75ef0f547c946fdcf38ecb3dd2ea73566d318a11cdc29952aafee7cc", func := "waybill/waybilllaw21.WindowScripts", spec := "windowScripts", apart := false }
def WindowScriptsSaid : Prop := windowScriptsRow.holds Try.pinned (OpenSpec.ofChange windowScriptsSpec)

/-- ITS FALSE NEIGHBOUR: 'it returns false'. Refute it at one input. -/
def windowScriptsWrong : ChangeSpec := { name := "windowScripts", fn := fun _ => fun
  | [d1, d2, d3] => { results := [.lit (.bool false)], args := [d1, d2, d3] }
  | _ => none }
def WindowScriptsWrongFalsely : Prop := windowScriptsRow.holds Try.pinned (OpenSpec.ofChange windowScriptsWrong)

/-- 'waybilllaw21.WindowBounds': WHATEVER THE INPUT: true; the input reads as it did. -/
def windowBoundsSpec : ChangeSpec := { name := "windowBounds", fn := fun _ => fun
  | [d1, d2, d3] => { results := [.lit (.bool true)], args := [d1, d2, d3] }
  | _ => none }
def windowBoundsRow : OpenClaim := { program := "ytnakafmlenngnaa", sum := "d8af2f3a75ef0f547c946fdcf38ecb3dd2ea73566d318a11cdc29952aafee7cc", func := "waybill/waybilllaw21.WindowBounds", spec := "windowBounds", apart := false }
def WindowBoundsSaid : Prop := windowBoundsRow.holds Try.pinned (OpenSpec.ofChange windowBoundsSpec)

/-- ITS FALSE NEIGHBOUR: 'it returns false'. Refute it at one input. -/
def windowBoundsWrong : ChangeSpec := { name := "windowBounds", fn := fun _ => fun
  | [d1, d2, d3] => { results := [.lit (.bool false)], args := [d1, d2, d3] }
  | _ => none }
def WindowBoundsWrongFalsely : Prop := windowBoundsRow.holds Try.pinned (OpenSpec.ofChange windowBoundsWrong)

/-- 'waybilllaw22.QmgrFair': WHATEVER THE INPUT: true; the input reads as it did. -/
def qmgrFairSpec : ChangeSpec := { name := "qmgrFair", fn := fun _ => fun
  | [d1, d2] => { results := [.lit (.bool true)], args := [d1, d2] }
  | _ => none }
def qmgrFairRow : OpenClaim := { program := "ytnakafmlenngnaa", sum := "d8af2f3a75ef0f547c946fdcf38ecb3dd2ea73566d318a11cdc29952aafee7cc", func := "waybill/waybilllaw22.QmgrFair", spec := "qmgrFair", unfollowed := true, recurses := true, apart := false }
def QmgrFairSaid : Prop := qmgrFairRow.holds Try.pinned (OpenSpec.ofChange qmgrFairSpec)

/-- ITS FALSE NEIGHBOUR: 'it returns false'. Refute it at one input. -/
def qmgrFairWrong : ChangeSpec := { name := "qmgrFair", fn := fun _ => fun
  | [d1, d2] => { results := [.lit (.bool false)], args := [d1, d2] }
  | _ => none }
def QmgrFairWrongFalsely : Prop := qmgrFairRow.holds Try.pinned (OpenSpec.ofChange qmgrFairWrong)

/-- 'waybilllaw22.QmgrWaits': WHATEVER THE INPUT: true; the input reads as it did. -/
def qmgrWaitsSpec : ChangeSpec := { name := "qmgrWaits", fn := fun _ => fun
  | [d1, d2, d3] => { results := [.lit (.bool true)], args := [d1, d2, d3] }
  | _ => none }
def qmgrWaitsRow : OpenClaim := { program := "ytnakafmlenngnaa", sum := "d8af2f3a75ef0f547c946fdcf38ecb3dd2ea73566d318a11cdc29952aafee7cc", func := "waybill/waybilllaw22.QmgrWaits", spec := "qmgrWaits", unfollowed := true, recurses := true, apart := false }
def QmgrWaitsSaid : Prop := qmgrWaitsRow.holds Try.pinned (OpenSpec.ofChange qmgrWaitsSpec)

/-- ITS FALSE NEIGHBOUR: 'it returns false'. Refute it at one input. -/
def qmgrWaitsWrong : ChangeSpec := { name := "qmgrWaits", fn := fun _ => fun
  | [d1, d2, d3] => { results := [.lit (.bool false)], args := [d1, d2, d3] }
  | _ => none }
def QmgrWaitsWrongFalsely : Prop := qmgrWaitsRow.holds Try.pinned (OpenSpec.ofChange qmgrWaitsWrong)

/-- 'waybilllaw22.QmgrDead': WHATEVER THE INPUT: true; the input reads as it did. -/
def qmgrDeadSpec : ChangeSpec := { name := "qmgrDead", fn := fun _ => fun
  | [d1, d2, d3] => { results := [.lit (.bool true)], args := [d1, d2, d3] }
  | _ => none }
def qmgrDeadRow : OpenClaim := { program := "ytnakafmlenngnaa", sum := "d8af2f3a75ef0f547c946fdcf38ecb3dd2ea73566d318a11cdc29952aafee7cc", func := "waybill/waybilllaw22.QmgrDead", spec := "qmgrDead", unfollowed := true, recurses := true, apart := false }
def QmgrDeadSaid : Prop := qmgrDeadRow.holds Try.pinned (OpenSpec.ofChange qmgrDeadSpec)

/-- ITS FALSE NEIGHBOUR: 'it returns false'. Refute it at one input. -/
def qmgrDeadWrong : ChangeSpec := { name := "qmgrDead", fn := fun _ => fun
  | [d1, d2, d3] => { results := [.lit (.bool false)], args := [d1, d2, d3] }
  | _ => none }
def QmgrDeadWrongFalsely : Prop := qmgrDeadRow.holds Try.pinned (OpenSpec.ofChange qmgrDeadWrong)

/-- 'waybilllaw22.QmgrApart': WHATEVER THE INPUT: true; the input reads as it did. -/
def qmgrApartSpec : ChangeSpec := { name := "qmgrApart", fn := fun _ => fun
  | [d1, d2] => { results := [.lit (.bool true)], args := [d1, d2] }
  | _ => none }
def qmgrApartRow : OpenClaim := { program := "ytnakafmlenngnaa", sum := "d8af2f3a75ef0f547c946fdcf38ecb3dd2ea73566d318a11cdc29952aafee7cc", func := "waybill/waybilllaw22.QmgrApart", spec := "qmgrApart", unfollowed := true, recurses := true, apart := false }
def QmgrApartSaid : Prop := qmgrApartRow.holds Try.pinned (OpenSpec.ofChange qmgrApartSpec)

/-- ITS FALSE NEIGHBOUR: 'it returns false'. Refute it at one input. -/
def qmgrApartWrong : ChangeSpec := { name := "qmgrApart", fn := fun _ => fun
  | [d1, d2] => { results := [.lit (.bool false)], args := [d1, d2] }
  | _ => none }
def QmgrApartWrongFalsely : Prop := qmgrApartRow.holds Try.pinned (OpenSpec.ofChange qmgrApartWrong)

/-- 'waybilllaw22.QmgrKeeps': WHATEVER THE INPUT: true; the input reads as it did. -/
def qmgrKeepsSpec : ChangeSpec := { name := "qmgrKeeps", fn := fun _ => fun
  | [d1, d2] => { results := [.lit (.bool true)], args := [d1, d2] }
  | _ => none }
def qmgrKeepsRow : OpenClaim := { program := "ytnakafmlenngnaa", sum := "d8af2f3a75ef0f547c946fdcf38ecb3dd2ea73566d318a11cdc29952aafee7cc", func := "waybill/waybilllaw22.QmgrKeeps", spec := "qmgrKeeps", unfollowed := true, recurses := true, apart := false }
def QmgrKeepsSaid : Prop := qmgrKeepsRow.holds Try.pinned (OpenSpec.ofChange qmgrKeepsSpec)

/-- ITS FALSE NEIGHBOUR: 'it returns false'. Refute it at one input. -/
def qmgrKeepsWrong : ChangeSpec := { name := "qmgrKeeps", fn := fun _ => fun
  | [d1, d2] => { results := [.lit (.bool false)], args := [d1, d2] }
  | _ => none }
def QmgrKeepsWrongFalsely : Prop := qmgrKeepsRow.holds Try.pinned (OpenSpec.ofChange qmgrKeepsWrong)

/-- 'waybilllaw22.QmgrEnds': WHATEVER THE INPUT: true; the input reads as it did. -/
def qmgrEndsSpec : ChangeSpec := { name := "qmgrEnds", fn := fun _ => fun
  | [d1, d2, d3] => { results := [.lit (.bool true)], args := [d1, d2, d3] }
  | _ => none }
def qmgrEndsRow : OpenClaim := { program := "ytnakafmlenngnaa", sum := "d8af2f3a75ef0f547c946fdcf38ecb3dd2ea73566d318a11cdc29952aafee7cc", func := "waybill/waybilllaw22.QmgrEnds", spec := "qmgrEnds", unfollowed := true, recurses := true, apart := false }
def QmgrEndsSaid : Prop := qmgrEndsRow.holds Try.pinned (OpenSpec.ofChange qmgrEndsSpec)

/-- ITS FALSE NEIGHBOUR: 'it returns false'. Refute it at one input. -/
def qmgrEndsWrong : ChangeSpec := { name := "qmgrEnds", fn := fun _ => fun
  | [d1, d2, d3] => { results := [.lit (.bool false)], args := [d1, d2, d3] }
  | _ => none }
def QmgrEndsWrongFalsely : Prop := qmgrEndsRow.holds Try.pinned (OpenSpec.ofChange qmgrEndsWrong)

/- THE SECOND FORM. 'bulk': how many values and letters a reading holds, each counted each time it is reached (what is shared counts as often as it is met; a slice's spare places count too). A statement '..UptoSaid' is the law's where the arguments, and the package variables that the reading takes, are together of bulk at most 1048576: NARROWER than '..Said'. Prove '..Said' where nothing that the law and all that it calls make is longer than what came in: it says more and counts as full. Else prove '..UptoSaid'. A law counts once. -/
mutual
def uptoBulk {H : Type} : DataW H → Nat
  | .lit (.string bytes) => bytes.length + 1
  | .lit _ => 1
  | .nil => 1
  | .ptr d => uptoBulk d + 1
  | .slice elems spare => uptoBulkAll elems + uptoBulkAll spare + 1
  | .agg parts => uptoBulkAll parts + 1
  | .iface _ d => uptoBulk d + 1
  | .map entries => uptoBulkEntries entries + 1
  | .held _ => 1
def uptoBulkAll {H : Type} : List (DataW H) → Nat
  | [] => 0
  | d :: r => uptoBulk d + uptoBulkAll r
def uptoBulkEntries {H : Type} : List (Lit × DataW H) → Nat
  | [] => 0
  | x :: r => uptoBulkEntry x + uptoBulkEntries r
def uptoBulkEntry {H : Type} : Lit × DataW H → Nat
  | (.string bytes, d) => bytes.length + uptoBulk d + 1
  | (_, d) => uptoBulk d + 1
 end
def uptoSmall : (H : Type) → List (DataW H) → Bool := fun _ ds => decide (uptoBulkAll ds ≤ 1048576)
def OpenSpec.upto (s : _root_.Go.ChangeSpec) : _root_.Go.OpenSpec := { _root_.Go.OpenSpec.ofChange s with cond := some uptoSmall }

/-- 'waybilllaw21.WindowGrows', WHERE WHAT IT READS IS OF BULK AT MOST 1048576: true; the input reads as it did. -/
def windowGrowsUptoRow : OpenClaim := { program := "ytnakafmlenngnaa", sum := "d8af2f3a75ef0f547c946fdcf38ecb3dd2ea73566d318a11cdc29952aafee7cc", func := "waybill/waybilllaw21.WindowGrows", spec := "windowGrows", apart := false, narrowed := true }
def WindowGrowsUptoSaid : Prop := windowGrowsUptoRow.holds Try.pinned (OpenSpec.upto windowGrowsSpec)

/-- 'waybilllaw21.WindowScripts', WHERE WHAT IT READS IS OF BULK AT MOST 1048576: true; the input reads as it did. -/
def windowScriptsUptoRow : OpenClaim := { program := "ytnakafmlenngnaa", sum := "d8af2f3a75ef0f547c946fdcf38ecb3dd2ea73566d318a11cdc29952aafee7cc", func := "waybill/waybilllaw21.WindowScripts", spec := "windowScripts", apart := false, narrowed := true }
def WindowScriptsUptoSaid : Prop := windowScriptsUptoRow.holds Try.pinned (OpenSpec.upto windowScriptsSpec)

/-- 'waybilllaw21.WindowBounds', WHERE WHAT IT READS IS OF BULK AT MOST 1048576: true; the input reads as it did. -/
def windowBoundsUptoRow : OpenClaim := { program := "ytnakafmlenngnaa", sum := "d8af2f3a75ef0f547c946fdcf38ecb3dd2ea73566d318a11cdc29952aafee7cc", func := "waybill/waybilllaw21.WindowBounds", spec := "windowBounds", apart := false, narrowed := true }
def WindowBoundsUptoSaid : Prop := windowBoundsUptoRow.holds Try.pinned (OpenSpec.upto windowBoundsSpec)

/-- 'waybilllaw22.QmgrFair', WHERE WHAT IT READS IS OF BULK AT MOST 1048576: true; the input reads as it did. -/
def qmgrFairUptoRow : OpenClaim := { program := "ytnakafmlenngnaa", sum := "d8af2f3a75ef0f547c946fdcf38ecb3dd2ea73566d318a11cdc29952aafee7cc", func := "waybill/waybilllaw22.QmgrFair", spec := "qmgrFair", unfollowed := true, recurses := true, apart := false, narrowed := true }
def QmgrFairUptoSaid : Prop := qmgrFairUptoRow.holds Try.pinned (OpenSpec.upto qmgrFairSpec)

/-- 'waybilllaw22.QmgrWaits', WHERE WHAT IT READS IS OF BULK AT MOST 1048576: true; the input reads as it did. -/
def qmgrWaitsUptoRow : OpenClaim := { program := "ytnakafmlenngnaa", sum := "d8af2f3a75ef0f547c946fdcf38ecb3dd2ea73566d318a11cdc29952aafee7cc", func := "waybill/waybilllaw22.QmgrWaits", spec := "qmgrWaits", unfollowed := true, recurses := true, apart := false, narrowed := true }
def QmgrWaitsUptoSaid : Prop := qmgrWaitsUptoRow.holds Try.pinned (OpenSpec.upto qmgrWaitsSpec)

/-- 'waybilllaw22.QmgrDead', WHERE WHAT IT READS IS OF BULK AT MOST 1048576: true; the input reads as it did. -/
def qmgrDeadUptoRow : OpenClaim := { program := "ytnakafmlenngnaa", sum := "d8af2f3a75ef0f547c946fdcf38ecb3dd2ea73566d318a11cdc29952aafee7cc", func := "waybill/waybilllaw22.QmgrDead", spec := "qmgrDead", unfollowed := true, recurses := true, apart := false, narrowed := true }
def QmgrDeadUptoSaid : Prop := qmgrDeadUptoRow.holds Try.pinned (OpenSpec.upto qmgrDeadSpec)

/-- 'waybilllaw22.QmgrApart', WHERE WHAT IT READS IS OF BULK AT MOST 1048576: true; the input reads as it did. -/
def qmgrApartUptoRow : OpenClaim := { program := "ytnakafmlenngnaa", sum := "d8af2f3a75ef0f547c946fdcf38ecb3dd2ea73566d318a11cdc29952aafee7cc", func := "waybill/waybilllaw22.QmgrApart", spec := "qmgrApart", unfollowed := true, recurses := true, apart := false, narrowed := true }
def QmgrApartUptoSaid : Prop := qmgrApartUptoRow.holds Try.pinned (OpenSpec.upto qmgrApartSpec)

/-- 'waybilllaw22.QmgrKeeps', WHERE WHAT IT READS IS OF BULK AT MOST 1048576: true; the input reads as it did. -/
def qmgrKeepsUptoRow : OpenClaim := { program := "ytnakafmlenngnaa", sum := "d8af2f3a75ef0f547c946fdcf38ecb3dd2ea73566d318a11cdc29952aafee7cc", func := "waybill/waybilllaw22.QmgrKeeps", spec := "qmgrKeeps", unfollowed := true, recurses := true, apart := false, narrowed := true }
def QmgrKeepsUptoSaid : Prop := qmgrKeepsUptoRow.holds Try.pinned (OpenSpec.upto qmgrKeepsSpec)

/-- 'waybilllaw22.QmgrEnds', WHERE WHAT IT READS IS OF BULK AT MOST 1048576: true; the input reads as it did. -/
def qmgrEndsUptoRow : OpenClaim := { program := "ytnakafmlenngnaa", sum := "d8af2f3a75ef0f547c946fdcf38ecb3dd2ea73566d318a11cdc29952aafee7cc", func := "waybill/waybilllaw22.QmgrEnds", spec := "qmgrEnds", unfollowed := true, recurses := true, apart := false, narrowed := true }
def QmgrEndsUptoSaid : Prop := qmgrEndsUptoRow.holds Try.pinned (OpenSpec.upto qmgrEndsSpec)

end Rows
end Go.Proofs.Ytnakafmlenngnaa
