/-
  No cell of these rows narrows 'for every input' (looked for: loops, veiled, ifaces, maps, wideKeys, modest, calm, conditions, laid).
  DERIVED. THE GIVEN ROWS OF THIS SEAT. 4 by the template 'for every input the law returns true; each argument reads behind the call as it read before'; 0 by the template 'total and deterministic' (their statements: YthkimmabaojaaaaTotals.lean).
  GIVEN WITH THE SEED: the statements are not yours to turn. If you find one false, say at which input.
  Laid BY PROGRAM, IN A SANDBOX (cutbox-rows.mjs): the forced cells as the released guide's own fill.sh prints them over the translation aebeea6e90cc193b… (all of the seat's roots in one cut). By AI agents, Wed Nov 11 2026. No macro, syntax, notation, axiom, sorry.
-/
import Derived.Test.YthkimmabaojaaaaChecked
import GoSem.Claim
import GoSem.ClaimJoined
import GoSem.ClaimMapViews
import Derived.JoinedTies
import Derived.KernelRfl
namespace Go.Proofs.Ythkimmabaojaaaa
/- THE CELL 'sum', in the pinned program and in every row, IS THE sha256 OF THE DUMP (.gsa) THAT YthkimmabaojaaaaProg.lean LOADS. Nothing in Lean hashes anything: it is a label: what it is worth is what the hold of that sum in a sandbox is worth. -/
noncomputable def Try.pinned : Pinned := { name := "ythkimmabaojaaaa", sum := "aebeea6e90cc193b4a53cb305f78553cd4fdc3a827238e145ab792bafa2bb059", checked := Try.checked }
namespace Rows
def none {H : Type} : Left H := { results := [], args := [] }

/-- 'waybilllaw25.CustodyKeeps': WHATEVER THE INPUT: true; the input reads as it did. -/
def custodyKeepsSpec : ChangeSpec := { name := "custodyKeeps", fn := fun _ => fun
  | [d1, d2, d3] => { results := [.lit (.bool true)], args := [d1, d2, d3] }
  | _ => none }
def custodyKeepsRow : OpenClaim := { program := "ythkimmabaojaaaa", sum := "aebeea6e90cc193b4a53cb305f78553cd4fdc3a827238e145ab792bafa2bb059", func := "waybill/waybilllaw25.CustodyKeeps", spec := "custodyKeeps", unfollowed := true, recurses := true, apart := false }
def CustodyKeepsSaid : Prop := custodyKeepsRow.holds Try.pinned (OpenSpec.ofChange custodyKeepsSpec)

/-- ITS FALSE NEIGHBOUR: 'it returns false'. Refute it at one input. -/
def custodyKeepsWrong : ChangeSpec := { name := "custodyKeeps", fn := fun _ => fun
  | [d1, d2, d3] => { results := [.lit (.bool false)], args := [d1, d2, d3] }
  | _ => none }
def CustodyKeepsWrongFalsely : Prop := custodyKeepsRow.holds Try.pinned (OpenSpec.ofChange custodyKeepsWrong)

/-- 'waybilllaw25.CustodyApart': WHATEVER THE INPUT: true; the input reads as it did. -/
def custodyApartSpec : ChangeSpec := { name := "custodyApart", fn := fun _ => fun
  | [d1, d2, d3] => { results := [.lit (.bool true)], args := [d1, d2, d3] }
  | _ => none }
def custodyApartRow : OpenClaim := { program := "ythkimmabaojaaaa", sum := "aebeea6e90cc193b4a53cb305f78553cd4fdc3a827238e145ab792bafa2bb059", func := "waybill/waybilllaw25.CustodyApart", spec := "custodyApart", unfollowed := true, recurses := true, apart := false }
def CustodyApartSaid : Prop := custodyApartRow.holds Try.pinned (OpenSpec.ofChange custodyApartSpec)

/-- ITS FALSE NEIGHBOUR: 'it returns false'. Refute it at one input. -/
def custodyApartWrong : ChangeSpec := { name := "custodyApart", fn := fun _ => fun
  | [d1, d2, d3] => { results := [.lit (.bool false)], args := [d1, d2, d3] }
  | _ => none }
def CustodyApartWrongFalsely : Prop := custodyApartRow.holds Try.pinned (OpenSpec.ofChange custodyApartWrong)

/-- 'waybilllaw25.CustodyChecks': WHATEVER THE INPUT: true; the input reads as it did. -/
def custodyChecksSpec : ChangeSpec := { name := "custodyChecks", fn := fun _ => fun
  | [d] => { results := [.lit (.bool true)], args := [d] }
  | _ => none }
def custodyChecksRow : OpenClaim := { program := "ythkimmabaojaaaa", sum := "aebeea6e90cc193b4a53cb305f78553cd4fdc3a827238e145ab792bafa2bb059", func := "waybill/waybilllaw25.CustodyChecks", spec := "custodyChecks", unfollowed := true, recurses := true, apart := false }
def CustodyChecksSaid : Prop := custodyChecksRow.holds Try.pinned (OpenSpec.ofChange custodyChecksSpec)

/-- ITS FALSE NEIGHBOUR: 'it returns false'. Refute it at one input. -/
def custodyChecksWrong : ChangeSpec := { name := "custodyChecks", fn := fun _ => fun
  | [d] => { results := [.lit (.bool false)], args := [d] }
  | _ => none }
def CustodyChecksWrongFalsely : Prop := custodyChecksRow.holds Try.pinned (OpenSpec.ofChange custodyChecksWrong)

/-- 'waybilllaw25.CustodyBegins': WHATEVER THE INPUT: true; the input reads as it did. -/
def custodyBeginsSpec : ChangeSpec := { name := "custodyBegins", fn := fun _ => fun
  | [d1, d2] => { results := [.lit (.bool true)], args := [d1, d2] }
  | _ => none }
def custodyBeginsRow : OpenClaim := { program := "ythkimmabaojaaaa", sum := "aebeea6e90cc193b4a53cb305f78553cd4fdc3a827238e145ab792bafa2bb059", func := "waybill/waybilllaw25.CustodyBegins", spec := "custodyBegins", unfollowed := true, recurses := true, apart := false }
def CustodyBeginsSaid : Prop := custodyBeginsRow.holds Try.pinned (OpenSpec.ofChange custodyBeginsSpec)

/-- ITS FALSE NEIGHBOUR: 'it returns false'. Refute it at one input. -/
def custodyBeginsWrong : ChangeSpec := { name := "custodyBegins", fn := fun _ => fun
  | [d1, d2] => { results := [.lit (.bool false)], args := [d1, d2] }
  | _ => none }
def CustodyBeginsWrongFalsely : Prop := custodyBeginsRow.holds Try.pinned (OpenSpec.ofChange custodyBeginsWrong)

/- THE SECOND FORM. 'bulk': how many values and letters a reading holds, each counted each time it is reached (what is shared counts as often as it is met; a slice's spare places count too). A statement '..UptoSaid' is the law's where the arguments, and the package variables that the reading takes, are together of bulk at most 1048576: NARROWER than '..Said'. Prove '..Said' where nothing that the law and all that it calls make is longer than what came in: it says more and counts as full. Else prove '..UptoSaid'. A law counts once. -/
mutual
def uptoBulk {H : Type} : DataW H → Nat
  | .lit (.string bytes) => bytes.length + 1
  | .lit _ => 1
  | .nil => 1
  | .ptr d => uptoBulk d + 1
  | .slice elems spare => uptoBulkAll elems + uptoBulkAll spare + 1
  | .agg parts => uptoBulkAll parts + 1
  | .iface _ d => uptoBulk d + 1
  | .map entries => uptoBulkEntries entries + 1
  | .held _ => 1
def uptoBulkAll {H : Type} : List (DataW H) → Nat
  | [] => 0
  | d :: r => uptoBulk d + uptoBulkAll r
def uptoBulkEntries {H : Type} : List (Lit × DataW H) → Nat
  | [] => 0
  | x :: r => uptoBulkEntry x + uptoBulkEntries r
def uptoBulkEntry {H : Type} : Lit × DataW H → Nat
  | (.string bytes, d) => bytes.length + uptoBulk d + 1
  | (_, d) => uptoBulk d + 1
 end
def uptoSmall : (H : Type) → List (DataW H) → Bool := fun _ ds => decide (uptoBulkAll ds ≤ 1048576)
def OpenSpec.upto (s : _root_.Go.ChangeSpec) : _root_.Go.OpenSpec := { _root_.Go.OpenSpec.ofChange s with cond := some uptoSmall }

/-- 'waybilllaw25.CustodyKeeps', WHERE WHAT IT READS IS OF BULK AT MOST 1048576: true; the input reads as it did. -/
def custodyKeepsUptoRow : OpenClaim := { program := "ythkimmabaojaaaa", sum := "aebeea6e90cc193b4a53cb305f78553cd4fdc3a827238e145ab792bafa2bb059", func := "waybill/waybilllaw25.CustodyKeeps", spec := "custodyKeeps", unfollowed := true, recurses := true, apart := false, narrowed := true }
def CustodyKeepsUptoSaid : Prop := custodyKeepsUptoRow.holds Try.pinned (OpenSpec.upto custodyKeepsSpec)

/-- 'waybilllaw25.CustodyApart', WHERE WHAT IT READS IS OF BULK AT MOST 1048576: true; the input reads as it did. -/
def custodyApartUptoRow : OpenClaim := { program := "ythkimmabaojaaaa", sum := "aebeea6e90cc193b4a53cb305f78553cd4fdc3a827238e145ab792bafa2bb059", func := "waybill/waybilllaw25.CustodyApart", spec := "custodyApart", unfollowed := true, recurses := true, apart := false, narrowed := true }
def CustodyApartUptoSaid : Prop := custodyApartUptoRow.holds Try.pinned (OpenSpec.upto custodyApartSpec)

/-- 'waybilllaw25.CustodyChecks', WHERE WHAT IT READS IS OF BULK AT MOST 1048576: true; the input reads as it did. -/
def custodyChecksUptoRow : OpenClaim := { program := "ythkimmabaojaaaa", sum := "aebeea6e90cc193b4a53cb305f78553cd4fdc3a827238e145ab792bafa2bb059", func := "waybill/waybilllaw25.CustodyChecks", spec := "custodyChecks", unfollowed := true, recurses := true, apart := false, narrowed := true }
def CustodyChecksUptoSaid : Prop := custodyChecksUptoRow.holds Try.pinned (OpenSpec.upto custodyChecksSpec)

/-- 'waybilllaw25.CustodyBegins', WHERE WHAT IT READS IS OF BULK AT MOST 1048576: true; the input reads as it did. -/
def custodyBeginsUptoRow : OpenClaim := { program := "ythkimmabaojaaaa", sum := "aebeea6e90cc193b4a53cb305f78553cd4fdc3a827238e145ab792bafa2bb059", func := "waybill/waybilllaw25.CustodyBegins", spec := "custodyBegins", unfollowed := true, recurses := true, apart := false, narrowed := true }
def CustodyBeginsUptoSaid : Prop := custodyBeginsUptoRow.holds Try.pinned (OpenSpec.upto custodyBeginsSpec)

end Rows
end Go.Proofs.Ythkimmabaojaaaa
