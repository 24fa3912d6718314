/-
  DERIVED. GIVEN WITH THE SEED: THE CARDS: each row of YtmlmkmhkmifnkaaGreatDoorRows.lean that lists a variable, with what it lists TIED to the program's text (the seventh form; the later family's looks); each row that meets fmt, with fmt's text TOLD by the authors' own Lean function (tested against real Go, not proved from fmt's source: count such statements apart). THE CARD IS WHAT COUNTS. Prove the row's statement (the work); the ties are given (YtmlmkmhkmifnkaaGreatDoorTie.lean); close each card by the builder's one call (the guide's Derived/Test/ToyasCard.lean, 'card_holds'). Laid BY PROGRAM, IN A SANDBOX (cutbox-door.mjs). By AI agents, Wed Nov 11 2026. No macro, syntax, notation, axiom, sorry.
-/
import Derived.Test.YtmlmkmhkmifnkaaGreatDoorRows
import GoSem.ClaimSeven
namespace Go.Proofs.YtmlmkmhkmifnkaaGreatDoor
namespace Rows

/-- THE TIED CARD OF 'waybilllaw15.CanonPaths'. -/
def canonPathsCard : Claim7 := { stood := { row := canonPathsRow, standIns := [], harness := (true, "2f3ac7dd618fe5ff1063868a0ac57e2abaf549fe58a027bcae198a10c0a7846c"), looks := true }, kinds := [], alts := [], laidByText := true, laidKinds := [.data, .data, .data, .data, .sentinel, .sentinel, .pinned, .pinned], laidTests := true, laidLooks := .later }
def CanonPathsCardSaid : Prop := Claim7.holds Tryz.pinned (.plain (OpenSpec.ofChange canonPathsSpec)) canonPathsCard

/-- THE TIED CARD OF 'waybilllaw15.CanonNames'. -/
def canonNamesCard : Claim7 := { stood := { row := canonNamesRow, standIns := [], harness := (true, "2f3ac7dd618fe5ff1063868a0ac57e2abaf549fe58a027bcae198a10c0a7846c"), looks := true }, kinds := [], alts := [], laidByText := true, laidKinds := [.data, .data, .data, .data, .sentinel, .sentinel, .pinned, .pinned], laidTests := true, laidLooks := .later }
def CanonNamesCardSaid : Prop := Claim7.holds Tryz.pinned (.plain (OpenSpec.ofChange canonNamesSpec)) canonNamesCard

/-- THE TIED CARD OF 'waybilllaw15.CanonTwice'. -/
def canonTwiceCard : Claim7 := { stood := { row := canonTwiceRow, standIns := [], harness := (true, "2f3ac7dd618fe5ff1063868a0ac57e2abaf549fe58a027bcae198a10c0a7846c"), looks := true }, kinds := [], alts := [], laidByText := true, laidKinds := [.data, .data, .data, .data, .sentinel, .sentinel, .pinned, .pinned], laidTests := true, laidLooks := .later }
def CanonTwiceCardSaid : Prop := Claim7.holds Tryz.pinned (.plain (OpenSpec.ofChange canonTwiceSpec)) canonTwiceCard

/-- THE TIED CARD OF 'waybilllaw15.CanonFirst'. -/
def canonFirstCard : Claim7 := { stood := { row := canonFirstRow, standIns := [], harness := (true, "2f3ac7dd618fe5ff1063868a0ac57e2abaf549fe58a027bcae198a10c0a7846c"), looks := true }, kinds := [], alts := [], laidByText := true, laidKinds := [.data, .data, .data, .data, .sentinel, .sentinel, .pinned, .pinned], laidTests := true, laidLooks := .later }
def CanonFirstCardSaid : Prop := Claim7.holds Tryz.pinned (.plain (OpenSpec.ofChange canonFirstSpec)) canonFirstCard

/-- THE TIED CARD OF 'waybilllaw15.CanonBodies'. -/
def canonBodiesCard : Claim7 := { stood := { row := canonBodiesRow, standIns := [], harness := (true, "2f3ac7dd618fe5ff1063868a0ac57e2abaf549fe58a027bcae198a10c0a7846c"), looks := true }, kinds := [], alts := [], laidByText := true, laidKinds := [.data, .data, .data, .data, .sentinel, .sentinel, .pinned, .pinned], laidTests := true, laidLooks := .later }
def CanonBodiesCardSaid : Prop := Claim7.holds Tryz.pinned (.plain (OpenSpec.ofChange canonBodiesSpec)) canonBodiesCard

/-- THE TIED CARD OF 'waybilllaw15.CanonMessages'. -/
def canonMessagesCard : Claim7 := { stood := { row := canonMessagesRow, standIns := [], harness := (true, "2f3ac7dd618fe5ff1063868a0ac57e2abaf549fe58a027bcae198a10c0a7846c"), looks := true }, kinds := [], alts := [], laidByText := true, laidKinds := [.data, .data, .data, .data, .sentinel, .sentinel, .pinned, .pinned], laidTests := true, laidLooks := .later }
def CanonMessagesCardSaid : Prop := Claim7.holds Tryz.pinned (.plain (OpenSpec.ofChange canonMessagesSpec)) canonMessagesCard

/-- THE TIED CARD OF 'waybilllaw15.CanonKeeps'. -/
def canonKeepsCard : Claim7 := { stood := { row := canonKeepsRow, standIns := [], harness := (true, "2f3ac7dd618fe5ff1063868a0ac57e2abaf549fe58a027bcae198a10c0a7846c"), looks := true }, kinds := [], alts := [], laidByText := true, laidKinds := [.data, .data, .data, .data, .sentinel, .sentinel, .pinned, .pinned], laidTests := true, laidLooks := .later }
def CanonKeepsCardSaid : Prop := Claim7.holds Tryz.pinned (.plain (OpenSpec.ofChange canonKeepsSpec)) canonKeepsCard

/-- THE SECOND FORM's CARD OF 'waybilllaw15.CanonPaths'. -/
def canonPathsUptoCard : Claim7 := { stood := { row := canonPathsUptoRow, standIns := [], harness := (true, "2f3ac7dd618fe5ff1063868a0ac57e2abaf549fe58a027bcae198a10c0a7846c"), looks := true }, kinds := [], alts := [], laidByText := true, laidKinds := [.data, .data, .data, .data, .sentinel, .sentinel, .pinned, .pinned], laidTests := true, laidLooks := .later }
def CanonPathsUptoCardSaid : Prop := Claim7.holds Tryz.pinned (.plain (OpenSpec.upto canonPathsSpec)) canonPathsUptoCard

/-- THE SECOND FORM's CARD OF 'waybilllaw15.CanonNames'. -/
def canonNamesUptoCard : Claim7 := { stood := { row := canonNamesUptoRow, standIns := [], harness := (true, "2f3ac7dd618fe5ff1063868a0ac57e2abaf549fe58a027bcae198a10c0a7846c"), looks := true }, kinds := [], alts := [], laidByText := true, laidKinds := [.data, .data, .data, .data, .sentinel, .sentinel, .pinned, .pinned], laidTests := true, laidLooks := .later }
def CanonNamesUptoCardSaid : Prop := Claim7.holds Tryz.pinned (.plain (OpenSpec.upto canonNamesSpec)) canonNamesUptoCard

/-- THE SECOND FORM's CARD OF 'waybilllaw15.CanonTwice'. -/
def canonTwiceUptoCard : Claim7 := { stood := { row := canonTwiceUptoRow, standIns := [], harness := (true, "2f3ac7dd618fe5ff1063868a0ac57e2abaf549fe58a027bcae198a10c0a7846c"), looks := true }, kinds := [], alts := [], laidByText := true, laidKinds := [.data, .data, .data, .data, .sentinel, .sentinel, .pinned, .pinned], laidTests := true, laidLooks := .later }
def CanonTwiceUptoCardSaid : Prop := Claim7.holds Tryz.pinned (.plain (OpenSpec.upto canonTwiceSpec)) canonTwiceUptoCard

/-- THE SECOND FORM's CARD OF 'waybilllaw15.CanonFirst'. -/
def canonFirstUptoCard : Claim7 := { stood := { row := canonFirstUptoRow, standIns := [], harness := (true, "2f3ac7dd618fe5ff1063868a0ac57e2abaf549fe58a027bcae198a10c0a7846c"), looks := true }, kinds := [], alts := [], laidByText := true, laidKinds := [.data, .data, .data, .data, .sentinel, .sentinel, .pinned, .pinned], laidTests := true, laidLooks := .later }
def CanonFirstUptoCardSaid : Prop := Claim7.holds Tryz.pinned (.plain (OpenSpec.upto canonFirstSpec)) canonFirstUptoCard

/-- THE SECOND FORM's CARD OF 'waybilllaw15.CanonBodies'. -/
def canonBodiesUptoCard : Claim7 := { stood := { row := canonBodiesUptoRow, standIns := [], harness := (true, "2f3ac7dd618fe5ff1063868a0ac57e2abaf549fe58a027bcae198a10c0a7846c"), looks := true }, kinds := [], alts := [], laidByText := true, laidKinds := [.data, .data, .data, .data, .sentinel, .sentinel, .pinned, .pinned], laidTests := true, laidLooks := .later }
def CanonBodiesUptoCardSaid : Prop := Claim7.holds Tryz.pinned (.plain (OpenSpec.upto canonBodiesSpec)) canonBodiesUptoCard

/-- THE SECOND FORM's CARD OF 'waybilllaw15.CanonMessages'. -/
def canonMessagesUptoCard : Claim7 := { stood := { row := canonMessagesUptoRow, standIns := [], harness := (true, "2f3ac7dd618fe5ff1063868a0ac57e2abaf549fe58a027bcae198a10c0a7846c"), looks := true }, kinds := [], alts := [], laidByText := true, laidKinds := [.data, .data, .data, .data, .sentinel, .sentinel, .pinned, .pinned], laidTests := true, laidLooks := .later }
def CanonMessagesUptoCardSaid : Prop := Claim7.holds Tryz.pinned (.plain (OpenSpec.upto canonMessagesSpec)) canonMessagesUptoCard

/-- THE SECOND FORM's CARD OF 'waybilllaw15.CanonKeeps'. -/
def canonKeepsUptoCard : Claim7 := { stood := { row := canonKeepsUptoRow, standIns := [], harness := (true, "2f3ac7dd618fe5ff1063868a0ac57e2abaf549fe58a027bcae198a10c0a7846c"), looks := true }, kinds := [], alts := [], laidByText := true, laidKinds := [.data, .data, .data, .data, .sentinel, .sentinel, .pinned, .pinned], laidTests := true, laidLooks := .later }
def CanonKeepsUptoCardSaid : Prop := Claim7.holds Tryz.pinned (.plain (OpenSpec.upto canonKeepsSpec)) canonKeepsUptoCard
end Rows
end Go.Proofs.YtmlmkmhkmifnkaaGreatDoor
