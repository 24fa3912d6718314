/-
  DERIVED. GIVEN WITH THE SEED: THE CARDS: each row of YtpmmaickjolimaaDoorRows.lean that lists a variable, with what it lists TIED to the program's text (the seventh form; the later family's looks); each row that meets fmt, with fmt's text TOLD by the authors' own Lean function (tested against real Go, not proved from fmt's source: count such statements apart). THE CARD IS WHAT COUNTS. Prove the row's statement (the work); the ties are given (YtpmmaickjolimaaDoorTie.lean); close each card by the builder's one call (the guide's Derived/Test/ToyasCard.lean, 'card_holds'). Laid BY PROGRAM, IN A SANDBOX (cutbox-door.mjs). By AI agents, Wed Nov 11 2026. No macro, syntax, notation, axiom, sorry.
-/
import Derived.Test.YtpmmaickjolimaaDoorRows
import GoSem.ClaimSeven
namespace Go.Proofs.YtpmmaickjolimaaDoor
namespace Rows

/-- THE TIED CARD OF 'waybilllaw07.CidrShows'. -/
def cidrShowsCard : Claim7 := { stood := { row := cidrShowsRow, standIns := [], harness := (true, "6527a1ee173d39321108371db9cf4978e217b4f25aaa9fdbab2e3e93a0a2b277"), looks := true }, kinds := [], alts := [], laidByText := true, laidKinds := [.data, .data, .data, .data, .sentinel, .sentinel, .pinned], laidTests := true, laidLooks := .later }
def CidrShowsCardSaid : Prop := Claim7.holds Tryd.pinned (.plain (OpenSpec.ofChange cidrShowsSpec)) cidrShowsCard

/-- THE TIED CARD OF 'waybilllaw07.CidrBack'. -/
def cidrBackCard : Claim7 := { stood := { row := cidrBackRow, standIns := [], harness := (true, "6527a1ee173d39321108371db9cf4978e217b4f25aaa9fdbab2e3e93a0a2b277"), looks := true }, kinds := [], alts := [], laidByText := true, laidKinds := [.data, .data, .data, .data, .sentinel, .sentinel, .pinned], laidTests := true, laidLooks := .later }
def CidrBackCardSaid : Prop := Claim7.holds Tryd.pinned (.plain (OpenSpec.ofChange cidrBackSpec)) cidrBackCard

/-- THE TIED CARD OF 'waybilllaw07.CidrOrders'. -/
def cidrOrdersCard : Claim7 := { stood := { row := cidrOrdersRow, standIns := [], harness := (true, "6527a1ee173d39321108371db9cf4978e217b4f25aaa9fdbab2e3e93a0a2b277"), looks := true }, kinds := [], alts := [], laidByText := true, laidKinds := [.data, .data, .data, .data, .sentinel, .sentinel, .pinned], laidTests := true, laidLooks := .later }
def CidrOrdersCardSaid : Prop := Claim7.holds Tryd.pinned (.plain (OpenSpec.ofChange cidrOrdersSpec)) cidrOrdersCard

/-- THE TIED CARD OF 'waybilllaw07.CidrWithin'. -/
def cidrWithinCard : Claim7 := { stood := { row := cidrWithinRow, standIns := [], harness := (true, "6527a1ee173d39321108371db9cf4978e217b4f25aaa9fdbab2e3e93a0a2b277"), looks := true }, kinds := [], alts := [], laidByText := true, laidKinds := [.data, .data, .data, .data, .sentinel, .sentinel, .pinned], laidTests := true, laidLooks := .later }
def CidrWithinCardSaid : Prop := Claim7.holds Tryd.pinned (.plain (OpenSpec.ofChange cidrWithinSpec)) cidrWithinCard

/-- THE SECOND FORM's CARD OF 'waybilllaw07.CidrShows'. -/
def cidrShowsUptoCard : Claim7 := { stood := { row := cidrShowsUptoRow, standIns := [], harness := (true, "6527a1ee173d39321108371db9cf4978e217b4f25aaa9fdbab2e3e93a0a2b277"), looks := true }, kinds := [], alts := [], laidByText := true, laidKinds := [.data, .data, .data, .data, .sentinel, .sentinel, .pinned], laidTests := true, laidLooks := .later }
def CidrShowsUptoCardSaid : Prop := Claim7.holds Tryd.pinned (.plain (OpenSpec.upto cidrShowsSpec)) cidrShowsUptoCard

/-- THE SECOND FORM's CARD OF 'waybilllaw07.CidrBack'. -/
def cidrBackUptoCard : Claim7 := { stood := { row := cidrBackUptoRow, standIns := [], harness := (true, "6527a1ee173d39321108371db9cf4978e217b4f25aaa9fdbab2e3e93a0a2b277"), looks := true }, kinds := [], alts := [], laidByText := true, laidKinds := [.data, .data, .data, .data, .sentinel, .sentinel, .pinned], laidTests := true, laidLooks := .later }
def CidrBackUptoCardSaid : Prop := Claim7.holds Tryd.pinned (.plain (OpenSpec.upto cidrBackSpec)) cidrBackUptoCard

/-- THE SECOND FORM's CARD OF 'waybilllaw07.CidrOrders'. -/
def cidrOrdersUptoCard : Claim7 := { stood := { row := cidrOrdersUptoRow, standIns := [], harness := (true, "6527a1ee173d39321108371db9cf4978e217b4f25aaa9fdbab2e3e93a0a2b277"), looks := true }, kinds := [], alts := [], laidByText := true, laidKinds := [.data, .data, .data, .data, .sentinel, .sentinel, .pinned], laidTests := true, laidLooks := .later }
def CidrOrdersUptoCardSaid : Prop := Claim7.holds Tryd.pinned (.plain (OpenSpec.upto cidrOrdersSpec)) cidrOrdersUptoCard

/-- THE SECOND FORM's CARD OF 'waybilllaw07.CidrWithin'. -/
def cidrWithinUptoCard : Claim7 := { stood := { row := cidrWithinUptoRow, standIns := [], harness := (true, "6527a1ee173d39321108371db9cf4978e217b4f25aaa9fdbab2e3e93a0a2b277"), looks := true }, kinds := [], alts := [], laidByText := true, laidKinds := [.data, .data, .data, .data, .sentinel, .sentinel, .pinned], laidTests := true, laidLooks := .later }
def CidrWithinUptoCardSaid : Prop := Claim7.holds Tryd.pinned (.plain (OpenSpec.upto cidrWithinSpec)) cidrWithinUptoCard
end Rows
end Go.Proofs.YtpmmaickjolimaaDoor
