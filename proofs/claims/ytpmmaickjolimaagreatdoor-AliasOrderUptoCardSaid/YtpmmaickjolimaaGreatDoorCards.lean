/-
  DERIVED. GIVEN WITH THE SEED: THE CARDS: each row of YtpmmaickjolimaaGreatDoorRows.lean that lists a variable, with what it lists TIED to the program's text (the seventh form; the later family's looks); each row that meets fmt, with fmt's text TOLD by the authors' own Lean function (tested against real Go, not proved from fmt's source: count such statements apart). THE CARD IS WHAT COUNTS. Prove the row's statement (the work); the ties are given (YtpmmaickjolimaaGreatDoorTie.lean); close each card by the builder's one call (the guide's Derived/Test/ToyasCard.lean, 'card_holds'). Laid BY PROGRAM, IN A SANDBOX (cutbox-door.mjs). By AI agents, Wed Nov 11 2026. No macro, syntax, notation, axiom, sorry.
-/
import Derived.Test.YtpmmaickjolimaaGreatDoorRows
import GoSem.ClaimSeven
namespace Go.Proofs.YtpmmaickjolimaaGreatDoor
namespace Rows

/-- THE TIED CARD OF 'waybilllaw07.CidrReads'. -/
def cidrReadsCard : Claim7 := { stood := { row := cidrReadsRow, standIns := [], harness := (true, "87d50de6c4fa0af36222f640d7bf98864c5ec4e209f0cf46046bfbf9a6b3b4b4"), looks := true }, kinds := [], alts := [], laidByText := true, laidKinds := [.data, .data, .data, .data, .sentinel, .sentinel, .pinned], laidTests := true, laidLooks := .later }
def CidrReadsCardSaid : Prop := Claim7.holds Tryz.pinned (.plain (OpenSpec.ofChange cidrReadsSpec)) cidrReadsCard

/-- THE TIED CARD OF 'waybilllaw10.MailaddrKeeps'. -/
def mailaddrKeepsCard : Claim7 := { stood := { row := mailaddrKeepsRow, standIns := [], harness := (true, "87d50de6c4fa0af36222f640d7bf98864c5ec4e209f0cf46046bfbf9a6b3b4b4"), looks := true }, kinds := [], alts := [], laidByText := true, laidKinds := [.data, .data, .data, .data, .sentinel, .sentinel, .pinned], laidTests := true, laidLooks := .later }
def MailaddrKeepsCardSaid : Prop := Claim7.holds Tryz.pinned (.plain (OpenSpec.ofChange mailaddrKeepsSpec)) mailaddrKeepsCard

/-- THE TIED CARD OF 'waybilllaw10.MailaddrBack'. -/
def mailaddrBackCard : Claim7 := { stood := { row := mailaddrBackRow, standIns := [], harness := (true, "87d50de6c4fa0af36222f640d7bf98864c5ec4e209f0cf46046bfbf9a6b3b4b4"), looks := true }, kinds := [], alts := [], laidByText := true, laidKinds := [.data, .data, .data, .data, .sentinel, .sentinel, .pinned], laidTests := true, laidLooks := .later }
def MailaddrBackCardSaid : Prop := Claim7.holds Tryz.pinned (.plain (OpenSpec.ofChange mailaddrBackSpec)) mailaddrBackCard

/-- THE TIED CARD OF 'waybilllaw16.AliasReaches'. -/
def aliasReachesCard : Claim7 := { stood := { row := aliasReachesRow, standIns := [], harness := (true, "87d50de6c4fa0af36222f640d7bf98864c5ec4e209f0cf46046bfbf9a6b3b4b4"), looks := true }, kinds := [], alts := [], laidByText := true, laidKinds := [.data, .data, .data, .data, .sentinel, .sentinel, .pinned], laidTests := true, laidLooks := .later }
def AliasReachesCardSaid : Prop := Claim7.holds Tryz.pinned (.plain (OpenSpec.ofChange aliasReachesSpec)) aliasReachesCard

/-- THE TIED CARD OF 'waybilllaw16.AliasAlone'. -/
def aliasAloneCard : Claim7 := { stood := { row := aliasAloneRow, standIns := [], harness := (true, "87d50de6c4fa0af36222f640d7bf98864c5ec4e209f0cf46046bfbf9a6b3b4b4"), looks := true }, kinds := [], alts := [], laidByText := true, laidKinds := [.data, .data, .data, .data, .sentinel, .sentinel, .pinned], laidTests := true, laidLooks := .later }
def AliasAloneCardSaid : Prop := Claim7.holds Tryz.pinned (.plain (OpenSpec.ofChange aliasAloneSpec)) aliasAloneCard

/-- THE TIED CARD OF 'waybilllaw16.AliasOrder'. -/
def aliasOrderCard : Claim7 := { stood := { row := aliasOrderRow, standIns := [], harness := (true, "87d50de6c4fa0af36222f640d7bf98864c5ec4e209f0cf46046bfbf9a6b3b4b4"), looks := true }, kinds := [], alts := [], laidByText := true, laidKinds := [.data, .data, .data, .data, .sentinel, .sentinel, .pinned], laidTests := true, laidLooks := .later }
def AliasOrderCardSaid : Prop := Claim7.holds Tryz.pinned (.plain (OpenSpec.ofChange aliasOrderSpec)) aliasOrderCard

/-- THE SECOND FORM's CARD OF 'waybilllaw07.CidrReads'. -/
def cidrReadsUptoCard : Claim7 := { stood := { row := cidrReadsUptoRow, standIns := [], harness := (true, "87d50de6c4fa0af36222f640d7bf98864c5ec4e209f0cf46046bfbf9a6b3b4b4"), looks := true }, kinds := [], alts := [], laidByText := true, laidKinds := [.data, .data, .data, .data, .sentinel, .sentinel, .pinned], laidTests := true, laidLooks := .later }
def CidrReadsUptoCardSaid : Prop := Claim7.holds Tryz.pinned (.plain (OpenSpec.upto cidrReadsSpec)) cidrReadsUptoCard

/-- THE SECOND FORM's CARD OF 'waybilllaw10.MailaddrKeeps'. -/
def mailaddrKeepsUptoCard : Claim7 := { stood := { row := mailaddrKeepsUptoRow, standIns := [], harness := (true, "87d50de6c4fa0af36222f640d7bf98864c5ec4e209f0cf46046bfbf9a6b3b4b4"), looks := true }, kinds := [], alts := [], laidByText := true, laidKinds := [.data, .data, .data, .data, .sentinel, .sentinel, .pinned], laidTests := true, laidLooks := .later }
def MailaddrKeepsUptoCardSaid : Prop := Claim7.holds Tryz.pinned (.plain (OpenSpec.upto mailaddrKeepsSpec)) mailaddrKeepsUptoCard

/-- THE SECOND FORM's CARD OF 'waybilllaw10.MailaddrBack'. -/
def mailaddrBackUptoCard : Claim7 := { stood := { row := mailaddrBackUptoRow, standIns := [], harness := (true, "87d50de6c4fa0af36222f640d7bf98864c5ec4e209f0cf46046bfbf9a6b3b4b4"), looks := true }, kinds := [], alts := [], laidByText := true, laidKinds := [.data, .data, .data, .data, .sentinel, .sentinel, .pinned], laidTests := true, laidLooks := .later }
def MailaddrBackUptoCardSaid : Prop := Claim7.holds Tryz.pinned (.plain (OpenSpec.upto mailaddrBackSpec)) mailaddrBackUptoCard

/-- THE SECOND FORM's CARD OF 'waybilllaw16.AliasReaches'. -/
def aliasReachesUptoCard : Claim7 := { stood := { row := aliasReachesUptoRow, standIns := [], harness := (true, "87d50de6c4fa0af36222f640d7bf98864c5ec4e209f0cf46046bfbf9a6b3b4b4"), looks := true }, kinds := [], alts := [], laidByText := true, laidKinds := [.data, .data, .data, .data, .sentinel, .sentinel, .pinned], laidTests := true, laidLooks := .later }
def AliasReachesUptoCardSaid : Prop := Claim7.holds Tryz.pinned (.plain (OpenSpec.upto aliasReachesSpec)) aliasReachesUptoCard

/-- THE SECOND FORM's CARD OF 'waybilllaw16.AliasAlone'. -/
def aliasAloneUptoCard : Claim7 := { stood := { row := aliasAloneUptoRow, standIns := [], harness := (true, "87d50de6c4fa0af36222f640d7bf98864c5ec4e209f0cf46046bfbf9a6b3b4b4"), looks := true }, kinds := [], alts := [], laidByText := true, laidKinds := [.data, .data, .data, .data, .sentinel, .sentinel, .pinned], laidTests := true, laidLooks := .later }
def AliasAloneUptoCardSaid : Prop := Claim7.holds Tryz.pinned (.plain (OpenSpec.upto aliasAloneSpec)) aliasAloneUptoCard

/-- THE SECOND FORM's CARD OF 'waybilllaw16.AliasOrder'. -/
def aliasOrderUptoCard : Claim7 := { stood := { row := aliasOrderUptoRow, standIns := [], harness := (true, "87d50de6c4fa0af36222f640d7bf98864c5ec4e209f0cf46046bfbf9a6b3b4b4"), looks := true }, kinds := [], alts := [], laidByText := true, laidKinds := [.data, .data, .data, .data, .sentinel, .sentinel, .pinned], laidTests := true, laidLooks := .later }
def AliasOrderUptoCardSaid : Prop := Claim7.holds Tryz.pinned (.plain (OpenSpec.upto aliasOrderSpec)) aliasOrderUptoCard
end Rows
end Go.Proofs.YtpmmaickjolimaaGreatDoor
