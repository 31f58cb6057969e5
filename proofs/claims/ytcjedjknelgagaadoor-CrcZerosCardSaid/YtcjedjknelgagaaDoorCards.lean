/-
  DERIVED. GIVEN WITH THE SEED: THE CARDS: each row of YtcjedjknelgagaaDoorRows.lean that lists a variable, with what it lists TIED to the program's text (the seventh form; the later family's looks); each row that meets fmt, with fmt's text TOLD by the authors' own Lean function (tested against real Go, not proved from fmt's source: count such statements apart). THE CARD IS WHAT COUNTS. Prove the row's statement (the work); the ties are given (YtcjedjknelgagaaDoorTie.lean); close each card by the builder's one call (the guide's Derived/Test/ToyasCard.lean, 'card_holds'). Laid BY PROGRAM, IN A SANDBOX (cutbox-door.mjs). By AI agents, Wed Nov 11 2026. No macro, syntax, notation, axiom, sorry.
-/
import Derived.Test.YtcjedjknelgagaaDoorRows
import GoSem.ClaimSeven
namespace Go.Proofs.YtcjedjknelgagaaDoor
namespace Rows

/-- THE TIED CARD OF 'pithlaw2.CrcSums'. -/
def crcSumsCard : Claim7 := { stood := { row := crcSumsRow, standIns := [], harness := (true, "dad25e67636a1169a3ed7c056bb010627bd0697df32c355fee54414cdfeb20a7"), looks := false }, kinds := [], alts := [], laidByText := true, laidKinds := [.data], laidTests := true, laidLooks := .later }
def CrcSumsCardSaid : Prop := Claim7.holds Tryd.pinned (.plain (OpenSpec.ofChange crcSumsSpec)) crcSumsCard

/-- THE TIED CARD OF 'pithlaw2.CrcUpdates'. -/
def crcUpdatesCard : Claim7 := { stood := { row := crcUpdatesRow, standIns := [], harness := (true, "dad25e67636a1169a3ed7c056bb010627bd0697df32c355fee54414cdfeb20a7"), looks := false }, kinds := [], alts := [], laidByText := true, laidKinds := [.data], laidTests := true, laidLooks := .later }
def CrcUpdatesCardSaid : Prop := Claim7.holds Tryd.pinned (.plain (OpenSpec.ofChange crcUpdatesSpec)) crcUpdatesCard

/-- THE TIED CARD OF 'pithlaw2.CrcJoins'. -/
def crcJoinsCard : Claim7 := { stood := { row := crcJoinsRow, standIns := [], harness := (true, "dad25e67636a1169a3ed7c056bb010627bd0697df32c355fee54414cdfeb20a7"), looks := false }, kinds := [], alts := [], laidByText := true, laidKinds := [.data], laidTests := true, laidLooks := .later }
def CrcJoinsCardSaid : Prop := Claim7.holds Tryd.pinned (.plain (OpenSpec.ofChange crcJoinsSpec)) crcJoinsCard

/-- THE TIED CARD OF 'pithlaw2.CrcParts'. -/
def crcPartsCard : Claim7 := { stood := { row := crcPartsRow, standIns := [], harness := (true, "dad25e67636a1169a3ed7c056bb010627bd0697df32c355fee54414cdfeb20a7"), looks := false }, kinds := [], alts := [], laidByText := true, laidKinds := [.data], laidTests := true, laidLooks := .later }
def CrcPartsCardSaid : Prop := Claim7.holds Tryd.pinned (.plain (OpenSpec.ofChange crcPartsSpec)) crcPartsCard

/-- THE TIED CARD OF 'pithlaw2.CrcGroups'. -/
def crcGroupsCard : Claim7 := { stood := { row := crcGroupsRow, standIns := [], harness := (true, "dad25e67636a1169a3ed7c056bb010627bd0697df32c355fee54414cdfeb20a7"), looks := false }, kinds := [], alts := [], laidByText := true, laidKinds := [.data], laidTests := true, laidLooks := .later }
def CrcGroupsCardSaid : Prop := Claim7.holds Tryd.pinned (.plain (OpenSpec.ofChange crcGroupsSpec)) crcGroupsCard

/-- THE TIED CARD OF 'pithlaw2.CrcSteps'. -/
def crcStepsCard : Claim7 := { stood := { row := crcStepsRow, standIns := [], harness := (true, "dad25e67636a1169a3ed7c056bb010627bd0697df32c355fee54414cdfeb20a7"), looks := false }, kinds := [], alts := [], laidByText := true, laidKinds := [.data], laidTests := true, laidLooks := .later }
def CrcStepsCardSaid : Prop := Claim7.holds Tryd.pinned (.plain (OpenSpec.ofChange crcStepsSpec)) crcStepsCard

/-- THE TIED CARD OF 'pithlaw2.CrcBehind'. -/
def crcBehindCard : Claim7 := { stood := { row := crcBehindRow, standIns := [], harness := (true, "dad25e67636a1169a3ed7c056bb010627bd0697df32c355fee54414cdfeb20a7"), looks := false }, kinds := [], alts := [], laidByText := true, laidKinds := [.data], laidTests := true, laidLooks := .later }
def CrcBehindCardSaid : Prop := Claim7.holds Tryd.pinned (.plain (OpenSpec.ofChange crcBehindSpec)) crcBehindCard

/-- THE TIED CARD OF 'pithlaw2.CrcBurst'. -/
def crcBurstCard : Claim7 := { stood := { row := crcBurstRow, standIns := [], harness := (true, "dad25e67636a1169a3ed7c056bb010627bd0697df32c355fee54414cdfeb20a7"), looks := false }, kinds := [], alts := [], laidByText := true, laidKinds := [.data], laidTests := true, laidLooks := .later }
def CrcBurstCardSaid : Prop := Claim7.holds Tryd.pinned (.plain (OpenSpec.ofChange crcBurstSpec)) crcBurstCard

/-- THE TIED CARD OF 'pithlaw2.CrcTwo'. -/
def crcTwoCard : Claim7 := { stood := { row := crcTwoRow, standIns := [], harness := (true, "dad25e67636a1169a3ed7c056bb010627bd0697df32c355fee54414cdfeb20a7"), looks := false }, kinds := [], alts := [], laidByText := true, laidKinds := [.data], laidTests := true, laidLooks := .later }
def CrcTwoCardSaid : Prop := Claim7.holds Tryd.pinned (.plain (OpenSpec.ofChange crcTwoSpec)) crcTwoCard

/-- THE TIED CARD OF 'pithlaw2.CrcLinear'. -/
def crcLinearCard : Claim7 := { stood := { row := crcLinearRow, standIns := [], harness := (true, "dad25e67636a1169a3ed7c056bb010627bd0697df32c355fee54414cdfeb20a7"), looks := false }, kinds := [], alts := [], laidByText := true, laidKinds := [.data], laidTests := true, laidLooks := .later }
def CrcLinearCardSaid : Prop := Claim7.holds Tryd.pinned (.plain (OpenSpec.ofChange crcLinearSpec)) crcLinearCard

/-- THE TIED CARD OF 'pithlaw2.CrcZeros'. -/
def crcZerosCard : Claim7 := { stood := { row := crcZerosRow, standIns := [], harness := (true, "dad25e67636a1169a3ed7c056bb010627bd0697df32c355fee54414cdfeb20a7"), looks := false }, kinds := [], alts := [], laidByText := true, laidKinds := [.data], laidTests := true, laidLooks := .later }
def CrcZerosCardSaid : Prop := Claim7.holds Tryd.pinned (.plain (OpenSpec.ofChange crcZerosSpec)) crcZerosCard

/-- THE SECOND FORM's CARD OF 'pithlaw2.CrcSums'. -/
def crcSumsUptoCard : Claim7 := { stood := { row := crcSumsUptoRow, standIns := [], harness := (true, "dad25e67636a1169a3ed7c056bb010627bd0697df32c355fee54414cdfeb20a7"), looks := false }, kinds := [], alts := [], laidByText := true, laidKinds := [.data], laidTests := true, laidLooks := .later }
def CrcSumsUptoCardSaid : Prop := Claim7.holds Tryd.pinned (.plain (OpenSpec.upto crcSumsSpec)) crcSumsUptoCard

/-- THE SECOND FORM's CARD OF 'pithlaw2.CrcUpdates'. -/
def crcUpdatesUptoCard : Claim7 := { stood := { row := crcUpdatesUptoRow, standIns := [], harness := (true, "dad25e67636a1169a3ed7c056bb010627bd0697df32c355fee54414cdfeb20a7"), looks := false }, kinds := [], alts := [], laidByText := true, laidKinds := [.data], laidTests := true, laidLooks := .later }
def CrcUpdatesUptoCardSaid : Prop := Claim7.holds Tryd.pinned (.plain (OpenSpec.upto crcUpdatesSpec)) crcUpdatesUptoCard

/-- THE SECOND FORM's CARD OF 'pithlaw2.CrcJoins'. -/
def crcJoinsUptoCard : Claim7 := { stood := { row := crcJoinsUptoRow, standIns := [], harness := (true, "dad25e67636a1169a3ed7c056bb010627bd0697df32c355fee54414cdfeb20a7"), looks := false }, kinds := [], alts := [], laidByText := true, laidKinds := [.data], laidTests := true, laidLooks := .later }
def CrcJoinsUptoCardSaid : Prop := Claim7.holds Tryd.pinned (.plain (OpenSpec.upto crcJoinsSpec)) crcJoinsUptoCard

/-- THE SECOND FORM's CARD OF 'pithlaw2.CrcParts'. -/
def crcPartsUptoCard : Claim7 := { stood := { row := crcPartsUptoRow, standIns := [], harness := (true, "dad25e67636a1169a3ed7c056bb010627bd0697df32c355fee54414cdfeb20a7"), looks := false }, kinds := [], alts := [], laidByText := true, laidKinds := [.data], laidTests := true, laidLooks := .later }
def CrcPartsUptoCardSaid : Prop := Claim7.holds Tryd.pinned (.plain (OpenSpec.upto crcPartsSpec)) crcPartsUptoCard

/-- THE SECOND FORM's CARD OF 'pithlaw2.CrcGroups'. -/
def crcGroupsUptoCard : Claim7 := { stood := { row := crcGroupsUptoRow, standIns := [], harness := (true, "dad25e67636a1169a3ed7c056bb010627bd0697df32c355fee54414cdfeb20a7"), looks := false }, kinds := [], alts := [], laidByText := true, laidKinds := [.data], laidTests := true, laidLooks := .later }
def CrcGroupsUptoCardSaid : Prop := Claim7.holds Tryd.pinned (.plain (OpenSpec.upto crcGroupsSpec)) crcGroupsUptoCard

/-- THE SECOND FORM's CARD OF 'pithlaw2.CrcSteps'. -/
def crcStepsUptoCard : Claim7 := { stood := { row := crcStepsUptoRow, standIns := [], harness := (true, "dad25e67636a1169a3ed7c056bb010627bd0697df32c355fee54414cdfeb20a7"), looks := false }, kinds := [], alts := [], laidByText := true, laidKinds := [.data], laidTests := true, laidLooks := .later }
def CrcStepsUptoCardSaid : Prop := Claim7.holds Tryd.pinned (.plain (OpenSpec.upto crcStepsSpec)) crcStepsUptoCard

/-- THE SECOND FORM's CARD OF 'pithlaw2.CrcBehind'. -/
def crcBehindUptoCard : Claim7 := { stood := { row := crcBehindUptoRow, standIns := [], harness := (true, "dad25e67636a1169a3ed7c056bb010627bd0697df32c355fee54414cdfeb20a7"), looks := false }, kinds := [], alts := [], laidByText := true, laidKinds := [.data], laidTests := true, laidLooks := .later }
def CrcBehindUptoCardSaid : Prop := Claim7.holds Tryd.pinned (.plain (OpenSpec.upto crcBehindSpec)) crcBehindUptoCard

/-- THE SECOND FORM's CARD OF 'pithlaw2.CrcBurst'. -/
def crcBurstUptoCard : Claim7 := { stood := { row := crcBurstUptoRow, standIns := [], harness := (true, "dad25e67636a1169a3ed7c056bb010627bd0697df32c355fee54414cdfeb20a7"), looks := false }, kinds := [], alts := [], laidByText := true, laidKinds := [.data], laidTests := true, laidLooks := .later }
def CrcBurstUptoCardSaid : Prop := Claim7.holds Tryd.pinned (.plain (OpenSpec.upto crcBurstSpec)) crcBurstUptoCard

/-- THE SECOND FORM's CARD OF 'pithlaw2.CrcTwo'. -/
def crcTwoUptoCard : Claim7 := { stood := { row := crcTwoUptoRow, standIns := [], harness := (true, "dad25e67636a1169a3ed7c056bb010627bd0697df32c355fee54414cdfeb20a7"), looks := false }, kinds := [], alts := [], laidByText := true, laidKinds := [.data], laidTests := true, laidLooks := .later }
def CrcTwoUptoCardSaid : Prop := Claim7.holds Tryd.pinned (.plain (OpenSpec.upto crcTwoSpec)) crcTwoUptoCard

/-- THE SECOND FORM's CARD OF 'pithlaw2.CrcLinear'. -/
def crcLinearUptoCard : Claim7 := { stood := { row := crcLinearUptoRow, standIns := [], harness := (true, "dad25e67636a1169a3ed7c056bb010627bd0697df32c355fee54414cdfeb20a7"), looks := false }, kinds := [], alts := [], laidByText := true, laidKinds := [.data], laidTests := true, laidLooks := .later }
def CrcLinearUptoCardSaid : Prop := Claim7.holds Tryd.pinned (.plain (OpenSpec.upto crcLinearSpec)) crcLinearUptoCard

/-- THE SECOND FORM's CARD OF 'pithlaw2.CrcZeros'. -/
def crcZerosUptoCard : Claim7 := { stood := { row := crcZerosUptoRow, standIns := [], harness := (true, "dad25e67636a1169a3ed7c056bb010627bd0697df32c355fee54414cdfeb20a7"), looks := false }, kinds := [], alts := [], laidByText := true, laidKinds := [.data], laidTests := true, laidLooks := .later }
def CrcZerosUptoCardSaid : Prop := Claim7.holds Tryd.pinned (.plain (OpenSpec.upto crcZerosSpec)) crcZerosUptoCard
end Rows
end Go.Proofs.YtcjedjknelgagaaDoor
