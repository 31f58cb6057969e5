/-
  DERIVED. GIVEN WITH THE SEED: THE CARDS: each row of YtnbagbenpojpnaaDoorRows.lean that lists a variable, with what it lists TIED to the program's text (the seventh form; the later family's looks); each row that meets fmt, with fmt's text TOLD by the authors' own Lean function (tested against real Go, not proved from fmt's source: count such statements apart). THE CARD IS WHAT COUNTS. Prove the row's statement (the work); the ties are given (YtnbagbenpojpnaaDoorTie.lean); close each card by the builder's one call (the guide's Derived/Test/ToyasCard.lean, 'card_holds'). Laid BY PROGRAM, IN A SANDBOX (cutbox-door.mjs). By AI agents, Wed Nov 11 2026. No macro, syntax, notation, axiom, sorry.
-/
import Derived.Test.YtnbagbenpojpnaaDoorRows
import GoSem.ClaimSeven
namespace Go.Proofs.YtnbagbenpojpnaaDoor
namespace Rows

/-- THE TIED CARD OF 'pithlaw3.FrameEncodes'. -/
def frameEncodesCard : Claim7 := { stood := { row := frameEncodesRow, standIns := [], harness := (true, "a41d64109e1b8089e1140f578fa33a0a57f1874d11b9d8828a9c601515262ff5"), looks := false }, kinds := [], alts := [], laidByText := true, laidKinds := [.data], laidTests := true, laidLooks := .later }
def FrameEncodesCardSaid : Prop := Claim7.holds Tryd.pinned (.plain (OpenSpec.ofChange frameEncodesSpec)) frameEncodesCard

/-- THE TIED CARD OF 'pithlaw3.FrameDecodes'. -/
def frameDecodesCard : Claim7 := { stood := { row := frameDecodesRow, standIns := [], harness := (true, "a41d64109e1b8089e1140f578fa33a0a57f1874d11b9d8828a9c601515262ff5"), looks := false }, kinds := [], alts := [], laidByText := true, laidKinds := [.data], laidTests := true, laidLooks := .later }
def FrameDecodesCardSaid : Prop := Claim7.holds Tryd.pinned (.plain (OpenSpec.ofChange frameDecodesSpec)) frameDecodesCard

/-- THE TIED CARD OF 'pithlaw3.FrameRows'. -/
def frameRowsCard : Claim7 := { stood := { row := frameRowsRow, standIns := [], harness := (true, "a41d64109e1b8089e1140f578fa33a0a57f1874d11b9d8828a9c601515262ff5"), looks := false }, kinds := [], alts := [], laidByText := true, laidKinds := [.data], laidTests := true, laidLooks := .later }
def FrameRowsCardSaid : Prop := Claim7.holds Tryd.pinned (.plain (OpenSpec.ofChange frameRowsSpec)) frameRowsCard

/-- THE TIED CARD OF 'pithlaw3.FrameLaid'. -/
def frameLaidCard : Claim7 := { stood := { row := frameLaidRow, standIns := [], harness := (true, "a41d64109e1b8089e1140f578fa33a0a57f1874d11b9d8828a9c601515262ff5"), looks := false }, kinds := [], alts := [], laidByText := true, laidKinds := [.data], laidTests := true, laidLooks := .later }
def FrameLaidCardSaid : Prop := Claim7.holds Tryd.pinned (.plain (OpenSpec.ofChange frameLaidSpec)) frameLaidCard

/-- THE TIED CARD OF 'pithlaw3.FrameBack'. -/
def frameBackCard : Claim7 := { stood := { row := frameBackRow, standIns := [], harness := (true, "a41d64109e1b8089e1140f578fa33a0a57f1874d11b9d8828a9c601515262ff5"), looks := false }, kinds := [], alts := [], laidByText := true, laidKinds := [.data], laidTests := true, laidLooks := .later }
def FrameBackCardSaid : Prop := Claim7.holds Tryd.pinned (.plain (OpenSpec.ofChange frameBackSpec)) frameBackCard

/-- THE TIED CARD OF 'pithlaw3.FrameBursts'. -/
def frameBurstsCard : Claim7 := { stood := { row := frameBurstsRow, standIns := [], harness := (true, "a41d64109e1b8089e1140f578fa33a0a57f1874d11b9d8828a9c601515262ff5"), looks := false }, kinds := [], alts := [], laidByText := true, laidKinds := [.data], laidTests := true, laidLooks := .later }
def FrameBurstsCardSaid : Prop := Claim7.holds Tryd.pinned (.plain (OpenSpec.ofChange frameBurstsSpec)) frameBurstsCard

/-- THE TIED CARD OF 'pithlaw3.FrameCuts'. -/
def frameCutsCard : Claim7 := { stood := { row := frameCutsRow, standIns := [], harness := (true, "a41d64109e1b8089e1140f578fa33a0a57f1874d11b9d8828a9c601515262ff5"), looks := false }, kinds := [], alts := [], laidByText := true, laidKinds := [.data], laidTests := true, laidLooks := .later }
def FrameCutsCardSaid : Prop := Claim7.holds Tryd.pinned (.plain (OpenSpec.ofChange frameCutsSpec)) frameCutsCard

/-- THE TIED CARD OF 'pithlaw3.FrameTwo'. -/
def frameTwoCard : Claim7 := { stood := { row := frameTwoRow, standIns := [], harness := (true, "a41d64109e1b8089e1140f578fa33a0a57f1874d11b9d8828a9c601515262ff5"), looks := false }, kinds := [], alts := [], laidByText := true, laidKinds := [.data], laidTests := true, laidLooks := .later }
def FrameTwoCardSaid : Prop := Claim7.holds Tryd.pinned (.plain (OpenSpec.ofChange frameTwoSpec)) frameTwoCard

/-- THE SECOND FORM's CARD OF 'pithlaw3.FrameEncodes'. -/
def frameEncodesUptoCard : Claim7 := { stood := { row := frameEncodesUptoRow, standIns := [], harness := (true, "a41d64109e1b8089e1140f578fa33a0a57f1874d11b9d8828a9c601515262ff5"), looks := false }, kinds := [], alts := [], laidByText := true, laidKinds := [.data], laidTests := true, laidLooks := .later }
def FrameEncodesUptoCardSaid : Prop := Claim7.holds Tryd.pinned (.plain (OpenSpec.upto frameEncodesSpec)) frameEncodesUptoCard

/-- THE SECOND FORM's CARD OF 'pithlaw3.FrameDecodes'. -/
def frameDecodesUptoCard : Claim7 := { stood := { row := frameDecodesUptoRow, standIns := [], harness := (true, "a41d64109e1b8089e1140f578fa33a0a57f1874d11b9d8828a9c601515262ff5"), looks := false }, kinds := [], alts := [], laidByText := true, laidKinds := [.data], laidTests := true, laidLooks := .later }
def FrameDecodesUptoCardSaid : Prop := Claim7.holds Tryd.pinned (.plain (OpenSpec.upto frameDecodesSpec)) frameDecodesUptoCard

/-- THE SECOND FORM's CARD OF 'pithlaw3.FrameRows'. -/
def frameRowsUptoCard : Claim7 := { stood := { row := frameRowsUptoRow, standIns := [], harness := (true, "a41d64109e1b8089e1140f578fa33a0a57f1874d11b9d8828a9c601515262ff5"), looks := false }, kinds := [], alts := [], laidByText := true, laidKinds := [.data], laidTests := true, laidLooks := .later }
def FrameRowsUptoCardSaid : Prop := Claim7.holds Tryd.pinned (.plain (OpenSpec.upto frameRowsSpec)) frameRowsUptoCard

/-- THE SECOND FORM's CARD OF 'pithlaw3.FrameLaid'. -/
def frameLaidUptoCard : Claim7 := { stood := { row := frameLaidUptoRow, standIns := [], harness := (true, "a41d64109e1b8089e1140f578fa33a0a57f1874d11b9d8828a9c601515262ff5"), looks := false }, kinds := [], alts := [], laidByText := true, laidKinds := [.data], laidTests := true, laidLooks := .later }
def FrameLaidUptoCardSaid : Prop := Claim7.holds Tryd.pinned (.plain (OpenSpec.upto frameLaidSpec)) frameLaidUptoCard

/-- THE SECOND FORM's CARD OF 'pithlaw3.FrameBack'. -/
def frameBackUptoCard : Claim7 := { stood := { row := frameBackUptoRow, standIns := [], harness := (true, "a41d64109e1b8089e1140f578fa33a0a57f1874d11b9d8828a9c601515262ff5"), looks := false }, kinds := [], alts := [], laidByText := true, laidKinds := [.data], laidTests := true, laidLooks := .later }
def FrameBackUptoCardSaid : Prop := Claim7.holds Tryd.pinned (.plain (OpenSpec.upto frameBackSpec)) frameBackUptoCard

/-- THE SECOND FORM's CARD OF 'pithlaw3.FrameBursts'. -/
def frameBurstsUptoCard : Claim7 := { stood := { row := frameBurstsUptoRow, standIns := [], harness := (true, "a41d64109e1b8089e1140f578fa33a0a57f1874d11b9d8828a9c601515262ff5"), looks := false }, kinds := [], alts := [], laidByText := true, laidKinds := [.data], laidTests := true, laidLooks := .later }
def FrameBurstsUptoCardSaid : Prop := Claim7.holds Tryd.pinned (.plain (OpenSpec.upto frameBurstsSpec)) frameBurstsUptoCard

/-- THE SECOND FORM's CARD OF 'pithlaw3.FrameCuts'. -/
def frameCutsUptoCard : Claim7 := { stood := { row := frameCutsUptoRow, standIns := [], harness := (true, "a41d64109e1b8089e1140f578fa33a0a57f1874d11b9d8828a9c601515262ff5"), looks := false }, kinds := [], alts := [], laidByText := true, laidKinds := [.data], laidTests := true, laidLooks := .later }
def FrameCutsUptoCardSaid : Prop := Claim7.holds Tryd.pinned (.plain (OpenSpec.upto frameCutsSpec)) frameCutsUptoCard

/-- THE SECOND FORM's CARD OF 'pithlaw3.FrameTwo'. -/
def frameTwoUptoCard : Claim7 := { stood := { row := frameTwoUptoRow, standIns := [], harness := (true, "a41d64109e1b8089e1140f578fa33a0a57f1874d11b9d8828a9c601515262ff5"), looks := false }, kinds := [], alts := [], laidByText := true, laidKinds := [.data], laidTests := true, laidLooks := .later }
def FrameTwoUptoCardSaid : Prop := Claim7.holds Tryd.pinned (.plain (OpenSpec.upto frameTwoSpec)) frameTwoUptoCard
end Rows
end Go.Proofs.YtnbagbenpojpnaaDoor
