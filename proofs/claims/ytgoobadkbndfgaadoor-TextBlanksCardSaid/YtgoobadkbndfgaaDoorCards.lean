/-
  DERIVED. GIVEN WITH THE SEED: THE CARDS: each row of YtgoobadkbndfgaaDoorRows.lean that lists a variable, with what it lists TIED to the program's text (the seventh form; the later family's looks); each row that meets fmt, with fmt's text TOLD by the authors' own Lean function (tested against real Go, not proved from fmt's source: count such statements apart). THE CARD IS WHAT COUNTS. Prove the row's statement (the work); the ties are given (YtgoobadkbndfgaaDoorTie.lean); close each card by the builder's one call (the guide's Derived/Test/ToyasCard.lean, 'card_holds'). Laid BY PROGRAM, IN A SANDBOX (cutbox-door.mjs). By AI agents, Wed Nov 11 2026. No macro, syntax, notation, axiom, sorry.
-/
import Derived.Test.YtgoobadkbndfgaaDoorRows
import GoSem.ClaimSeven
namespace Go.Proofs.YtgoobadkbndfgaaDoor
namespace Rows

/-- THE TIED CARD OF 'pithlaw4.TextPrintsChanges'. -/
def textPrintsChangesCard : Claim7 := { stood := { row := textPrintsChangesRow, standIns := [], harness := (true, "1445edcad87f20978cc22a059428891f12942f182df910526fd6764c85fc1142"), looks := false }, kinds := [], alts := [], laidByText := true, laidKinds := [.data, .data, .data, .data, .pinned], laidTests := true, laidLooks := .later }
def TextPrintsChangesCardSaid : Prop := Claim7.holds Tryd.pinned (.plain (OpenSpec.ofChange textPrintsChangesSpec)) textPrintsChangesCard

/-- THE TIED CARD OF 'pithlaw4.TextFeeds'. -/
def textFeedsCard : Claim7 := { stood := { row := textFeedsRow, standIns := [], harness := (true, "1445edcad87f20978cc22a059428891f12942f182df910526fd6764c85fc1142"), looks := false }, kinds := [], alts := [], laidByText := true, laidKinds := [.data, .pinned], laidTests := true, laidLooks := .later }
def TextFeedsCardSaid : Prop := Claim7.holds Tryd.pinned (.plain (OpenSpec.ofChange textFeedsSpec)) textFeedsCard

/-- THE TIED CARD OF 'pithlaw4.TextParses'. -/
def textParsesCard : Claim7 := { stood := { row := textParsesRow, standIns := [], harness := (true, "1445edcad87f20978cc22a059428891f12942f182df910526fd6764c85fc1142"), looks := false }, kinds := [], alts := [], laidByText := true, laidKinds := [.data, .pinned], laidTests := true, laidLooks := .later }
def TextParsesCardSaid : Prop := Claim7.holds Tryd.pinned (.plain (OpenSpec.ofChange textParsesSpec)) textParsesCard

/-- THE TIED CARD OF 'pithlaw4.TextChanges'. -/
def textChangesCard : Claim7 := { stood := { row := textChangesRow, standIns := [], harness := (true, "1445edcad87f20978cc22a059428891f12942f182df910526fd6764c85fc1142"), looks := false }, kinds := [], alts := [], laidByText := true, laidKinds := [.data, .pinned], laidTests := true, laidLooks := .later }
def TextChangesCardSaid : Prop := Claim7.holds Tryd.pinned (.plain (OpenSpec.ofChange textChangesSpec)) textChangesCard

/-- THE TIED CARD OF 'pithlaw4.TextCuts'. -/
def textCutsCard : Claim7 := { stood := { row := textCutsRow, standIns := [], harness := (true, "1445edcad87f20978cc22a059428891f12942f182df910526fd6764c85fc1142"), looks := false }, kinds := [], alts := [], laidByText := true, laidKinds := [.data, .pinned], laidTests := true, laidLooks := .later }
def TextCutsCardSaid : Prop := Claim7.holds Tryd.pinned (.plain (OpenSpec.ofChange textCutsSpec)) textCutsCard

/-- THE TIED CARD OF 'pithlaw4.TextBlanks'. -/
def textBlanksCard : Claim7 := { stood := { row := textBlanksRow, standIns := [], harness := (true, "1445edcad87f20978cc22a059428891f12942f182df910526fd6764c85fc1142"), looks := false }, kinds := [], alts := [], laidByText := true, laidKinds := [.data, .pinned], laidTests := true, laidLooks := .later }
def TextBlanksCardSaid : Prop := Claim7.holds Tryd.pinned (.plain (OpenSpec.ofChange textBlanksSpec)) textBlanksCard

/-- THE TIED CARD OF 'pithlaw4.TextFault'. -/
def textFaultCard : Claim7 := { stood := { row := textFaultRow, standIns := [], harness := (true, "1445edcad87f20978cc22a059428891f12942f182df910526fd6764c85fc1142"), looks := false }, kinds := [], alts := [], laidByText := true, laidKinds := [.data, .pinned], laidTests := true, laidLooks := .later }
def TextFaultCardSaid : Prop := Claim7.holds Tryd.pinned (.plain (OpenSpec.ofChange textFaultSpec)) textFaultCard

/-- THE TIED CARD OF 'pithlaw4.TextBack'. -/
def textBackCard : Claim7 := { stood := { row := textBackRow, standIns := [], harness := (true, "1445edcad87f20978cc22a059428891f12942f182df910526fd6764c85fc1142"), looks := false }, kinds := [], alts := [], laidByText := true, laidKinds := [.data, .data, .data, .data, .pinned], laidTests := true, laidLooks := .later }
def TextBackCardSaid : Prop := Claim7.holds Tryd.pinned (.plain (OpenSpec.ofChange textBackSpec)) textBackCard

/-- THE TIED CARD OF 'pithlaw4.TextGreat'. -/
def textGreatCard : Claim7 := { stood := { row := textGreatRow, standIns := [], harness := (true, "1445edcad87f20978cc22a059428891f12942f182df910526fd6764c85fc1142"), looks := false }, kinds := [], alts := [], laidByText := true, laidKinds := [.data, .data, .data, .data, .pinned], laidTests := true, laidLooks := .later }
def TextGreatCardSaid : Prop := Claim7.holds Tryd.pinned (.plain (OpenSpec.ofChange textGreatSpec)) textGreatCard

/-- THE TIED CARD OF 'pithlaw4.TextPrints'. -/
def textPrintsCard : Claim7 := { stood := { row := textPrintsRow, standIns := [], harness := (true, "1445edcad87f20978cc22a059428891f12942f182df910526fd6764c85fc1142"), looks := false }, kinds := [], alts := [], laidByText := true, laidKinds := [.data, .data, .data, .data, .pinned], laidTests := true, laidLooks := .later }
def TextPrintsCardSaid : Prop := Claim7.holds Tryd.pinned (.plain (OpenSpec.ofChange textPrintsSpec)) textPrintsCard

/-- THE SECOND FORM's CARD OF 'pithlaw4.TextPrintsChanges'. -/
def textPrintsChangesUptoCard : Claim7 := { stood := { row := textPrintsChangesUptoRow, standIns := [], harness := (true, "1445edcad87f20978cc22a059428891f12942f182df910526fd6764c85fc1142"), looks := false }, kinds := [], alts := [], laidByText := true, laidKinds := [.data, .data, .data, .data, .pinned], laidTests := true, laidLooks := .later }
def TextPrintsChangesUptoCardSaid : Prop := Claim7.holds Tryd.pinned (.plain (OpenSpec.upto textPrintsChangesSpec)) textPrintsChangesUptoCard

/-- THE SECOND FORM's CARD OF 'pithlaw4.TextFeeds'. -/
def textFeedsUptoCard : Claim7 := { stood := { row := textFeedsUptoRow, standIns := [], harness := (true, "1445edcad87f20978cc22a059428891f12942f182df910526fd6764c85fc1142"), looks := false }, kinds := [], alts := [], laidByText := true, laidKinds := [.data, .pinned], laidTests := true, laidLooks := .later }
def TextFeedsUptoCardSaid : Prop := Claim7.holds Tryd.pinned (.plain (OpenSpec.upto textFeedsSpec)) textFeedsUptoCard

/-- THE SECOND FORM's CARD OF 'pithlaw4.TextParses'. -/
def textParsesUptoCard : Claim7 := { stood := { row := textParsesUptoRow, standIns := [], harness := (true, "1445edcad87f20978cc22a059428891f12942f182df910526fd6764c85fc1142"), looks := false }, kinds := [], alts := [], laidByText := true, laidKinds := [.data, .pinned], laidTests := true, laidLooks := .later }
def TextParsesUptoCardSaid : Prop := Claim7.holds Tryd.pinned (.plain (OpenSpec.upto textParsesSpec)) textParsesUptoCard

/-- THE SECOND FORM's CARD OF 'pithlaw4.TextChanges'. -/
def textChangesUptoCard : Claim7 := { stood := { row := textChangesUptoRow, standIns := [], harness := (true, "1445edcad87f20978cc22a059428891f12942f182df910526fd6764c85fc1142"), looks := false }, kinds := [], alts := [], laidByText := true, laidKinds := [.data, .pinned], laidTests := true, laidLooks := .later }
def TextChangesUptoCardSaid : Prop := Claim7.holds Tryd.pinned (.plain (OpenSpec.upto textChangesSpec)) textChangesUptoCard

/-- THE SECOND FORM's CARD OF 'pithlaw4.TextCuts'. -/
def textCutsUptoCard : Claim7 := { stood := { row := textCutsUptoRow, standIns := [], harness := (true, "1445edcad87f20978cc22a059428891f12942f182df910526fd6764c85fc1142"), looks := false }, kinds := [], alts := [], laidByText := true, laidKinds := [.data, .pinned], laidTests := true, laidLooks := .later }
def TextCutsUptoCardSaid : Prop := Claim7.holds Tryd.pinned (.plain (OpenSpec.upto textCutsSpec)) textCutsUptoCard

/-- THE SECOND FORM's CARD OF 'pithlaw4.TextBlanks'. -/
def textBlanksUptoCard : Claim7 := { stood := { row := textBlanksUptoRow, standIns := [], harness := (true, "1445edcad87f20978cc22a059428891f12942f182df910526fd6764c85fc1142"), looks := false }, kinds := [], alts := [], laidByText := true, laidKinds := [.data, .pinned], laidTests := true, laidLooks := .later }
def TextBlanksUptoCardSaid : Prop := Claim7.holds Tryd.pinned (.plain (OpenSpec.upto textBlanksSpec)) textBlanksUptoCard

/-- THE SECOND FORM's CARD OF 'pithlaw4.TextFault'. -/
def textFaultUptoCard : Claim7 := { stood := { row := textFaultUptoRow, standIns := [], harness := (true, "1445edcad87f20978cc22a059428891f12942f182df910526fd6764c85fc1142"), looks := false }, kinds := [], alts := [], laidByText := true, laidKinds := [.data, .pinned], laidTests := true, laidLooks := .later }
def TextFaultUptoCardSaid : Prop := Claim7.holds Tryd.pinned (.plain (OpenSpec.upto textFaultSpec)) textFaultUptoCard

/-- THE SECOND FORM's CARD OF 'pithlaw4.TextBack'. -/
def textBackUptoCard : Claim7 := { stood := { row := textBackUptoRow, standIns := [], harness := (true, "1445edcad87f20978cc22a059428891f12942f182df910526fd6764c85fc1142"), looks := false }, kinds := [], alts := [], laidByText := true, laidKinds := [.data, .data, .data, .data, .pinned], laidTests := true, laidLooks := .later }
def TextBackUptoCardSaid : Prop := Claim7.holds Tryd.pinned (.plain (OpenSpec.upto textBackSpec)) textBackUptoCard

/-- THE SECOND FORM's CARD OF 'pithlaw4.TextGreat'. -/
def textGreatUptoCard : Claim7 := { stood := { row := textGreatUptoRow, standIns := [], harness := (true, "1445edcad87f20978cc22a059428891f12942f182df910526fd6764c85fc1142"), looks := false }, kinds := [], alts := [], laidByText := true, laidKinds := [.data, .data, .data, .data, .pinned], laidTests := true, laidLooks := .later }
def TextGreatUptoCardSaid : Prop := Claim7.holds Tryd.pinned (.plain (OpenSpec.upto textGreatSpec)) textGreatUptoCard

/-- THE SECOND FORM's CARD OF 'pithlaw4.TextPrints'. -/
def textPrintsUptoCard : Claim7 := { stood := { row := textPrintsUptoRow, standIns := [], harness := (true, "1445edcad87f20978cc22a059428891f12942f182df910526fd6764c85fc1142"), looks := false }, kinds := [], alts := [], laidByText := true, laidKinds := [.data, .data, .data, .data, .pinned], laidTests := true, laidLooks := .later }
def TextPrintsUptoCardSaid : Prop := Claim7.holds Tryd.pinned (.plain (OpenSpec.upto textPrintsSpec)) textPrintsUptoCard
end Rows
end Go.Proofs.YtgoobadkbndfgaaDoor
