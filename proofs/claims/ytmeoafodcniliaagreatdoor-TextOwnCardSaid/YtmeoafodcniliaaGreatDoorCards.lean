/-
  DERIVED. GIVEN WITH THE SEED: THE CARDS: each row of YtmeoafodcniliaaGreatDoorRows.lean that lists a variable, with what it lists TIED to the program's text (the seventh form; the later family's looks); each row that meets fmt, with fmt's text TOLD by the authors' own Lean function (tested against real Go, not proved from fmt's source: count such statements apart). THE CARD IS WHAT COUNTS. Prove the row's statement (the work); the ties are given (YtmeoafodcniliaaGreatDoorTie.lean); close each card by the builder's one call (the guide's Derived/Test/ToyasCard.lean, 'card_holds'). Laid BY PROGRAM, IN A SANDBOX (cutbox-door.mjs). By AI agents, Wed Nov 11 2026. No macro, syntax, notation, axiom, sorry.
-/
import Derived.Test.YtmeoafodcniliaaGreatDoorRows
import GoSem.ClaimSeven
namespace Go.Proofs.YtmeoafodcniliaaGreatDoor
namespace Rows

/-- THE TIED CARD OF 'pithlaw4.TextOwn'. -/
def textOwnCard : Claim7 := { stood := { row := textOwnRow, standIns := [], harness := (true, "86f870f9f95db72e3b01569cb42b161c9e41c160cdc862d633020698c2761a67"), looks := false }, kinds := [], alts := [], laidByText := true, laidKinds := [.data, .data, .data, .data, .pinned], laidTests := true, laidLooks := .later }
def TextOwnCardSaid : Prop := Claim7.holds Tryz.pinned (.plain (OpenSpec.ofChange textOwnSpec)) textOwnCard

/-- THE TIED CARD OF 'pithlaw3.FrameOwn'. -/
def frameOwnCard : Claim7 := { stood := { row := frameOwnRow, standIns := [], harness := (true, "86f870f9f95db72e3b01569cb42b161c9e41c160cdc862d633020698c2761a67"), looks := false }, kinds := [], alts := [], laidByText := true, laidKinds := [.data, .data, .data, .data], laidTests := true, laidLooks := .later }
def FrameOwnCardSaid : Prop := Claim7.holds Tryz.pinned (.plain (OpenSpec.ofChange frameOwnSpec)) frameOwnCard

/-- THE TIED CARD OF 'pithlaw1.VarintOwn'. -/
def varintOwnCard : Claim7 := { stood := { row := varintOwnRow, standIns := [], harness := (true, "86f870f9f95db72e3b01569cb42b161c9e41c160cdc862d633020698c2761a67"), looks := false }, kinds := [], alts := [], laidByText := true, laidKinds := [.data, .data, .data], laidTests := true, laidLooks := .later }
def VarintOwnCardSaid : Prop := Claim7.holds Tryz.pinned (.plain (OpenSpec.ofChange varintOwnSpec)) varintOwnCard

/-- THE TIED CARD OF 'pithlaw10.LayoutOwn'. -/
def layoutOwnCard : Claim7 := { stood := { row := layoutOwnRow, standIns := [], harness := (true, "86f870f9f95db72e3b01569cb42b161c9e41c160cdc862d633020698c2761a67"), looks := false }, kinds := [], alts := [], laidByText := true, laidKinds := [.data, .data, .data], laidTests := true, laidLooks := .later }
def LayoutOwnCardSaid : Prop := Claim7.holds Tryz.pinned (.plain (OpenSpec.ofChange layoutOwnSpec)) layoutOwnCard

/-- THE TIED CARD OF 'pithlaw24.SpiralOwn'. -/
def spiralOwnCard : Claim7 := { stood := { row := spiralOwnRow, standIns := [], harness := (true, "86f870f9f95db72e3b01569cb42b161c9e41c160cdc862d633020698c2761a67"), looks := false }, kinds := [], alts := [], laidByText := true, laidKinds := [.data, .data, .data], laidTests := true, laidLooks := .later }
def SpiralOwnCardSaid : Prop := Claim7.holds Tryz.pinned (.plain (OpenSpec.ofChange spiralOwnSpec)) spiralOwnCard

/-- THE SECOND FORM's CARD OF 'pithlaw4.TextOwn'. -/
def textOwnUptoCard : Claim7 := { stood := { row := textOwnUptoRow, standIns := [], harness := (true, "86f870f9f95db72e3b01569cb42b161c9e41c160cdc862d633020698c2761a67"), looks := false }, kinds := [], alts := [], laidByText := true, laidKinds := [.data, .data, .data, .data, .pinned], laidTests := true, laidLooks := .later }
def TextOwnUptoCardSaid : Prop := Claim7.holds Tryz.pinned (.plain (OpenSpec.upto textOwnSpec)) textOwnUptoCard

/-- THE SECOND FORM's CARD OF 'pithlaw3.FrameOwn'. -/
def frameOwnUptoCard : Claim7 := { stood := { row := frameOwnUptoRow, standIns := [], harness := (true, "86f870f9f95db72e3b01569cb42b161c9e41c160cdc862d633020698c2761a67"), looks := false }, kinds := [], alts := [], laidByText := true, laidKinds := [.data, .data, .data, .data], laidTests := true, laidLooks := .later }
def FrameOwnUptoCardSaid : Prop := Claim7.holds Tryz.pinned (.plain (OpenSpec.upto frameOwnSpec)) frameOwnUptoCard

/-- THE SECOND FORM's CARD OF 'pithlaw1.VarintOwn'. -/
def varintOwnUptoCard : Claim7 := { stood := { row := varintOwnUptoRow, standIns := [], harness := (true, "86f870f9f95db72e3b01569cb42b161c9e41c160cdc862d633020698c2761a67"), looks := false }, kinds := [], alts := [], laidByText := true, laidKinds := [.data, .data, .data], laidTests := true, laidLooks := .later }
def VarintOwnUptoCardSaid : Prop := Claim7.holds Tryz.pinned (.plain (OpenSpec.upto varintOwnSpec)) varintOwnUptoCard

/-- THE SECOND FORM's CARD OF 'pithlaw10.LayoutOwn'. -/
def layoutOwnUptoCard : Claim7 := { stood := { row := layoutOwnUptoRow, standIns := [], harness := (true, "86f870f9f95db72e3b01569cb42b161c9e41c160cdc862d633020698c2761a67"), looks := false }, kinds := [], alts := [], laidByText := true, laidKinds := [.data, .data, .data], laidTests := true, laidLooks := .later }
def LayoutOwnUptoCardSaid : Prop := Claim7.holds Tryz.pinned (.plain (OpenSpec.upto layoutOwnSpec)) layoutOwnUptoCard

/-- THE SECOND FORM's CARD OF 'pithlaw24.SpiralOwn'. -/
def spiralOwnUptoCard : Claim7 := { stood := { row := spiralOwnUptoRow, standIns := [], harness := (true, "86f870f9f95db72e3b01569cb42b161c9e41c160cdc862d633020698c2761a67"), looks := false }, kinds := [], alts := [], laidByText := true, laidKinds := [.data, .data, .data], laidTests := true, laidLooks := .later }
def SpiralOwnUptoCardSaid : Prop := Claim7.holds Tryz.pinned (.plain (OpenSpec.upto spiralOwnSpec)) spiralOwnUptoCard
end Rows
end Go.Proofs.YtmeoafodcniliaaGreatDoor
