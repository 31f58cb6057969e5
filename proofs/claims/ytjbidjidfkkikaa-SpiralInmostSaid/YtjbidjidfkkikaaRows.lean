/-
  No cell of these rows narrows 'for every input' (looked for: loops, veiled, ifaces, maps, wideKeys, modest, calm, conditions, laid).
  DERIVED. THE GIVEN ROWS OF THIS SEAT. 10 by the template 'for every input the law returns true; each argument reads behind the call as it read before'; 0 by the template 'total and deterministic' (their statements: YtjbidjidfkkikaaTotals.lean).
  GIVEN WITH THE SEED: the statements are not yours to turn. If you find one false, say at which input.
  Laid BY PROGRAM, IN A SANDBOX (cutbox-rows.mjs): the forced cells as the released guide's own fill.sh prints them over the translation 7b7dcf86055fa11a… (all of the seat's roots in one cut). By AI agents, Wed Nov 11 2026. No macro, syntax, notation, axiom, sorry.
-/
import Derived.Test.YtjbidjidfkkikaaChecked
import GoSem.Claim
import GoSem.ClaimJoined
import GoSem.ClaimMapViews
import Derived.JoinedTies
import Derived.KernelRfl
namespace Go.Proofs.Ytjbidjidfkkikaa
/- THE CELL 'sum', in the pinned program and in every row, IS THE sha256 OF THE DUMP (.gsa) THAT YtjbidjidfkkikaaProg.lean LOADS. Nothing in Lean hashes anything: it is a label: what it is worth is what the hold of that sum in a sandbox is worth. -/
noncomputable def Try.pinned : Pinned := { name := "ytjbidjidfkkikaa", sum := "7b7dcf86055fa11ab1bfb8b6df6413a51ff5830eb496bde231b513b933782bcf", checked := Try.checked }
namespace Rows
def none {H : Type} : Left H := { results := [], args := [] }

/-- 'pithlaw24.SpiralSpots': WHATEVER THE INPUT: true; the input reads as it did. -/
def spiralSpotsSpec : ChangeSpec := { name := "spiralSpots", fn := fun _ => fun
  | [d] => { results := [.lit (.bool true)], args := [d] }
  | _ => none }
def spiralSpotsRow : OpenClaim := { program := "ytjbidjidfkkikaa", sum := "7b7dcf86055fa11ab1bfb8b6df6413a51ff5830eb496bde231b513b933782bcf", func := "pith/pithlaw24.SpiralSpots", spec := "spiralSpots", inPlace := ["math.sqrt", "math.archTrunc", "math.Float64bits", "math.Float64frombits"], unfollowed := true, recurses := true, apart := false }
def SpiralSpotsSaid : Prop := spiralSpotsRow.holds Try.pinned (OpenSpec.ofChange spiralSpotsSpec)

/-- ITS FALSE NEIGHBOUR: 'it returns false'. Refute it at one input. -/
def spiralSpotsWrong : ChangeSpec := { name := "spiralSpots", fn := fun _ => fun
  | [d] => { results := [.lit (.bool false)], args := [d] }
  | _ => none }
def SpiralSpotsWrongFalsely : Prop := spiralSpotsRow.holds Try.pinned (OpenSpec.ofChange spiralSpotsWrong)

/-- 'pithlaw24.SpiralIndex': WHATEVER THE INPUT: true; the input reads as it did. -/
def spiralIndexSpec : ChangeSpec := { name := "spiralIndex", fn := fun _ => fun
  | [d1, d2] => { results := [.lit (.bool true)], args := [d1, d2] }
  | _ => none }
def spiralIndexRow : OpenClaim := { program := "ytjbidjidfkkikaa", sum := "7b7dcf86055fa11ab1bfb8b6df6413a51ff5830eb496bde231b513b933782bcf", func := "pith/pithlaw24.SpiralIndex", spec := "spiralIndex", inPlace := ["math.sqrt", "math.archTrunc", "math.Float64bits", "math.Float64frombits"], unfollowed := true, recurses := true, apart := false }
def SpiralIndexSaid : Prop := spiralIndexRow.holds Try.pinned (OpenSpec.ofChange spiralIndexSpec)

/-- ITS FALSE NEIGHBOUR: 'it returns false'. Refute it at one input. -/
def spiralIndexWrong : ChangeSpec := { name := "spiralIndex", fn := fun _ => fun
  | [d1, d2] => { results := [.lit (.bool false)], args := [d1, d2] }
  | _ => none }
def SpiralIndexWrongFalsely : Prop := spiralIndexRow.holds Try.pinned (OpenSpec.ofChange spiralIndexWrong)

/-- 'pithlaw24.SpiralRings': WHATEVER THE INPUT: true; the input reads as it did. -/
def spiralRingsSpec : ChangeSpec := { name := "spiralRings", fn := fun _ => fun
  | [d1, d2] => { results := [.lit (.bool true)], args := [d1, d2] }
  | _ => none }
def spiralRingsRow : OpenClaim := { program := "ytjbidjidfkkikaa", sum := "7b7dcf86055fa11ab1bfb8b6df6413a51ff5830eb496bde231b513b933782bcf", func := "pith/pithlaw24.SpiralRings", spec := "spiralRings", inPlace := ["math.sqrt", "math.archTrunc", "math.Float64bits", "math.Float64frombits"], unfollowed := true, recurses := true, apart := false }
def SpiralRingsSaid : Prop := spiralRingsRow.holds Try.pinned (OpenSpec.ofChange spiralRingsSpec)

/-- ITS FALSE NEIGHBOUR: 'it returns false'. Refute it at one input. -/
def spiralRingsWrong : ChangeSpec := { name := "spiralRings", fn := fun _ => fun
  | [d1, d2] => { results := [.lit (.bool false)], args := [d1, d2] }
  | _ => none }
def SpiralRingsWrongFalsely : Prop := spiralRingsRow.holds Try.pinned (OpenSpec.ofChange spiralRingsWrong)

/-- 'pithlaw24.SpiralPlaces': WHATEVER THE INPUT: true; the input reads as it did. -/
def spiralPlacesSpec : ChangeSpec := { name := "spiralPlaces", fn := fun _ => fun
  | [d] => { results := [.lit (.bool true)], args := [d] }
  | _ => none }
def spiralPlacesRow : OpenClaim := { program := "ytjbidjidfkkikaa", sum := "7b7dcf86055fa11ab1bfb8b6df6413a51ff5830eb496bde231b513b933782bcf", func := "pith/pithlaw24.SpiralPlaces", spec := "spiralPlaces", inPlace := ["math.sqrt", "math.archTrunc", "math.Float64bits", "math.Float64frombits"], unfollowed := true, recurses := true, apart := false }
def SpiralPlacesSaid : Prop := spiralPlacesRow.holds Try.pinned (OpenSpec.ofChange spiralPlacesSpec)

/-- ITS FALSE NEIGHBOUR: 'it returns false'. Refute it at one input. -/
def spiralPlacesWrong : ChangeSpec := { name := "spiralPlaces", fn := fun _ => fun
  | [d] => { results := [.lit (.bool false)], args := [d] }
  | _ => none }
def SpiralPlacesWrongFalsely : Prop := spiralPlacesRow.holds Try.pinned (OpenSpec.ofChange spiralPlacesWrong)

/-- 'pithlaw24.SpiralWalk': WHATEVER THE INPUT: true; the input reads as it did. -/
def spiralWalkSpec : ChangeSpec := { name := "spiralWalk", fn := fun _ => fun
  | [d] => { results := [.lit (.bool true)], args := [d] }
  | _ => none }
def spiralWalkRow : OpenClaim := { program := "ytjbidjidfkkikaa", sum := "7b7dcf86055fa11ab1bfb8b6df6413a51ff5830eb496bde231b513b933782bcf", func := "pith/pithlaw24.SpiralWalk", spec := "spiralWalk", inPlace := ["math.sqrt", "math.archTrunc", "math.Float64bits", "math.Float64frombits"], unfollowed := true, recurses := true, apart := false }
def SpiralWalkSaid : Prop := spiralWalkRow.holds Try.pinned (OpenSpec.ofChange spiralWalkSpec)

/-- ITS FALSE NEIGHBOUR: 'it returns false'. Refute it at one input. -/
def spiralWalkWrong : ChangeSpec := { name := "spiralWalk", fn := fun _ => fun
  | [d] => { results := [.lit (.bool false)], args := [d] }
  | _ => none }
def SpiralWalkWrongFalsely : Prop := spiralWalkRow.holds Try.pinned (OpenSpec.ofChange spiralWalkWrong)

/-- 'pithlaw24.SpiralApart': WHATEVER THE INPUT: true; the input reads as it did. -/
def spiralApartSpec : ChangeSpec := { name := "spiralApart", fn := fun _ => fun
  | [d1, d2] => { results := [.lit (.bool true)], args := [d1, d2] }
  | _ => none }
def spiralApartRow : OpenClaim := { program := "ytjbidjidfkkikaa", sum := "7b7dcf86055fa11ab1bfb8b6df6413a51ff5830eb496bde231b513b933782bcf", func := "pith/pithlaw24.SpiralApart", spec := "spiralApart", inPlace := ["math.sqrt", "math.archTrunc", "math.Float64bits", "math.Float64frombits"], unfollowed := true, recurses := true, apart := false }
def SpiralApartSaid : Prop := spiralApartRow.holds Try.pinned (OpenSpec.ofChange spiralApartSpec)

/-- ITS FALSE NEIGHBOUR: 'it returns false'. Refute it at one input. -/
def spiralApartWrong : ChangeSpec := { name := "spiralApart", fn := fun _ => fun
  | [d1, d2] => { results := [.lit (.bool false)], args := [d1, d2] }
  | _ => none }
def SpiralApartWrongFalsely : Prop := spiralApartRow.holds Try.pinned (OpenSpec.ofChange spiralApartWrong)

/-- 'pithlaw24.SpiralInmost': WHATEVER THE INPUT: true; the input reads as it did. -/
def spiralInmostSpec : ChangeSpec := { name := "spiralInmost", fn := fun _ => fun
  | [d] => { results := [.lit (.bool true)], args := [d] }
  | _ => none }
def spiralInmostRow : OpenClaim := { program := "ytjbidjidfkkikaa", sum := "7b7dcf86055fa11ab1bfb8b6df6413a51ff5830eb496bde231b513b933782bcf", func := "pith/pithlaw24.SpiralInmost", spec := "spiralInmost", inPlace := ["math.sqrt", "math.archTrunc", "math.Float64bits", "math.Float64frombits"], unfollowed := true, recurses := true, apart := false }
def SpiralInmostSaid : Prop := spiralInmostRow.holds Try.pinned (OpenSpec.ofChange spiralInmostSpec)

/-- ITS FALSE NEIGHBOUR: 'it returns false'. Refute it at one input. -/
def spiralInmostWrong : ChangeSpec := { name := "spiralInmost", fn := fun _ => fun
  | [d] => { results := [.lit (.bool false)], args := [d] }
  | _ => none }
def SpiralInmostWrongFalsely : Prop := spiralInmostRow.holds Try.pinned (OpenSpec.ofChange spiralInmostWrong)

/-- 'pithlaw24.SpiralTurns': WHATEVER THE INPUT: true; the input reads as it did. -/
def spiralTurnsSpec : ChangeSpec := { name := "spiralTurns", fn := fun _ => fun
  | [d1, d2, d3] => { results := [.lit (.bool true)], args := [d1, d2, d3] }
  | _ => none }
def spiralTurnsRow : OpenClaim := { program := "ytjbidjidfkkikaa", sum := "7b7dcf86055fa11ab1bfb8b6df6413a51ff5830eb496bde231b513b933782bcf", func := "pith/pithlaw24.SpiralTurns", spec := "spiralTurns", inPlace := ["math.sqrt", "math.archTrunc", "math.Float64bits", "math.Float64frombits"], unfollowed := true, recurses := true, apart := false }
def SpiralTurnsSaid : Prop := spiralTurnsRow.holds Try.pinned (OpenSpec.ofChange spiralTurnsSpec)

/-- ITS FALSE NEIGHBOUR: 'it returns false'. Refute it at one input. -/
def spiralTurnsWrong : ChangeSpec := { name := "spiralTurns", fn := fun _ => fun
  | [d1, d2, d3] => { results := [.lit (.bool false)], args := [d1, d2, d3] }
  | _ => none }
def SpiralTurnsWrongFalsely : Prop := spiralTurnsRow.holds Try.pinned (OpenSpec.ofChange spiralTurnsWrong)

/-- 'pithlaw24.SpiralRound': WHATEVER THE INPUT: true; the input reads as it did. -/
def spiralRoundSpec : ChangeSpec := { name := "spiralRound", fn := fun _ => fun
  | [d1, d2, d3] => { results := [.lit (.bool true)], args := [d1, d2, d3] }
  | _ => none }
def spiralRoundRow : OpenClaim := { program := "ytjbidjidfkkikaa", sum := "7b7dcf86055fa11ab1bfb8b6df6413a51ff5830eb496bde231b513b933782bcf", func := "pith/pithlaw24.SpiralRound", spec := "spiralRound", inPlace := ["math.sqrt", "math.archTrunc", "math.Float64bits", "math.Float64frombits"], unfollowed := true, recurses := true, apart := false }
def SpiralRoundSaid : Prop := spiralRoundRow.holds Try.pinned (OpenSpec.ofChange spiralRoundSpec)

/-- ITS FALSE NEIGHBOUR: 'it returns false'. Refute it at one input. -/
def spiralRoundWrong : ChangeSpec := { name := "spiralRound", fn := fun _ => fun
  | [d1, d2, d3] => { results := [.lit (.bool false)], args := [d1, d2, d3] }
  | _ => none }
def SpiralRoundWrongFalsely : Prop := spiralRoundRow.holds Try.pinned (OpenSpec.ofChange spiralRoundWrong)

/-- 'pithlaw24.SpiralCentres': WHATEVER THE INPUT: true; the input reads as it did. -/
def spiralCentresSpec : ChangeSpec := { name := "spiralCentres", fn := fun _ => fun
  | [d1, d2, d3, d4] => { results := [.lit (.bool true)], args := [d1, d2, d3, d4] }
  | _ => none }
def spiralCentresRow : OpenClaim := { program := "ytjbidjidfkkikaa", sum := "7b7dcf86055fa11ab1bfb8b6df6413a51ff5830eb496bde231b513b933782bcf", func := "pith/pithlaw24.SpiralCentres", spec := "spiralCentres", inPlace := ["math.sqrt", "math.archTrunc", "math.Float64bits", "math.Float64frombits"], unfollowed := true, recurses := true, apart := false }
def SpiralCentresSaid : Prop := spiralCentresRow.holds Try.pinned (OpenSpec.ofChange spiralCentresSpec)

/-- ITS FALSE NEIGHBOUR: 'it returns false'. Refute it at one input. -/
def spiralCentresWrong : ChangeSpec := { name := "spiralCentres", fn := fun _ => fun
  | [d1, d2, d3, d4] => { results := [.lit (.bool false)], args := [d1, d2, d3, d4] }
  | _ => none }
def SpiralCentresWrongFalsely : Prop := spiralCentresRow.holds Try.pinned (OpenSpec.ofChange spiralCentresWrong)

/- THE SECOND FORM. 'bulk': how many values and letters a reading holds, each counted each time it is reached (what is shared counts as often as it is met; a slice's spare places count too). A statement '..UptoSaid' is the law's where the arguments, and the package variables that the reading takes, are together of bulk at most 1048576: NARROWER than '..Said'. Prove '..Said' where nothing that the law and all that it calls make is longer than what came in: it says more and counts as full. Else prove '..UptoSaid'. A law counts once. -/
mutual
def uptoBulk {H : Type} : DataW H → Nat
  | .lit (.string bytes) => bytes.length + 1
  | .lit _ => 1
  | .nil => 1
  | .ptr d => uptoBulk d + 1
  | .slice elems spare => uptoBulkAll elems + uptoBulkAll spare + 1
  | .agg parts => uptoBulkAll parts + 1
  | .iface _ d => uptoBulk d + 1
  | .map entries => uptoBulkEntries entries + 1
  | .held _ => 1
def uptoBulkAll {H : Type} : List (DataW H) → Nat
  | [] => 0
  | d :: r => uptoBulk d + uptoBulkAll r
def uptoBulkEntries {H : Type} : List (Lit × DataW H) → Nat
  | [] => 0
  | x :: r => uptoBulkEntry x + uptoBulkEntries r
def uptoBulkEntry {H : Type} : Lit × DataW H → Nat
  | (.string bytes, d) => bytes.length + uptoBulk d + 1
  | (_, d) => uptoBulk d + 1
 end
def uptoSmall : (H : Type) → List (DataW H) → Bool := fun _ ds => decide (uptoBulkAll ds ≤ 1048576)
def OpenSpec.upto (s : _root_.Go.ChangeSpec) : _root_.Go.OpenSpec := { _root_.Go.OpenSpec.ofChange s with cond := some uptoSmall }

/-- 'pithlaw24.SpiralSpots', WHERE WHAT IT READS IS OF BULK AT MOST 1048576: true; the input reads as it did. -/
def spiralSpotsUptoRow : OpenClaim := { program := "ytjbidjidfkkikaa", sum := "7b7dcf86055fa11ab1bfb8b6df6413a51ff5830eb496bde231b513b933782bcf", func := "pith/pithlaw24.SpiralSpots", spec := "spiralSpots", inPlace := ["math.sqrt", "math.archTrunc", "math.Float64bits", "math.Float64frombits"], unfollowed := true, recurses := true, apart := false, narrowed := true }
def SpiralSpotsUptoSaid : Prop := spiralSpotsUptoRow.holds Try.pinned (OpenSpec.upto spiralSpotsSpec)

/-- 'pithlaw24.SpiralIndex', WHERE WHAT IT READS IS OF BULK AT MOST 1048576: true; the input reads as it did. -/
def spiralIndexUptoRow : OpenClaim := { program := "ytjbidjidfkkikaa", sum := "7b7dcf86055fa11ab1bfb8b6df6413a51ff5830eb496bde231b513b933782bcf", func := "pith/pithlaw24.SpiralIndex", spec := "spiralIndex", inPlace := ["math.sqrt", "math.archTrunc", "math.Float64bits", "math.Float64frombits"], unfollowed := true, recurses := true, apart := false, narrowed := true }
def SpiralIndexUptoSaid : Prop := spiralIndexUptoRow.holds Try.pinned (OpenSpec.upto spiralIndexSpec)

/-- 'pithlaw24.SpiralRings', WHERE WHAT IT READS IS OF BULK AT MOST 1048576: true; the input reads as it did. -/
def spiralRingsUptoRow : OpenClaim := { program := "ytjbidjidfkkikaa", sum := "7b7dcf86055fa11ab1bfb8b6df6413a51ff5830eb496bde231b513b933782bcf", func := "pith/pithlaw24.SpiralRings", spec := "spiralRings", inPlace := ["math.sqrt", "math.archTrunc", "math.Float64bits", "math.Float64frombits"], unfollowed := true, recurses := true, apart := false, narrowed := true }
def SpiralRingsUptoSaid : Prop := spiralRingsUptoRow.holds Try.pinned (OpenSpec.upto spiralRingsSpec)

/-- 'pithlaw24.SpiralPlaces', WHERE WHAT IT READS IS OF BULK AT MOST 1048576: true; the input reads as it did. -/
def spiralPlacesUptoRow : OpenClaim := { program := "ytjbidjidfkkikaa", sum := "7b7dcf86055fa11ab1bfb8b6df6413a51ff5830eb496bde231b513b933782bcf", func := "pith/pithlaw24.SpiralPlaces", spec := "spiralPlaces", inPlace := ["math.sqrt", "math.archTrunc", "math.Float64bits", "math.Float64frombits"], unfollowed := true, recurses := true, apart := false, narrowed := true }
def SpiralPlacesUptoSaid : Prop := spiralPlacesUptoRow.holds Try.pinned (OpenSpec.upto spiralPlacesSpec)

/-- 'pithlaw24.SpiralWalk', WHERE WHAT IT READS IS OF BULK AT MOST 1048576: true; the input reads as it did. -/
def spiralWalkUptoRow : OpenClaim := { program := "ytjbidjidfkkikaa", sum := "7b7dcf86055fa11ab1bfb8b6df6413a51ff5830eb496bde231b513b933782bcf", func := "pith/pithlaw24.SpiralWalk", spec := "spiralWalk", inPlace := ["math.sqrt", "math.archTrunc", "math.Float64bits", "math.Float64frombits"], unfollowed := true, recurses := true, apart := false, narrowed := true }
def SpiralWalkUptoSaid : Prop := spiralWalkUptoRow.holds Try.pinned (OpenSpec.upto spiralWalkSpec)

/-- 'pithlaw24.SpiralApart', WHERE WHAT IT READS IS OF BULK AT MOST 1048576: true; the input reads as it did. -/
def spiralApartUptoRow : OpenClaim := { program := "ytjbidjidfkkikaa", sum := "7b7dcf86055fa11ab1bfb8b6df6413a51ff5830eb496bde231b513b933782bcf", func := "pith/pithlaw24.SpiralApart", spec := "spiralApart", inPlace := ["math.sqrt", "math.archTrunc", "math.Float64bits", "math.Float64frombits"], unfollowed := true, recurses := true, apart := false, narrowed := true }
def SpiralApartUptoSaid : Prop := spiralApartUptoRow.holds Try.pinned (OpenSpec.upto spiralApartSpec)

/-- 'pithlaw24.SpiralInmost', WHERE WHAT IT READS IS OF BULK AT MOST 1048576: true; the input reads as it did. -/
def spiralInmostUptoRow : OpenClaim := { program := "ytjbidjidfkkikaa", sum := "7b7dcf86055fa11ab1bfb8b6df6413a51ff5830eb496bde231b513b933782bcf", func := "pith/pithlaw24.SpiralInmost", spec := "spiralInmost", inPlace := ["math.sqrt", "math.archTrunc", "math.Float64bits", "math.Float64frombits"], unfollowed := true, recurses := true, apart := false, narrowed := true }
def SpiralInmostUptoSaid : Prop := spiralInmostUptoRow.holds Try.pinned (OpenSpec.upto spiralInmostSpec)

/-- 'pithlaw24.SpiralTurns', WHERE WHAT IT READS IS OF BULK AT MOST 1048576: true; the input reads as it did. -/
def spiralTurnsUptoRow : OpenClaim := { program := "ytjbidjidfkkikaa", sum := "7b7dcf86055fa11ab1bfb8b6df6413a51ff5830eb496bde231b513b933782bcf", func := "pith/pithlaw24.SpiralTurns", spec := "spiralTurns", inPlace := ["math.sqrt", "math.archTrunc", "math.Float64bits", "math.Float64frombits"], unfollowed := true, recurses := true, apart := false, narrowed := true }
def SpiralTurnsUptoSaid : Prop := spiralTurnsUptoRow.holds Try.pinned (OpenSpec.upto spiralTurnsSpec)

/-- 'pithlaw24.SpiralRound', WHERE WHAT IT READS IS OF BULK AT MOST 1048576: true; the input reads as it did. -/
def spiralRoundUptoRow : OpenClaim := { program := "ytjbidjidfkkikaa", sum := "7b7dcf86055fa11ab1bfb8b6df6413a51ff5830eb496bde231b513b933782bcf", func := "pith/pithlaw24.SpiralRound", spec := "spiralRound", inPlace := ["math.sqrt", "math.archTrunc", "math.Float64bits", "math.Float64frombits"], unfollowed := true, recurses := true, apart := false, narrowed := true }
def SpiralRoundUptoSaid : Prop := spiralRoundUptoRow.holds Try.pinned (OpenSpec.upto spiralRoundSpec)

/-- 'pithlaw24.SpiralCentres', WHERE WHAT IT READS IS OF BULK AT MOST 1048576: true; the input reads as it did. -/
def spiralCentresUptoRow : OpenClaim := { program := "ytjbidjidfkkikaa", sum := "7b7dcf86055fa11ab1bfb8b6df6413a51ff5830eb496bde231b513b933782bcf", func := "pith/pithlaw24.SpiralCentres", spec := "spiralCentres", inPlace := ["math.sqrt", "math.archTrunc", "math.Float64bits", "math.Float64frombits"], unfollowed := true, recurses := true, apart := false, narrowed := true }
def SpiralCentresUptoSaid : Prop := spiralCentresUptoRow.holds Try.pinned (OpenSpec.upto spiralCentresSpec)

end Rows
end Go.Proofs.Ytjbidjidfkkikaa
