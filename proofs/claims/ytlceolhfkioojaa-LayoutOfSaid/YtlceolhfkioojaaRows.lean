/-
  No cell of these rows narrows 'for every input' (looked for: loops, veiled, ifaces, maps, wideKeys, modest, calm, conditions, laid).
  DERIVED. THE GIVEN ROWS OF THIS SEAT. 7 by the template 'for every input the law returns true; each argument reads behind the call as it read before'; 0 by the template 'total and deterministic' (their statements: YtlceolhfkioojaaTotals.lean).
  GIVEN WITH THE SEED: the statements are not yours to turn. If you find one false, say at which input.
  Laid BY PROGRAM, IN A SANDBOX (cutbox-rows.mjs): the forced cells as the released guide's own fill.sh prints them over the translation ec20c124cbbc2c29… (all of the seat's roots in one cut). By AI agents, Wed Nov 11 2026. No macro, syntax, notation, axiom, sorry.
-/
import Derived.Test.YtlceolhfkioojaaChecked
import GoSem.Claim
import GoSem.ClaimJoined
import GoSem.ClaimMapViews
import Derived.JoinedTies
import Derived.KernelRfl
namespace Go.Proofs.Ytlceolhfkioojaa
/- THE CELL 'sum', in the pinned program and in every row, IS THE sha256 OF THE DUMP (.gsa) THAT YtlceolhfkioojaaProg.lean LOADS. Nothing in Lean hashes anything: it is a label: what it is worth is what the hold of that sum in a sandbox is worth. -/
noncomputable def Try.pinned : Pinned := { name := "ytlceolhfkioojaa", sum := "ec20c124cbbc2c298efc74de640f3edd0628fe72f7ffa4247cf99076ab54e6d1", checked := Try.checked }
namespace Rows
def none {H : Type} : Left H := { results := [], args := [] }

/-- 'pithlaw10.LayoutNews': WHATEVER THE INPUT: true; the input reads as it did. -/
def layoutNewsSpec : ChangeSpec := { name := "layoutNews", fn := fun _ => fun
  | [d1, d2, d3] => { results := [.lit (.bool true)], args := [d1, d2, d3] }
  | _ => none }
def layoutNewsRow : OpenClaim := { program := "ytlceolhfkioojaa", sum := "ec20c124cbbc2c298efc74de640f3edd0628fe72f7ffa4247cf99076ab54e6d1", func := "pith/pithlaw10.LayoutNews", spec := "layoutNews", unfollowed := true, recurses := true, apart := false }
def LayoutNewsSaid : Prop := layoutNewsRow.holds Try.pinned (OpenSpec.ofChange layoutNewsSpec)

/-- ITS FALSE NEIGHBOUR: 'it returns false'. Refute it at one input. -/
def layoutNewsWrong : ChangeSpec := { name := "layoutNews", fn := fun _ => fun
  | [d1, d2, d3] => { results := [.lit (.bool false)], args := [d1, d2, d3] }
  | _ => none }
def LayoutNewsWrongFalsely : Prop := layoutNewsRow.holds Try.pinned (OpenSpec.ofChange layoutNewsWrong)

/-- 'pithlaw10.LayoutBalances': WHATEVER THE INPUT: true; the input reads as it did. -/
def layoutBalancesSpec : ChangeSpec := { name := "layoutBalances", fn := fun _ => fun
  | [d1, d2, d3, d4] => { results := [.lit (.bool true)], args := [d1, d2, d3, d4] }
  | _ => none }
def layoutBalancesRow : OpenClaim := { program := "ytlceolhfkioojaa", sum := "ec20c124cbbc2c298efc74de640f3edd0628fe72f7ffa4247cf99076ab54e6d1", func := "pith/pithlaw10.LayoutBalances", spec := "layoutBalances", unfollowed := true, recurses := true, apart := false }
def LayoutBalancesSaid : Prop := layoutBalancesRow.holds Try.pinned (OpenSpec.ofChange layoutBalancesSpec)

/-- ITS FALSE NEIGHBOUR: 'it returns false'. Refute it at one input. -/
def layoutBalancesWrong : ChangeSpec := { name := "layoutBalances", fn := fun _ => fun
  | [d1, d2, d3, d4] => { results := [.lit (.bool false)], args := [d1, d2, d3, d4] }
  | _ => none }
def LayoutBalancesWrongFalsely : Prop := layoutBalancesRow.holds Try.pinned (OpenSpec.ofChange layoutBalancesWrong)

/-- 'pithlaw10.LayoutBalanced': WHATEVER THE INPUT: true; the input reads as it did. -/
def layoutBalancedSpec : ChangeSpec := { name := "layoutBalanced", fn := fun _ => fun
  | [d1, d2] => { results := [.lit (.bool true)], args := [d1, d2] }
  | _ => none }
def layoutBalancedRow : OpenClaim := { program := "ytlceolhfkioojaa", sum := "ec20c124cbbc2c298efc74de640f3edd0628fe72f7ffa4247cf99076ab54e6d1", func := "pith/pithlaw10.LayoutBalanced", spec := "layoutBalanced", unfollowed := true, recurses := true, apart := false }
def LayoutBalancedSaid : Prop := layoutBalancedRow.holds Try.pinned (OpenSpec.ofChange layoutBalancedSpec)

/-- ITS FALSE NEIGHBOUR: 'it returns false'. Refute it at one input. -/
def layoutBalancedWrong : ChangeSpec := { name := "layoutBalanced", fn := fun _ => fun
  | [d1, d2] => { results := [.lit (.bool false)], args := [d1, d2] }
  | _ => none }
def LayoutBalancedWrongFalsely : Prop := layoutBalancedRow.holds Try.pinned (OpenSpec.ofChange layoutBalancedWrong)

/-- 'pithlaw10.LayoutOf': WHATEVER THE INPUT: true; the input reads as it did. -/
def layoutOfSpec : ChangeSpec := { name := "layoutOf", fn := fun _ => fun
  | [d1, d2, d3, d4] => { results := [.lit (.bool true)], args := [d1, d2, d3, d4] }
  | _ => none }
def layoutOfRow : OpenClaim := { program := "ytlceolhfkioojaa", sum := "ec20c124cbbc2c298efc74de640f3edd0628fe72f7ffa4247cf99076ab54e6d1", func := "pith/pithlaw10.LayoutOf", spec := "layoutOf", unfollowed := true, recurses := true, apart := false }
def LayoutOfSaid : Prop := layoutOfRow.holds Try.pinned (OpenSpec.ofChange layoutOfSpec)

/-- ITS FALSE NEIGHBOUR: 'it returns false'. Refute it at one input. -/
def layoutOfWrong : ChangeSpec := { name := "layoutOf", fn := fun _ => fun
  | [d1, d2, d3, d4] => { results := [.lit (.bool false)], args := [d1, d2, d3, d4] }
  | _ => none }
def LayoutOfWrongFalsely : Prop := layoutOfRow.holds Try.pinned (OpenSpec.ofChange layoutOfWrong)

/-- 'pithlaw10.LayoutEvens': WHATEVER THE INPUT: true; the input reads as it did. -/
def layoutEvensSpec : ChangeSpec := { name := "layoutEvens", fn := fun _ => fun
  | [d1, d2, d3] => { results := [.lit (.bool true)], args := [d1, d2, d3] }
  | _ => none }
def layoutEvensRow : OpenClaim := { program := "ytlceolhfkioojaa", sum := "ec20c124cbbc2c298efc74de640f3edd0628fe72f7ffa4247cf99076ab54e6d1", func := "pith/pithlaw10.LayoutEvens", spec := "layoutEvens", unfollowed := true, recurses := true, apart := false }
def LayoutEvensSaid : Prop := layoutEvensRow.holds Try.pinned (OpenSpec.ofChange layoutEvensSpec)

/-- ITS FALSE NEIGHBOUR: 'it returns false'. Refute it at one input. -/
def layoutEvensWrong : ChangeSpec := { name := "layoutEvens", fn := fun _ => fun
  | [d1, d2, d3] => { results := [.lit (.bool false)], args := [d1, d2, d3] }
  | _ => none }
def LayoutEvensWrongFalsely : Prop := layoutEvensRow.holds Try.pinned (OpenSpec.ofChange layoutEvensWrong)

/-- 'pithlaw10.LayoutSound': WHATEVER THE INPUT: true; the input reads as it did. -/
def layoutSoundSpec : ChangeSpec := { name := "layoutSound", fn := fun _ => fun
  | [d1, d2, d3, d4, d5] => { results := [.lit (.bool true)], args := [d1, d2, d3, d4, d5] }
  | _ => none }
def layoutSoundRow : OpenClaim := { program := "ytlceolhfkioojaa", sum := "ec20c124cbbc2c298efc74de640f3edd0628fe72f7ffa4247cf99076ab54e6d1", func := "pith/pithlaw10.LayoutSound", spec := "layoutSound", unfollowed := true, recurses := true, apart := false }
def LayoutSoundSaid : Prop := layoutSoundRow.holds Try.pinned (OpenSpec.ofChange layoutSoundSpec)

/-- ITS FALSE NEIGHBOUR: 'it returns false'. Refute it at one input. -/
def layoutSoundWrong : ChangeSpec := { name := "layoutSound", fn := fun _ => fun
  | [d1, d2, d3, d4, d5] => { results := [.lit (.bool false)], args := [d1, d2, d3, d4, d5] }
  | _ => none }
def LayoutSoundWrongFalsely : Prop := layoutSoundRow.holds Try.pinned (OpenSpec.ofChange layoutSoundWrong)

/-- 'pithlaw10.LayoutEven': WHATEVER THE INPUT: true; the input reads as it did. -/
def layoutEvenSpec : ChangeSpec := { name := "layoutEven", fn := fun _ => fun
  | [d1, d2] => { results := [.lit (.bool true)], args := [d1, d2] }
  | _ => none }
def layoutEvenRow : OpenClaim := { program := "ytlceolhfkioojaa", sum := "ec20c124cbbc2c298efc74de640f3edd0628fe72f7ffa4247cf99076ab54e6d1", func := "pith/pithlaw10.LayoutEven", spec := "layoutEven", unfollowed := true, recurses := true, apart := false }
def LayoutEvenSaid : Prop := layoutEvenRow.holds Try.pinned (OpenSpec.ofChange layoutEvenSpec)

/-- ITS FALSE NEIGHBOUR: 'it returns false'. Refute it at one input. -/
def layoutEvenWrong : ChangeSpec := { name := "layoutEven", fn := fun _ => fun
  | [d1, d2] => { results := [.lit (.bool false)], args := [d1, d2] }
  | _ => none }
def LayoutEvenWrongFalsely : Prop := layoutEvenRow.holds Try.pinned (OpenSpec.ofChange layoutEvenWrong)

/- THE SECOND FORM. 'bulk': how many values and letters a reading holds, each counted each time it is reached (what is shared counts as often as it is met; a slice's spare places count too). A statement '..UptoSaid' is the law's where the arguments, and the package variables that the reading takes, are together of bulk at most 1048576: NARROWER than '..Said'. Prove '..Said' where nothing that the law and all that it calls make is longer than what came in: it says more and counts as full. Else prove '..UptoSaid'. A law counts once. -/
mutual
def uptoBulk {H : Type} : DataW H → Nat
  | .lit (.string bytes) => bytes.length + 1
  | .lit _ => 1
  | .nil => 1
  | .ptr d => uptoBulk d + 1
  | .slice elems spare => uptoBulkAll elems + uptoBulkAll spare + 1
  | .agg parts => uptoBulkAll parts + 1
  | .iface _ d => uptoBulk d + 1
  | .map entries => uptoBulkEntries entries + 1
  | .held _ => 1
def uptoBulkAll {H : Type} : List (DataW H) → Nat
  | [] => 0
  | d :: r => uptoBulk d + uptoBulkAll r
def uptoBulkEntries {H : Type} : List (Lit × DataW H) → Nat
  | [] => 0
  | x :: r => uptoBulkEntry x + uptoBulkEntries r
def uptoBulkEntry {H : Type} : Lit × DataW H → Nat
  | (.string bytes, d) => bytes.length + uptoBulk d + 1
  | (_, d) => uptoBulk d + 1
 end
def uptoSmall : (H : Type) → List (DataW H) → Bool := fun _ ds => decide (uptoBulkAll ds ≤ 1048576)
def OpenSpec.upto (s : _root_.Go.ChangeSpec) : _root_.Go.OpenSpec := { _root_.Go.OpenSpec.ofChange s with cond := some uptoSmall }

/-- 'pithlaw10.LayoutNews', WHERE WHAT IT READS IS OF BULK AT MOST 1048576: true; the input reads as it did. -/
def layoutNewsUptoRow : OpenClaim := { program := "ytlceolhfkioojaa", sum := "ec20c124cbbc2c298efc74de640f3edd0628fe72f7ffa4247cf99076ab54e6d1", func := "pith/pithlaw10.LayoutNews", spec := "layoutNews", unfollowed := true, recurses := true, apart := false, narrowed := true }
def LayoutNewsUptoSaid : Prop := layoutNewsUptoRow.holds Try.pinned (OpenSpec.upto layoutNewsSpec)

/-- 'pithlaw10.LayoutBalances', WHERE WHAT IT READS IS OF BULK AT MOST 1048576: true; the input reads as it did. -/
def layoutBalancesUptoRow : OpenClaim := { program := "ytlceolhfkioojaa", sum := "ec20c124cbbc2c298efc74de640f3edd0628fe72f7ffa4247cf99076ab54e6d1", func := "pith/pithlaw10.LayoutBalances", spec := "layoutBalances", unfollowed := true, recurses := true, apart := false, narrowed := true }
def LayoutBalancesUptoSaid : Prop := layoutBalancesUptoRow.holds Try.pinned (OpenSpec.upto layoutBalancesSpec)

/-- 'pithlaw10.LayoutBalanced', WHERE WHAT IT READS IS OF BULK AT MOST 1048576: true; the input reads as it did. -/
def layoutBalancedUptoRow : OpenClaim := { program := "ytlceolhfkioojaa", sum := "ec20c124cbbc2c298efc74de640f3edd0628fe72f7ffa4247cf99076ab54e6d1", func := "pith/pithlaw10.LayoutBalanced", spec := "layoutBalanced", unfollowed := true, recurses := true, apart := false, narrowed := true }
def LayoutBalancedUptoSaid : Prop := layoutBalancedUptoRow.holds Try.pinned (OpenSpec.upto layoutBalancedSpec)

/-- 'pithlaw10.LayoutOf', WHERE WHAT IT READS IS OF BULK AT MOST 1048576: true; the input reads as it did. -/
def layoutOfUptoRow : OpenClaim := { program := "ytlceolhfkioojaa", sum := "ec20c124cbbc2c298efc74de640f3edd0628fe72f7ffa4247cf99076ab54e6d1", func := "pith/pithlaw10.LayoutOf", spec := "layoutOf", unfollowed := true, recurses := true, apart := false, narrowed := true }
def LayoutOfUptoSaid : Prop := layoutOfUptoRow.holds Try.pinned (OpenSpec.upto layoutOfSpec)

/-- 'pithlaw10.LayoutEvens', WHERE WHAT IT READS IS OF BULK AT MOST 1048576: true; the input reads as it did. -/
def layoutEvensUptoRow : OpenClaim := { program := "ytlceolhfkioojaa", sum := "ec20c124cbbc2c298efc74de640f3edd0628fe72f7ffa4247cf99076ab54e6d1", func := "pith/pithlaw10.LayoutEvens", spec := "layoutEvens", unfollowed := true, recurses := true, apart := false, narrowed := true }
def LayoutEvensUptoSaid : Prop := layoutEvensUptoRow.holds Try.pinned (OpenSpec.upto layoutEvensSpec)

/-- 'pithlaw10.LayoutSound', WHERE WHAT IT READS IS OF BULK AT MOST 1048576: true; the input reads as it did. -/
def layoutSoundUptoRow : OpenClaim := { program := "ytlceolhfkioojaa", sum := "ec20c124cbbc2c298efc74de640f3edd0628fe72f7ffa4247cf99076ab54e6d1", func := "pith/pithlaw10.LayoutSound", spec := "layoutSound", unfollowed := true, recurses := true, apart := false, narrowed := true }
def LayoutSoundUptoSaid : Prop := layoutSoundUptoRow.holds Try.pinned (OpenSpec.upto layoutSoundSpec)

/-- 'pithlaw10.LayoutEven', WHERE WHAT IT READS IS OF BULK AT MOST 1048576: true; the input reads as it did. -/
def layoutEvenUptoRow : OpenClaim := { program := "ytlceolhfkioojaa", sum := "ec20c124cbbc2c298efc74de640f3edd0628fe72f7ffa4247cf99076ab54e6d1", func := "pith/pithlaw10.LayoutEven", spec := "layoutEven", unfollowed := true, recurses := true, apart := false, narrowed := true }
def LayoutEvenUptoSaid : Prop := layoutEvenUptoRow.holds Try.pinned (OpenSpec.upto layoutEvenSpec)

end Rows
end Go.Proofs.Ytlceolhfkioojaa
