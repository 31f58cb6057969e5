/-
  No cell of these rows narrows 'for every input' (looked for: loops, veiled, ifaces, maps, wideKeys, modest, calm, conditions, laid).
  DERIVED. THE GIVEN ROWS OF THIS SEAT. 10 by the template 'for every input the law returns true; each argument reads behind the call as it read before'; 0 by the template 'total and deterministic' (their statements: YtkohakogknodeaaTotals.lean).
  GIVEN WITH THE SEED: the statements are not yours to turn. If you find one false, say at which input.
  Laid BY PROGRAM, IN A SANDBOX (cutbox-rows.mjs): the forced cells as the released guide's own fill.sh prints them over the translation 42e33fee09d81182… (all of the seat's roots in one cut). By AI agents, Wed Nov 11 2026. No macro, syntax, notation, axiom, sorry.
-/
import Derived.Test.YtkohakogknodeaaChecked
import GoSem.Claim
import GoSem.ClaimJoined
import GoSem.ClaimMapViews
import Derived.JoinedTies
import Derived.KernelRfl
namespace Go.Proofs.Ytkohakogknodeaa
/- THE CELL 'sum', in the pinned program and in every row, IS THE sha256 OF THE DUMP (.gsa) THAT YtkohakogknodeaaProg.lean LOADS. Nothing in Lean hashes anything: it is a label: what it is worth is what the hold of that sum in a sandbox is worth. -/
noncomputable def Try.pinned : Pinned := { name := "ytkohakogknodeaa", sum := "42e33fee09d81182ad9a583684a48c3543a337e89ed4dc489f8326b1dc67747d", checked := Try.checked }
namespace Rows
def none {H : Type} : Left H := { results := [], args := [] }

/-- 'pithlaw1.VarintPuts': WHATEVER THE INPUT: true; the input reads as it did. -/
def varintPutsSpec : ChangeSpec := { name := "varintPuts", fn := fun _ => fun
  | [d1, d2] => { results := [.lit (.bool true)], args := [d1, d2] }
  | _ => none }
def varintPutsRow : OpenClaim := { program := "ytkohakogknodeaa", sum := "42e33fee09d81182ad9a583684a48c3543a337e89ed4dc489f8326b1dc67747d", func := "pith/pithlaw1.VarintPuts", spec := "varintPuts", apart := false }
def VarintPutsSaid : Prop := varintPutsRow.holds Try.pinned (OpenSpec.ofChange varintPutsSpec)

/-- ITS FALSE NEIGHBOUR: 'it returns false'. Refute it at one input. -/
def varintPutsWrong : ChangeSpec := { name := "varintPuts", fn := fun _ => fun
  | [d1, d2] => { results := [.lit (.bool false)], args := [d1, d2] }
  | _ => none }
def VarintPutsWrongFalsely : Prop := varintPutsRow.holds Try.pinned (OpenSpec.ofChange varintPutsWrong)

/-- 'pithlaw1.VarintLists': WHATEVER THE INPUT: true; the input reads as it did. -/
def varintListsSpec : ChangeSpec := { name := "varintLists", fn := fun _ => fun
  | [d1, d2, d3, d4, d5] => { results := [.lit (.bool true)], args := [d1, d2, d3, d4, d5] }
  | _ => none }
def varintListsRow : OpenClaim := { program := "ytkohakogknodeaa", sum := "42e33fee09d81182ad9a583684a48c3543a337e89ed4dc489f8326b1dc67747d", func := "pith/pithlaw1.VarintLists", spec := "varintLists", apart := false }
def VarintListsSaid : Prop := varintListsRow.holds Try.pinned (OpenSpec.ofChange varintListsSpec)

/-- ITS FALSE NEIGHBOUR: 'it returns false'. Refute it at one input. -/
def varintListsWrong : ChangeSpec := { name := "varintLists", fn := fun _ => fun
  | [d1, d2, d3, d4, d5] => { results := [.lit (.bool false)], args := [d1, d2, d3, d4, d5] }
  | _ => none }
def VarintListsWrongFalsely : Prop := varintListsRow.holds Try.pinned (OpenSpec.ofChange varintListsWrong)

/-- 'pithlaw1.VarintReads': WHATEVER THE INPUT: true; the input reads as it did. -/
def varintReadsSpec : ChangeSpec := { name := "varintReads", fn := fun _ => fun
  | [d1, d2, d3] => { results := [.lit (.bool true)], args := [d1, d2, d3] }
  | _ => none }
def varintReadsRow : OpenClaim := { program := "ytkohakogknodeaa", sum := "42e33fee09d81182ad9a583684a48c3543a337e89ed4dc489f8326b1dc67747d", func := "pith/pithlaw1.VarintReads", spec := "varintReads", apart := false }
def VarintReadsSaid : Prop := varintReadsRow.holds Try.pinned (OpenSpec.ofChange varintReadsSpec)

/-- ITS FALSE NEIGHBOUR: 'it returns false'. Refute it at one input. -/
def varintReadsWrong : ChangeSpec := { name := "varintReads", fn := fun _ => fun
  | [d1, d2, d3] => { results := [.lit (.bool false)], args := [d1, d2, d3] }
  | _ => none }
def VarintReadsWrongFalsely : Prop := varintReadsRow.holds Try.pinned (OpenSpec.ofChange varintReadsWrong)

/-- 'pithlaw1.VarintForms': WHATEVER THE INPUT: true; the input reads as it did. -/
def varintFormsSpec : ChangeSpec := { name := "varintForms", fn := fun _ => fun
  | [d] => { results := [.lit (.bool true)], args := [d] }
  | _ => none }
def varintFormsRow : OpenClaim := { program := "ytkohakogknodeaa", sum := "42e33fee09d81182ad9a583684a48c3543a337e89ed4dc489f8326b1dc67747d", func := "pith/pithlaw1.VarintForms", spec := "varintForms", apart := false }
def VarintFormsSaid : Prop := varintFormsRow.holds Try.pinned (OpenSpec.ofChange varintFormsSpec)

/-- ITS FALSE NEIGHBOUR: 'it returns false'. Refute it at one input. -/
def varintFormsWrong : ChangeSpec := { name := "varintForms", fn := fun _ => fun
  | [d] => { results := [.lit (.bool false)], args := [d] }
  | _ => none }
def VarintFormsWrongFalsely : Prop := varintFormsRow.holds Try.pinned (OpenSpec.ofChange varintFormsWrong)

/-- 'pithlaw1.VarintOrder': WHATEVER THE INPUT: true; the input reads as it did. -/
def varintOrderSpec : ChangeSpec := { name := "varintOrder", fn := fun _ => fun
  | [d1, d2] => { results := [.lit (.bool true)], args := [d1, d2] }
  | _ => none }
def varintOrderRow : OpenClaim := { program := "ytkohakogknodeaa", sum := "42e33fee09d81182ad9a583684a48c3543a337e89ed4dc489f8326b1dc67747d", func := "pith/pithlaw1.VarintOrder", spec := "varintOrder", apart := false }
def VarintOrderSaid : Prop := varintOrderRow.holds Try.pinned (OpenSpec.ofChange varintOrderSpec)

/-- ITS FALSE NEIGHBOUR: 'it returns false'. Refute it at one input. -/
def varintOrderWrong : ChangeSpec := { name := "varintOrder", fn := fun _ => fun
  | [d1, d2] => { results := [.lit (.bool false)], args := [d1, d2] }
  | _ => none }
def VarintOrderWrongFalsely : Prop := varintOrderRow.holds Try.pinned (OpenSpec.ofChange varintOrderWrong)

/-- 'pithlaw1.VarintBack': WHATEVER THE INPUT: true; the input reads as it did. -/
def varintBackSpec : ChangeSpec := { name := "varintBack", fn := fun _ => fun
  | [d1, d2] => { results := [.lit (.bool true)], args := [d1, d2] }
  | _ => none }
def varintBackRow : OpenClaim := { program := "ytkohakogknodeaa", sum := "42e33fee09d81182ad9a583684a48c3543a337e89ed4dc489f8326b1dc67747d", func := "pith/pithlaw1.VarintBack", spec := "varintBack", apart := false }
def VarintBackSaid : Prop := varintBackRow.holds Try.pinned (OpenSpec.ofChange varintBackSpec)

/-- ITS FALSE NEIGHBOUR: 'it returns false'. Refute it at one input. -/
def varintBackWrong : ChangeSpec := { name := "varintBack", fn := fun _ => fun
  | [d1, d2] => { results := [.lit (.bool false)], args := [d1, d2] }
  | _ => none }
def VarintBackWrongFalsely : Prop := varintBackRow.holds Try.pinned (OpenSpec.ofChange varintBackWrong)

/-- 'pithlaw1.VarintOneForm': WHATEVER THE INPUT: true; the input reads as it did. -/
def varintOneFormSpec : ChangeSpec := { name := "varintOneForm", fn := fun _ => fun
  | [d1, d2, d3] => { results := [.lit (.bool true)], args := [d1, d2, d3] }
  | _ => none }
def varintOneFormRow : OpenClaim := { program := "ytkohakogknodeaa", sum := "42e33fee09d81182ad9a583684a48c3543a337e89ed4dc489f8326b1dc67747d", func := "pith/pithlaw1.VarintOneForm", spec := "varintOneForm", apart := false }
def VarintOneFormSaid : Prop := varintOneFormRow.holds Try.pinned (OpenSpec.ofChange varintOneFormSpec)

/-- ITS FALSE NEIGHBOUR: 'it returns false'. Refute it at one input. -/
def varintOneFormWrong : ChangeSpec := { name := "varintOneForm", fn := fun _ => fun
  | [d1, d2, d3] => { results := [.lit (.bool false)], args := [d1, d2, d3] }
  | _ => none }
def VarintOneFormWrongFalsely : Prop := varintOneFormRow.holds Try.pinned (OpenSpec.ofChange varintOneFormWrong)

/-- 'pithlaw1.VarintGaps': WHATEVER THE INPUT: true; the input reads as it did. -/
def varintGapsSpec : ChangeSpec := { name := "varintGaps", fn := fun _ => fun
  | [d1, d2] => { results := [.lit (.bool true)], args := [d1, d2] }
  | _ => none }
def varintGapsRow : OpenClaim := { program := "ytkohakogknodeaa", sum := "42e33fee09d81182ad9a583684a48c3543a337e89ed4dc489f8326b1dc67747d", func := "pith/pithlaw1.VarintGaps", spec := "varintGaps", apart := false }
def VarintGapsSaid : Prop := varintGapsRow.holds Try.pinned (OpenSpec.ofChange varintGapsSpec)

/-- ITS FALSE NEIGHBOUR: 'it returns false'. Refute it at one input. -/
def varintGapsWrong : ChangeSpec := { name := "varintGaps", fn := fun _ => fun
  | [d1, d2] => { results := [.lit (.bool false)], args := [d1, d2] }
  | _ => none }
def VarintGapsWrongFalsely : Prop := varintGapsRow.holds Try.pinned (OpenSpec.ofChange varintGapsWrong)

/-- 'pithlaw1.VarintBelow': WHATEVER THE INPUT: true; the input reads as it did. -/
def varintBelowSpec : ChangeSpec := { name := "varintBelow", fn := fun _ => fun
  | [d1, d2, d3] => { results := [.lit (.bool true)], args := [d1, d2, d3] }
  | _ => none }
def varintBelowRow : OpenClaim := { program := "ytkohakogknodeaa", sum := "42e33fee09d81182ad9a583684a48c3543a337e89ed4dc489f8326b1dc67747d", func := "pith/pithlaw1.VarintBelow", spec := "varintBelow", apart := false }
def VarintBelowSaid : Prop := varintBelowRow.holds Try.pinned (OpenSpec.ofChange varintBelowSpec)

/-- ITS FALSE NEIGHBOUR: 'it returns false'. Refute it at one input. -/
def varintBelowWrong : ChangeSpec := { name := "varintBelow", fn := fun _ => fun
  | [d1, d2, d3] => { results := [.lit (.bool false)], args := [d1, d2, d3] }
  | _ => none }
def VarintBelowWrongFalsely : Prop := varintBelowRow.holds Try.pinned (OpenSpec.ofChange varintBelowWrong)

/-- 'pithlaw1.VarintBroken': WHATEVER THE INPUT: true; the input reads as it did. -/
def varintBrokenSpec : ChangeSpec := { name := "varintBroken", fn := fun _ => fun
  | [d1, d2, d3] => { results := [.lit (.bool true)], args := [d1, d2, d3] }
  | _ => none }
def varintBrokenRow : OpenClaim := { program := "ytkohakogknodeaa", sum := "42e33fee09d81182ad9a583684a48c3543a337e89ed4dc489f8326b1dc67747d", func := "pith/pithlaw1.VarintBroken", spec := "varintBroken", apart := false }
def VarintBrokenSaid : Prop := varintBrokenRow.holds Try.pinned (OpenSpec.ofChange varintBrokenSpec)

/-- ITS FALSE NEIGHBOUR: 'it returns false'. Refute it at one input. -/
def varintBrokenWrong : ChangeSpec := { name := "varintBroken", fn := fun _ => fun
  | [d1, d2, d3] => { results := [.lit (.bool false)], args := [d1, d2, d3] }
  | _ => none }
def VarintBrokenWrongFalsely : Prop := varintBrokenRow.holds Try.pinned (OpenSpec.ofChange varintBrokenWrong)

/- THE SECOND FORM. 'bulk': how many values and letters a reading holds, each counted each time it is reached (what is shared counts as often as it is met; a slice's spare places count too). A statement '..UptoSaid' is the law's where the arguments, and the package variables that the reading takes, are together of bulk at most 1048576: NARROWER than '..Said'. Prove '..Said' where nothing that the law and all that it calls make is longer than what came in: it says more and counts as full. Else prove '..UptoSaid'. A law counts once. -/
mutual
def uptoBulk {H : Type} : DataW H → Nat
  | .lit (.string bytes) => bytes.length + 1
  | .lit _ => 1
  | .nil => 1
  | .ptr d => uptoBulk d + 1
  | .slice elems spare => uptoBulkAll elems + uptoBulkAll spare + 1
  | .agg parts => uptoBulkAll parts + 1
  | .iface _ d => uptoBulk d + 1
  | .map entries => uptoBulkEntries entries + 1
  | .held _ => 1
def uptoBulkAll {H : Type} : List (DataW H) → Nat
  | [] => 0
  | d :: r => uptoBulk d + uptoBulkAll r
def uptoBulkEntries {H : Type} : List (Lit × DataW H) → Nat
  | [] => 0
  | x :: r => uptoBulkEntry x + uptoBulkEntries r
def uptoBulkEntry {H : Type} : Lit × DataW H → Nat
  | (.string bytes, d) => bytes.length + uptoBulk d + 1
  | (_, d) => uptoBulk d + 1
 end
def uptoSmall : (H : Type) → List (DataW H) → Bool := fun _ ds => decide (uptoBulkAll ds ≤ 1048576)
def OpenSpec.upto (s : _root_.Go.ChangeSpec) : _root_.Go.OpenSpec := { _root_.Go.OpenSpec.ofChange s with cond := some uptoSmall }

/-- 'pithlaw1.VarintPuts', WHERE WHAT IT READS IS OF BULK AT MOST 1048576: true; the input reads as it did. -/
def varintPutsUptoRow : OpenClaim := { program := "ytkohakogknodeaa", sum := "42e33fee09d81182ad9a583684a48c3543a337e89ed4dc489f8326b1dc67747d", func := "pith/pithlaw1.VarintPuts", spec := "varintPuts", apart := false, narrowed := true }
def VarintPutsUptoSaid : Prop := varintPutsUptoRow.holds Try.pinned (OpenSpec.upto varintPutsSpec)

/-- 'pithlaw1.VarintLists', WHERE WHAT IT READS IS OF BULK AT MOST 1048576: true; the input reads as it did. -/
def varintListsUptoRow : OpenClaim := { program := "ytkohakogknodeaa", sum := "42e33fee09d81182ad9a583684a48c3543a337e89ed4dc489f8326b1dc67747d", func := "pith/pithlaw1.VarintLists", spec := "varintLists", apart := false, narrowed := true }
def VarintListsUptoSaid : Prop := varintListsUptoRow.holds Try.pinned (OpenSpec.upto varintListsSpec)

/-- 'pithlaw1.VarintReads', WHERE WHAT IT READS IS OF BULK AT MOST 1048576: true; the input reads as it did. -/
def varintReadsUptoRow : OpenClaim := { program := "ytkohakogknodeaa", sum := "42e33fee09d81182ad9a583684a48c3543a337e89ed4dc489f8326b1dc67747d", func := "pith/pithlaw1.VarintReads", spec := "varintReads", apart := false, narrowed := true }
def VarintReadsUptoSaid : Prop := varintReadsUptoRow.holds Try.pinned (OpenSpec.upto varintReadsSpec)

/-- 'pithlaw1.VarintForms', WHERE WHAT IT READS IS OF BULK AT MOST 1048576: true; the input reads as it did. -/
def varintFormsUptoRow : OpenClaim := { program := "ytkohakogknodeaa", sum := "42e33fee09d81182ad9a583684a48c3543a337e89ed4dc489f8326b1dc67747d", func := "pith/pithlaw1.VarintForms", spec := "varintForms", apart := false, narrowed := true }
def VarintFormsUptoSaid : Prop := varintFormsUptoRow.holds Try.pinned (OpenSpec.upto varintFormsSpec)

/-- 'pithlaw1.VarintOrder', WHERE WHAT IT READS IS OF BULK AT MOST 1048576: true; the input reads as it did. -/
def varintOrderUptoRow : OpenClaim := { program := "ytkohakogknodeaa", sum := "42e33fee09d81182ad9a583684a48c3543a337e89ed4dc489f8326b1dc67747d", func := "pith/pithlaw1.VarintOrder", spec := "varintOrder", apart := false, narrowed := true }
def VarintOrderUptoSaid : Prop := varintOrderUptoRow.holds Try.pinned (OpenSpec.upto varintOrderSpec)

/-- 'pithlaw1.VarintBack', WHERE WHAT IT READS IS OF BULK AT MOST 1048576: true; the input reads as it did. -/
def varintBackUptoRow : OpenClaim := { program := "ytkohakogknodeaa", sum := "42e33fee09d81182ad9a583684a48c3543a337e89ed4dc489f8326b1dc67747d", func := "pith/pithlaw1.VarintBack", spec := "varintBack", apart := false, narrowed := true }
def VarintBackUptoSaid : Prop := varintBackUptoRow.holds Try.pinned (OpenSpec.upto varintBackSpec)

/-- 'pithlaw1.VarintOneForm', WHERE WHAT IT READS IS OF BULK AT MOST 1048576: true; the input reads as it did. -/
def varintOneFormUptoRow : OpenClaim := { program := "ytkohakogknodeaa", sum := "42e33fee09d81182ad9a583684a48c3543a337e89ed4dc489f8326b1dc67747d", func := "pith/pithlaw1.VarintOneForm", spec := "varintOneForm", apart := false, narrowed := true }
def VarintOneFormUptoSaid : Prop := varintOneFormUptoRow.holds Try.pinned (OpenSpec.upto varintOneFormSpec)

/-- 'pithlaw1.VarintGaps', WHERE WHAT IT READS IS OF BULK AT MOST 1048576: true; the input reads as it did. -/
def varintGapsUptoRow : OpenClaim := { program := "ytkohakogknodeaa", sum := "42e33fee09d81182ad9a583684a48c3543a337e89ed4dc489f8326b1dc67747d", func := "pith/pithlaw1.VarintGaps", spec := "varintGaps", apart := false, narrowed := true }
def VarintGapsUptoSaid : Prop := varintGapsUptoRow.holds Try.pinned (OpenSpec.upto varintGapsSpec)

/-- 'pithlaw1.VarintBelow', WHERE WHAT IT READS IS OF BULK AT MOST 1048576: true; the input reads as it did. -/
def varintBelowUptoRow : OpenClaim := { program := "ytkohakogknodeaa", sum := "42e33fee09d81182ad9a583684a48c3543a337e89ed4dc489f8326b1dc67747d", func := "pith/pithlaw1.VarintBelow", spec := "varintBelow", apart := false, narrowed := true }
def VarintBelowUptoSaid : Prop := varintBelowUptoRow.holds Try.pinned (OpenSpec.upto varintBelowSpec)

/-- 'pithlaw1.VarintBroken', WHERE WHAT IT READS IS OF BULK AT MOST 1048576: true; the input reads as it did. -/
def varintBrokenUptoRow : OpenClaim := { program := "ytkohakogknodeaa", sum := "42e33fee09d81182ad9a583684a48c3543a337e89ed4dc489f8326b1dc67747d", func := "pith/pithlaw1.VarintBroken", spec := "varintBroken", apart := false, narrowed := true }
def VarintBrokenUptoSaid : Prop := varintBrokenUptoRow.holds Try.pinned (OpenSpec.upto varintBrokenSpec)

end Rows
end Go.Proofs.Ytkohakogknodeaa
