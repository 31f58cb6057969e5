/-
  NARROWER THAN 'FOR EVERY INPUT', by the rows' own cells (each row's printed sentence says how): CrcSums: laid · CrcUpdates: laid · CrcJoins: laid · CrcParts: laid · CrcGroups: laid · CrcSteps: laid · CrcBehind: laid · CrcBurst: laid · CrcTwo: laid · CrcLinear: laid · CrcZeros: laid.
  DERIVED. THE GIVEN ROWS OF THIS SEAT. 11 by the template 'for every input the law returns true; each argument reads behind the call as it read before'; 0 by the template 'total and deterministic' (their statements: YtcjedjknelgagaaDoorTotals.lean).
  GIVEN WITH THE SEED: the statements are not yours to turn. If you find one false, say at which input.
  Laid BY PROGRAM, IN A SANDBOX (cutbox-rows.mjs): the forced cells as the released guide's own fill.sh prints them over the translation 71b73339c7718119… (all of the seat's roots in one cut). By AI agents, Wed Nov 11 2026. No macro, syntax, notation, axiom, sorry.
-/
import Derived.Test.YtcjedjknelgagaaDoorChecked
import GoSem.Claim
import GoSem.ClaimJoined
import GoSem.ClaimMapViews
import Derived.JoinedTies
import Derived.KernelRfl
namespace Go.Proofs.YtcjedjknelgagaaDoor
/- THE CELL 'sum', in the pinned program and in every row, IS THE sha256 OF THE DUMP (.gsa) THAT YtcjedjknelgagaaDoorProg.lean LOADS. Nothing in Lean hashes anything: it is a label: what it is worth is what the hold of that sum in a sandbox is worth. -/
noncomputable def Tryd.pinned : Pinned := { name := "ytcjedjknelgagaadoor", sum := "71b73339c771811916002096b474b84db2df5819dc5b544fc448b75468ae1fb2", checked := Tryd.checked }
namespace Rows
def none {H : Type} : Left H := { results := [], args := [] }

/- WHAT THE LISTED PACKAGE-LEVEL VARIABLES READ AS WHEN THE CALL BEGINS. Each datum BY PROGRAM (the guide's laid-datum.mjs) off the statement by which the dump's own 'gosem.cut.vars' lays the variable. In a bare row this is a premise. The card (YtcjedjknelgagaaDoorCards.lean) ties it to the program's text. -/
def laid_pith_crc_table {H : Type} : DataW H := .agg [.lit (.int .u32 0), .lit (.int .u32 79764919), .lit (.int .u32 159529838), .lit (.int .u32 222504665), .lit (.int .u32 319059676), .lit (.int .u32 398814059), .lit (.int .u32 445009330), .lit (.int .u32 507990021), .lit (.int .u32 638119352), .lit (.int .u32 583659535), .lit (.int .u32 797628118), .lit (.int .u32 726387553), .lit (.int .u32 890018660), .lit (.int .u32 835552979), .lit (.int .u32 1015980042), .lit (.int .u32 944750013)]

/-- 'pithlaw2.CrcSums': WHATEVER THE INPUT: true; the input reads as it did. -/
def crcSumsSpec : ChangeSpec := { name := "crcSums", fn := fun _ => fun
  | [d1, d2, d3] => { results := [.lit (.bool true)], args := [d1, d2, d3] }
  | _ => none }
def crcSumsRow : OpenClaim := { program := "ytcjedjknelgagaadoor", sum := "71b73339c771811916002096b474b84db2df5819dc5b544fc448b75468ae1fb2", func := "pith/pithlaw2.CrcSums", spec := "crcSums", named := ["pith/crc.table"], apart := false, laid := [("pith/crc.table", laid_pith_crc_table)] }
def CrcSumsSaid : Prop := crcSumsRow.holds Tryd.pinned (OpenSpec.ofChange crcSumsSpec)

/-- ITS FALSE NEIGHBOUR: 'it returns false'. Refute it at one input. -/
def crcSumsWrong : ChangeSpec := { name := "crcSums", fn := fun _ => fun
  | [d1, d2, d3] => { results := [.lit (.bool false)], args := [d1, d2, d3] }
  | _ => none }
def CrcSumsWrongFalsely : Prop := crcSumsRow.holds Tryd.pinned (OpenSpec.ofChange crcSumsWrong)

/-- 'pithlaw2.CrcUpdates': WHATEVER THE INPUT: true; the input reads as it did. -/
def crcUpdatesSpec : ChangeSpec := { name := "crcUpdates", fn := fun _ => fun
  | [d1, d2, d3, d4] => { results := [.lit (.bool true)], args := [d1, d2, d3, d4] }
  | _ => none }
def crcUpdatesRow : OpenClaim := { program := "ytcjedjknelgagaadoor", sum := "71b73339c771811916002096b474b84db2df5819dc5b544fc448b75468ae1fb2", func := "pith/pithlaw2.CrcUpdates", spec := "crcUpdates", named := ["pith/crc.table"], apart := false, laid := [("pith/crc.table", laid_pith_crc_table)] }
def CrcUpdatesSaid : Prop := crcUpdatesRow.holds Tryd.pinned (OpenSpec.ofChange crcUpdatesSpec)

/-- ITS FALSE NEIGHBOUR: 'it returns false'. Refute it at one input. -/
def crcUpdatesWrong : ChangeSpec := { name := "crcUpdates", fn := fun _ => fun
  | [d1, d2, d3, d4] => { results := [.lit (.bool false)], args := [d1, d2, d3, d4] }
  | _ => none }
def CrcUpdatesWrongFalsely : Prop := crcUpdatesRow.holds Tryd.pinned (OpenSpec.ofChange crcUpdatesWrong)

/-- 'pithlaw2.CrcJoins': WHATEVER THE INPUT: true; the input reads as it did. -/
def crcJoinsSpec : ChangeSpec := { name := "crcJoins", fn := fun _ => fun
  | [d1, d2, d3] => { results := [.lit (.bool true)], args := [d1, d2, d3] }
  | _ => none }
def crcJoinsRow : OpenClaim := { program := "ytcjedjknelgagaadoor", sum := "71b73339c771811916002096b474b84db2df5819dc5b544fc448b75468ae1fb2", func := "pith/pithlaw2.CrcJoins", spec := "crcJoins", named := ["pith/crc.table"], apart := false, laid := [("pith/crc.table", laid_pith_crc_table)] }
def CrcJoinsSaid : Prop := crcJoinsRow.holds Tryd.pinned (OpenSpec.ofChange crcJoinsSpec)

/-- ITS FALSE NEIGHBOUR: 'it returns false'. Refute it at one input. -/
def crcJoinsWrong : ChangeSpec := { name := "crcJoins", fn := fun _ => fun
  | [d1, d2, d3] => { results := [.lit (.bool false)], args := [d1, d2, d3] }
  | _ => none }
def CrcJoinsWrongFalsely : Prop := crcJoinsRow.holds Tryd.pinned (OpenSpec.ofChange crcJoinsWrong)

/-- 'pithlaw2.CrcParts': WHATEVER THE INPUT: true; the input reads as it did. -/
def crcPartsSpec : ChangeSpec := { name := "crcParts", fn := fun _ => fun
  | [d1, d2, d3, d4] => { results := [.lit (.bool true)], args := [d1, d2, d3, d4] }
  | _ => none }
def crcPartsRow : OpenClaim := { program := "ytcjedjknelgagaadoor", sum := "71b73339c771811916002096b474b84db2df5819dc5b544fc448b75468ae1fb2", func := "pith/pithlaw2.CrcParts", spec := "crcParts", named := ["pith/crc.table"], apart := false, laid := [("pith/crc.table", laid_pith_crc_table)] }
def CrcPartsSaid : Prop := crcPartsRow.holds Tryd.pinned (OpenSpec.ofChange crcPartsSpec)

/-- ITS FALSE NEIGHBOUR: 'it returns false'. Refute it at one input. -/
def crcPartsWrong : ChangeSpec := { name := "crcParts", fn := fun _ => fun
  | [d1, d2, d3, d4] => { results := [.lit (.bool false)], args := [d1, d2, d3, d4] }
  | _ => none }
def CrcPartsWrongFalsely : Prop := crcPartsRow.holds Tryd.pinned (OpenSpec.ofChange crcPartsWrong)

/-- 'pithlaw2.CrcGroups': WHATEVER THE INPUT: true; the input reads as it did. -/
def crcGroupsSpec : ChangeSpec := { name := "crcGroups", fn := fun _ => fun
  | [d1, d2, d3, d4, d5] => { results := [.lit (.bool true)], args := [d1, d2, d3, d4, d5] }
  | _ => none }
def crcGroupsRow : OpenClaim := { program := "ytcjedjknelgagaadoor", sum := "71b73339c771811916002096b474b84db2df5819dc5b544fc448b75468ae1fb2", func := "pith/pithlaw2.CrcGroups", spec := "crcGroups", named := ["pith/crc.table"], apart := false, laid := [("pith/crc.table", laid_pith_crc_table)] }
def CrcGroupsSaid : Prop := crcGroupsRow.holds Tryd.pinned (OpenSpec.ofChange crcGroupsSpec)

/-- ITS FALSE NEIGHBOUR: 'it returns false'. Refute it at one input. -/
def crcGroupsWrong : ChangeSpec := { name := "crcGroups", fn := fun _ => fun
  | [d1, d2, d3, d4, d5] => { results := [.lit (.bool false)], args := [d1, d2, d3, d4, d5] }
  | _ => none }
def CrcGroupsWrongFalsely : Prop := crcGroupsRow.holds Tryd.pinned (OpenSpec.ofChange crcGroupsWrong)

/-- 'pithlaw2.CrcSteps': WHATEVER THE INPUT: true; the input reads as it did. -/
def crcStepsSpec : ChangeSpec := { name := "crcSteps", fn := fun _ => fun
  | [d1, d2, d3] => { results := [.lit (.bool true)], args := [d1, d2, d3] }
  | _ => none }
def crcStepsRow : OpenClaim := { program := "ytcjedjknelgagaadoor", sum := "71b73339c771811916002096b474b84db2df5819dc5b544fc448b75468ae1fb2", func := "pith/pithlaw2.CrcSteps", spec := "crcSteps", named := ["pith/crc.table"], apart := false, laid := [("pith/crc.table", laid_pith_crc_table)] }
def CrcStepsSaid : Prop := crcStepsRow.holds Tryd.pinned (OpenSpec.ofChange crcStepsSpec)

/-- ITS FALSE NEIGHBOUR: 'it returns false'. Refute it at one input. -/
def crcStepsWrong : ChangeSpec := { name := "crcSteps", fn := fun _ => fun
  | [d1, d2, d3] => { results := [.lit (.bool false)], args := [d1, d2, d3] }
  | _ => none }
def CrcStepsWrongFalsely : Prop := crcStepsRow.holds Tryd.pinned (OpenSpec.ofChange crcStepsWrong)

/-- 'pithlaw2.CrcBehind': WHATEVER THE INPUT: true; the input reads as it did. -/
def crcBehindSpec : ChangeSpec := { name := "crcBehind", fn := fun _ => fun
  | [d] => { results := [.lit (.bool true)], args := [d] }
  | _ => none }
def crcBehindRow : OpenClaim := { program := "ytcjedjknelgagaadoor", sum := "71b73339c771811916002096b474b84db2df5819dc5b544fc448b75468ae1fb2", func := "pith/pithlaw2.CrcBehind", spec := "crcBehind", named := ["pith/crc.table"], apart := false, laid := [("pith/crc.table", laid_pith_crc_table)] }
def CrcBehindSaid : Prop := crcBehindRow.holds Tryd.pinned (OpenSpec.ofChange crcBehindSpec)

/-- ITS FALSE NEIGHBOUR: 'it returns false'. Refute it at one input. -/
def crcBehindWrong : ChangeSpec := { name := "crcBehind", fn := fun _ => fun
  | [d] => { results := [.lit (.bool false)], args := [d] }
  | _ => none }
def CrcBehindWrongFalsely : Prop := crcBehindRow.holds Tryd.pinned (OpenSpec.ofChange crcBehindWrong)

/-- 'pithlaw2.CrcBurst': WHATEVER THE INPUT: true; the input reads as it did. -/
def crcBurstSpec : ChangeSpec := { name := "crcBurst", fn := fun _ => fun
  | [d1, d2, d3] => { results := [.lit (.bool true)], args := [d1, d2, d3] }
  | _ => none }
def crcBurstRow : OpenClaim := { program := "ytcjedjknelgagaadoor", sum := "71b73339c771811916002096b474b84db2df5819dc5b544fc448b75468ae1fb2", func := "pith/pithlaw2.CrcBurst", spec := "crcBurst", named := ["pith/crc.table"], apart := false, laid := [("pith/crc.table", laid_pith_crc_table)] }
def CrcBurstSaid : Prop := crcBurstRow.holds Tryd.pinned (OpenSpec.ofChange crcBurstSpec)

/-- ITS FALSE NEIGHBOUR: 'it returns false'. Refute it at one input. -/
def crcBurstWrong : ChangeSpec := { name := "crcBurst", fn := fun _ => fun
  | [d1, d2, d3] => { results := [.lit (.bool false)], args := [d1, d2, d3] }
  | _ => none }
def CrcBurstWrongFalsely : Prop := crcBurstRow.holds Tryd.pinned (OpenSpec.ofChange crcBurstWrong)

/-- 'pithlaw2.CrcTwo': WHATEVER THE INPUT: true; the input reads as it did. -/
def crcTwoSpec : ChangeSpec := { name := "crcTwo", fn := fun _ => fun
  | [d1, d2, d3] => { results := [.lit (.bool true)], args := [d1, d2, d3] }
  | _ => none }
def crcTwoRow : OpenClaim := { program := "ytcjedjknelgagaadoor", sum := "71b73339c771811916002096b474b84db2df5819dc5b544fc448b75468ae1fb2", func := "pith/pithlaw2.CrcTwo", spec := "crcTwo", named := ["pith/crc.table"], apart := false, laid := [("pith/crc.table", laid_pith_crc_table)] }
def CrcTwoSaid : Prop := crcTwoRow.holds Tryd.pinned (OpenSpec.ofChange crcTwoSpec)

/-- ITS FALSE NEIGHBOUR: 'it returns false'. Refute it at one input. -/
def crcTwoWrong : ChangeSpec := { name := "crcTwo", fn := fun _ => fun
  | [d1, d2, d3] => { results := [.lit (.bool false)], args := [d1, d2, d3] }
  | _ => none }
def CrcTwoWrongFalsely : Prop := crcTwoRow.holds Tryd.pinned (OpenSpec.ofChange crcTwoWrong)

/-- 'pithlaw2.CrcLinear': WHATEVER THE INPUT: true; the input reads as it did. -/
def crcLinearSpec : ChangeSpec := { name := "crcLinear", fn := fun _ => fun
  | [d1, d2, d3] => { results := [.lit (.bool true)], args := [d1, d2, d3] }
  | _ => none }
def crcLinearRow : OpenClaim := { program := "ytcjedjknelgagaadoor", sum := "71b73339c771811916002096b474b84db2df5819dc5b544fc448b75468ae1fb2", func := "pith/pithlaw2.CrcLinear", spec := "crcLinear", named := ["pith/crc.table"], apart := false, laid := [("pith/crc.table", laid_pith_crc_table)] }
def CrcLinearSaid : Prop := crcLinearRow.holds Tryd.pinned (OpenSpec.ofChange crcLinearSpec)

/-- ITS FALSE NEIGHBOUR: 'it returns false'. Refute it at one input. -/
def crcLinearWrong : ChangeSpec := { name := "crcLinear", fn := fun _ => fun
  | [d1, d2, d3] => { results := [.lit (.bool false)], args := [d1, d2, d3] }
  | _ => none }
def CrcLinearWrongFalsely : Prop := crcLinearRow.holds Tryd.pinned (OpenSpec.ofChange crcLinearWrong)

/-- 'pithlaw2.CrcZeros': WHATEVER THE INPUT: true; the input reads as it did. -/
def crcZerosSpec : ChangeSpec := { name := "crcZeros", fn := fun _ => fun
  | [d1, d2] => { results := [.lit (.bool true)], args := [d1, d2] }
  | _ => none }
def crcZerosRow : OpenClaim := { program := "ytcjedjknelgagaadoor", sum := "71b73339c771811916002096b474b84db2df5819dc5b544fc448b75468ae1fb2", func := "pith/pithlaw2.CrcZeros", spec := "crcZeros", named := ["pith/crc.table"], apart := false, laid := [("pith/crc.table", laid_pith_crc_table)] }
def CrcZerosSaid : Prop := crcZerosRow.holds Tryd.pinned (OpenSpec.ofChange crcZerosSpec)

/-- ITS FALSE NEIGHBOUR: 'it returns false'. Refute it at one input. -/
def crcZerosWrong : ChangeSpec := { name := "crcZeros", fn := fun _ => fun
  | [d1, d2] => { results := [.lit (.bool false)], args := [d1, d2] }
  | _ => none }
def CrcZerosWrongFalsely : Prop := crcZerosRow.holds Tryd.pinned (OpenSpec.ofChange crcZerosWrong)

/- THE SECOND FORM. 'bulk': how many values and letters a reading holds, each counted each time it is reached (what is shared counts as often as it is met; a slice's spare places count too). A statement '..UptoSaid' is the law's where the arguments, and the package variables that the reading takes, are together of bulk at most 1048576: NARROWER than '..Said'. Prove '..Said' where nothing that the law and all that it calls make is longer than what came in: it says more and counts as full. Else prove '..UptoSaid'. A law counts once. -/
mutual
def uptoBulk {H : Type} : DataW H → Nat
  | .lit (.string bytes) => bytes.length + 1
  | .lit _ => 1
  | .nil => 1
  | .ptr d => uptoBulk d + 1
  | .slice elems spare => uptoBulkAll elems + uptoBulkAll spare + 1
  | .agg parts => uptoBulkAll parts + 1
  | .iface _ d => uptoBulk d + 1
  | .map entries => uptoBulkEntries entries + 1
  | .held _ => 1
def uptoBulkAll {H : Type} : List (DataW H) → Nat
  | [] => 0
  | d :: r => uptoBulk d + uptoBulkAll r
def uptoBulkEntries {H : Type} : List (Lit × DataW H) → Nat
  | [] => 0
  | x :: r => uptoBulkEntry x + uptoBulkEntries r
def uptoBulkEntry {H : Type} : Lit × DataW H → Nat
  | (.string bytes, d) => bytes.length + uptoBulk d + 1
  | (_, d) => uptoBulk d + 1
 end
def uptoSmall : (H : Type) → List (DataW H) → Bool := fun _ ds => decide (uptoBulkAll ds ≤ 1048576)
def OpenSpec.upto (s : _root_.Go.ChangeSpec) : _root_.Go.OpenSpec := { _root_.Go.OpenSpec.ofChange s with cond := some uptoSmall }

/-- 'pithlaw2.CrcSums', WHERE WHAT IT READS IS OF BULK AT MOST 1048576: true; the input reads as it did. -/
def crcSumsUptoRow : OpenClaim := { program := "ytcjedjknelgagaadoor", sum := "71b73339c771811916002096b474b84db2df5819dc5b544fc448b75468ae1fb2", func := "pith/pithlaw2.CrcSums", spec := "crcSums", named := ["pith/crc.table"], apart := false, laid := [("pith/crc.table", laid_pith_crc_table)], narrowed := true }
def CrcSumsUptoSaid : Prop := crcSumsUptoRow.holds Tryd.pinned (OpenSpec.upto crcSumsSpec)

/-- 'pithlaw2.CrcUpdates', WHERE WHAT IT READS IS OF BULK AT MOST 1048576: true; the input reads as it did. -/
def crcUpdatesUptoRow : OpenClaim := { program := "ytcjedjknelgagaadoor", sum := "71b73339c771811916002096b474b84db2df5819dc5b544fc448b75468ae1fb2", func := "pith/pithlaw2.CrcUpdates", spec := "crcUpdates", named := ["pith/crc.table"], apart := false, laid := [("pith/crc.table", laid_pith_crc_table)], narrowed := true }
def CrcUpdatesUptoSaid : Prop := crcUpdatesUptoRow.holds Tryd.pinned (OpenSpec.upto crcUpdatesSpec)

/-- 'pithlaw2.CrcJoins', WHERE WHAT IT READS IS OF BULK AT MOST 1048576: true; the input reads as it did. -/
def crcJoinsUptoRow : OpenClaim := { program := "ytcjedjknelgagaadoor", sum := "71b73339c771811916002096b474b84db2df5819dc5b544fc448b75468ae1fb2", func := "pith/pithlaw2.CrcJoins", spec := "crcJoins", named := ["pith/crc.table"], apart := false, laid := [("pith/crc.table", laid_pith_crc_table)], narrowed := true }
def CrcJoinsUptoSaid : Prop := crcJoinsUptoRow.holds Tryd.pinned (OpenSpec.upto crcJoinsSpec)

/-- 'pithlaw2.CrcParts', WHERE WHAT IT READS IS OF BULK AT MOST 1048576: true; the input reads as it did. -/
def crcPartsUptoRow : OpenClaim := { program := "ytcjedjknelgagaadoor", sum := "71b73339c771811916002096b474b84db2df5819dc5b544fc448b75468ae1fb2", func := "pith/pithlaw2.CrcParts", spec := "crcParts", named := ["pith/crc.table"], apart := false, laid := [("pith/crc.table", laid_pith_crc_table)], narrowed := true }
def CrcPartsUptoSaid : Prop := crcPartsUptoRow.holds Tryd.pinned (OpenSpec.upto crcPartsSpec)

/-- 'pithlaw2.CrcGroups', WHERE WHAT IT READS IS OF BULK AT MOST 1048576: true; the input reads as it did. -/
def crcGroupsUptoRow : OpenClaim := { program := "ytcjedjknelgagaadoor", sum := "71b73339c771811916002096b474b84db2df5819dc5b544fc448b75468ae1fb2", func := "pith/pithlaw2.CrcGroups", spec := "crcGroups", named := ["pith/crc.table"], apart := false, laid := [("pith/crc.table", laid_pith_crc_table)], narrowed := true }
def CrcGroupsUptoSaid : Prop := crcGroupsUptoRow.holds Tryd.pinned (OpenSpec.upto crcGroupsSpec)

/-- 'pithlaw2.CrcSteps', WHERE WHAT IT READS IS OF BULK AT MOST 1048576: true; the input reads as it did. -/
def crcStepsUptoRow : OpenClaim := { program := "ytcjedjknelgagaadoor", sum := "71b73339c771811916002096b474b84db2df5819dc5b544fc448b75468ae1fb2", func := "pith/pithlaw2.CrcSteps", spec := "crcSteps", named := ["pith/crc.table"], apart := false, laid := [("pith/crc.table", laid_pith_crc_table)], narrowed := true }
def CrcStepsUptoSaid : Prop := crcStepsUptoRow.holds Tryd.pinned (OpenSpec.upto crcStepsSpec)

/-- 'pithlaw2.CrcBehind', WHERE WHAT IT READS IS OF BULK AT MOST 1048576: true; the input reads as it did. -/
def crcBehindUptoRow : OpenClaim := { program := "ytcjedjknelgagaadoor", sum := "71b73339c771811916002096b474b84db2df5819dc5b544fc448b75468ae1fb2", func := "pith/pithlaw2.CrcBehind", spec := "crcBehind", named := ["pith/crc.table"], apart := false, laid := [("pith/crc.table", laid_pith_crc_table)], narrowed := true }
def CrcBehindUptoSaid : Prop := crcBehindUptoRow.holds Tryd.pinned (OpenSpec.upto crcBehindSpec)

/-- 'pithlaw2.CrcBurst', WHERE WHAT IT READS IS OF BULK AT MOST 1048576: true; the input reads as it did. -/
def crcBurstUptoRow : OpenClaim := { program := "ytcjedjknelgagaadoor", sum := "71b73339c771811916002096b474b84db2df5819dc5b544fc448b75468ae1fb2", func := "pith/pithlaw2.CrcBurst", spec := "crcBurst", named := ["pith/crc.table"], apart := false, laid := [("pith/crc.table", laid_pith_crc_table)], narrowed := true }
def CrcBurstUptoSaid : Prop := crcBurstUptoRow.holds Tryd.pinned (OpenSpec.upto crcBurstSpec)

/-- 'pithlaw2.CrcTwo', WHERE WHAT IT READS IS OF BULK AT MOST 1048576: true; the input reads as it did. -/
def crcTwoUptoRow : OpenClaim := { program := "ytcjedjknelgagaadoor", sum := "71b73339c771811916002096b474b84db2df5819dc5b544fc448b75468ae1fb2", func := "pith/pithlaw2.CrcTwo", spec := "crcTwo", named := ["pith/crc.table"], apart := false, laid := [("pith/crc.table", laid_pith_crc_table)], narrowed := true }
def CrcTwoUptoSaid : Prop := crcTwoUptoRow.holds Tryd.pinned (OpenSpec.upto crcTwoSpec)

/-- 'pithlaw2.CrcLinear', WHERE WHAT IT READS IS OF BULK AT MOST 1048576: true; the input reads as it did. -/
def crcLinearUptoRow : OpenClaim := { program := "ytcjedjknelgagaadoor", sum := "71b73339c771811916002096b474b84db2df5819dc5b544fc448b75468ae1fb2", func := "pith/pithlaw2.CrcLinear", spec := "crcLinear", named := ["pith/crc.table"], apart := false, laid := [("pith/crc.table", laid_pith_crc_table)], narrowed := true }
def CrcLinearUptoSaid : Prop := crcLinearUptoRow.holds Tryd.pinned (OpenSpec.upto crcLinearSpec)

/-- 'pithlaw2.CrcZeros', WHERE WHAT IT READS IS OF BULK AT MOST 1048576: true; the input reads as it did. -/
def crcZerosUptoRow : OpenClaim := { program := "ytcjedjknelgagaadoor", sum := "71b73339c771811916002096b474b84db2df5819dc5b544fc448b75468ae1fb2", func := "pith/pithlaw2.CrcZeros", spec := "crcZeros", named := ["pith/crc.table"], apart := false, laid := [("pith/crc.table", laid_pith_crc_table)], narrowed := true }
def CrcZerosUptoSaid : Prop := crcZerosUptoRow.holds Tryd.pinned (OpenSpec.upto crcZerosSpec)

end Rows
end Go.Proofs.YtcjedjknelgagaaDoor
