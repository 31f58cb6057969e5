/-
  NARROWER THAN 'FOR EVERY INPUT', by the rows' own cells (each row's printed sentence says how): FrameEncodes: laid · FrameDecodes: laid · FrameRows: laid · FrameLaid: laid · FrameBack: laid · FrameBursts: laid · FrameCuts: laid · FrameTwo: laid.
  DERIVED. THE GIVEN ROWS OF THIS SEAT. 8 by the template 'for every input the law returns true; each argument reads behind the call as it read before'; 0 by the template 'total and deterministic' (their statements: YtnbagbenpojpnaaDoorTotals.lean).
  GIVEN WITH THE SEED: the statements are not yours to turn. If you find one false, say at which input.
  Laid BY PROGRAM, IN A SANDBOX (cutbox-rows.mjs): the forced cells as the released guide's own fill.sh prints them over the translation 3b4b5b151636073f… (all of the seat's roots in one cut). By AI agents, Wed Nov 11 2026. No macro, syntax, notation, axiom, sorry.
-/
import Derived.Test.YtnbagbenpojpnaaDoorChecked
import GoSem.Claim
import GoSem.ClaimJoined
import GoSem.ClaimMapViews
import Derived.JoinedTies
import Derived.KernelRfl
namespace Go.Proofs.YtnbagbenpojpnaaDoor
/- THE CELL 'sum', in the pinned program and in every row, IS THE sha256 OF THE DUMP (.gsa) THAT YtnbagbenpojpnaaDoorProg.lean LOADS. Nothing in Lean hashes anything: it is a label: what it is worth is what the hold of that sum in a sandbox is worth. -/
noncomputable def Tryd.pinned : Pinned := { name := "ytnbagbenpojpnaadoor", sum := "3b4b5b151636073f3f473f91b8c5e435c959bc5926c5d148ad8d9ae7945a3b51", checked := Tryd.checked }
namespace Rows
def none {H : Type} : Left H := { results := [], args := [] }

/- WHAT THE LISTED PACKAGE-LEVEL VARIABLES READ AS WHEN THE CALL BEGINS. Each datum BY PROGRAM (the guide's laid-datum.mjs) off the statement by which the dump's own 'gosem.cut.vars' lays the variable. In a bare row this is a premise. The card (YtnbagbenpojpnaaDoorCards.lean) ties it to the program's text. -/
def laid_pith_crc_table {H : Type} : DataW H := .agg [.lit (.int .u32 0), .lit (.int .u32 79764919), .lit (.int .u32 159529838), .lit (.int .u32 222504665), .lit (.int .u32 319059676), .lit (.int .u32 398814059), .lit (.int .u32 445009330), .lit (.int .u32 507990021), .lit (.int .u32 638119352), .lit (.int .u32 583659535), .lit (.int .u32 797628118), .lit (.int .u32 726387553), .lit (.int .u32 890018660), .lit (.int .u32 835552979), .lit (.int .u32 1015980042), .lit (.int .u32 944750013)]

/-- 'pithlaw3.FrameEncodes': WHATEVER THE INPUT: true; the input reads as it did. -/
def frameEncodesSpec : ChangeSpec := { name := "frameEncodes", fn := fun _ => fun
  | [d] => { results := [.lit (.bool true)], args := [d] }
  | _ => none }
def frameEncodesRow : OpenClaim := { program := "ytnbagbenpojpnaadoor", sum := "3b4b5b151636073f3f473f91b8c5e435c959bc5926c5d148ad8d9ae7945a3b51", func := "pith/pithlaw3.FrameEncodes", spec := "frameEncodes", named := ["pith/crc.table"], apart := false, laid := [("pith/crc.table", laid_pith_crc_table)] }
def FrameEncodesSaid : Prop := frameEncodesRow.holds Tryd.pinned (OpenSpec.ofChange frameEncodesSpec)

/-- ITS FALSE NEIGHBOUR: 'it returns false'. Refute it at one input. -/
def frameEncodesWrong : ChangeSpec := { name := "frameEncodes", fn := fun _ => fun
  | [d] => { results := [.lit (.bool false)], args := [d] }
  | _ => none }
def FrameEncodesWrongFalsely : Prop := frameEncodesRow.holds Tryd.pinned (OpenSpec.ofChange frameEncodesWrong)

/-- 'pithlaw3.FrameDecodes': WHATEVER THE INPUT: true; the input reads as it did. -/
def frameDecodesSpec : ChangeSpec := { name := "frameDecodes", fn := fun _ => fun
  | [d] => { results := [.lit (.bool true)], args := [d] }
  | _ => none }
def frameDecodesRow : OpenClaim := { program := "ytnbagbenpojpnaadoor", sum := "3b4b5b151636073f3f473f91b8c5e435c959bc5926c5d148ad8d9ae7945a3b51", func := "pith/pithlaw3.FrameDecodes", spec := "frameDecodes", named := ["pith/crc.table"], apart := false, laid := [("pith/crc.table", laid_pith_crc_table)] }
def FrameDecodesSaid : Prop := frameDecodesRow.holds Tryd.pinned (OpenSpec.ofChange frameDecodesSpec)

/-- ITS FALSE NEIGHBOUR: 'it returns false'. Refute it at one input. -/
def frameDecodesWrong : ChangeSpec := { name := "frameDecodes", fn := fun _ => fun
  | [d] => { results := [.lit (.bool false)], args := [d] }
  | _ => none }
def FrameDecodesWrongFalsely : Prop := frameDecodesRow.holds Tryd.pinned (OpenSpec.ofChange frameDecodesWrong)

/-- 'pithlaw3.FrameRows': WHATEVER THE INPUT: true; the input reads as it did. -/
def frameRowsSpec : ChangeSpec := { name := "frameRows", fn := fun _ => fun
  | [d1, d2] => { results := [.lit (.bool true)], args := [d1, d2] }
  | _ => none }
def frameRowsRow : OpenClaim := { program := "ytnbagbenpojpnaadoor", sum := "3b4b5b151636073f3f473f91b8c5e435c959bc5926c5d148ad8d9ae7945a3b51", func := "pith/pithlaw3.FrameRows", spec := "frameRows", named := ["pith/crc.table"], apart := false, laid := [("pith/crc.table", laid_pith_crc_table)] }
def FrameRowsSaid : Prop := frameRowsRow.holds Tryd.pinned (OpenSpec.ofChange frameRowsSpec)

/-- ITS FALSE NEIGHBOUR: 'it returns false'. Refute it at one input. -/
def frameRowsWrong : ChangeSpec := { name := "frameRows", fn := fun _ => fun
  | [d1, d2] => { results := [.lit (.bool false)], args := [d1, d2] }
  | _ => none }
def FrameRowsWrongFalsely : Prop := frameRowsRow.holds Tryd.pinned (OpenSpec.ofChange frameRowsWrong)

/-- 'pithlaw3.FrameLaid': WHATEVER THE INPUT: true; the input reads as it did. -/
def frameLaidSpec : ChangeSpec := { name := "frameLaid", fn := fun _ => fun
  | [d] => { results := [.lit (.bool true)], args := [d] }
  | _ => none }
def frameLaidRow : OpenClaim := { program := "ytnbagbenpojpnaadoor", sum := "3b4b5b151636073f3f473f91b8c5e435c959bc5926c5d148ad8d9ae7945a3b51", func := "pith/pithlaw3.FrameLaid", spec := "frameLaid", named := ["pith/crc.table"], apart := false, laid := [("pith/crc.table", laid_pith_crc_table)] }
def FrameLaidSaid : Prop := frameLaidRow.holds Tryd.pinned (OpenSpec.ofChange frameLaidSpec)

/-- ITS FALSE NEIGHBOUR: 'it returns false'. Refute it at one input. -/
def frameLaidWrong : ChangeSpec := { name := "frameLaid", fn := fun _ => fun
  | [d] => { results := [.lit (.bool false)], args := [d] }
  | _ => none }
def FrameLaidWrongFalsely : Prop := frameLaidRow.holds Tryd.pinned (OpenSpec.ofChange frameLaidWrong)

/-- 'pithlaw3.FrameBack': WHATEVER THE INPUT: true; the input reads as it did. -/
def frameBackSpec : ChangeSpec := { name := "frameBack", fn := fun _ => fun
  | [d1, d2, d3] => { results := [.lit (.bool true)], args := [d1, d2, d3] }
  | _ => none }
def frameBackRow : OpenClaim := { program := "ytnbagbenpojpnaadoor", sum := "3b4b5b151636073f3f473f91b8c5e435c959bc5926c5d148ad8d9ae7945a3b51", func := "pith/pithlaw3.FrameBack", spec := "frameBack", named := ["pith/crc.table"], apart := false, laid := [("pith/crc.table", laid_pith_crc_table)] }
def FrameBackSaid : Prop := frameBackRow.holds Tryd.pinned (OpenSpec.ofChange frameBackSpec)

/-- ITS FALSE NEIGHBOUR: 'it returns false'. Refute it at one input. -/
def frameBackWrong : ChangeSpec := { name := "frameBack", fn := fun _ => fun
  | [d1, d2, d3] => { results := [.lit (.bool false)], args := [d1, d2, d3] }
  | _ => none }
def FrameBackWrongFalsely : Prop := frameBackRow.holds Tryd.pinned (OpenSpec.ofChange frameBackWrong)

/-- 'pithlaw3.FrameBursts': WHATEVER THE INPUT: true; the input reads as it did. -/
def frameBurstsSpec : ChangeSpec := { name := "frameBursts", fn := fun _ => fun
  | [d1, d2, d3] => { results := [.lit (.bool true)], args := [d1, d2, d3] }
  | _ => none }
def frameBurstsRow : OpenClaim := { program := "ytnbagbenpojpnaadoor", sum := "3b4b5b151636073f3f473f91b8c5e435c959bc5926c5d148ad8d9ae7945a3b51", func := "pith/pithlaw3.FrameBursts", spec := "frameBursts", named := ["pith/crc.table"], apart := false, laid := [("pith/crc.table", laid_pith_crc_table)] }
def FrameBurstsSaid : Prop := frameBurstsRow.holds Tryd.pinned (OpenSpec.ofChange frameBurstsSpec)

/-- ITS FALSE NEIGHBOUR: 'it returns false'. Refute it at one input. -/
def frameBurstsWrong : ChangeSpec := { name := "frameBursts", fn := fun _ => fun
  | [d1, d2, d3] => { results := [.lit (.bool false)], args := [d1, d2, d3] }
  | _ => none }
def FrameBurstsWrongFalsely : Prop := frameBurstsRow.holds Tryd.pinned (OpenSpec.ofChange frameBurstsWrong)

/-- 'pithlaw3.FrameCuts': WHATEVER THE INPUT: true; the input reads as it did. -/
def frameCutsSpec : ChangeSpec := { name := "frameCuts", fn := fun _ => fun
  | [d1, d2] => { results := [.lit (.bool true)], args := [d1, d2] }
  | _ => none }
def frameCutsRow : OpenClaim := { program := "ytnbagbenpojpnaadoor", sum := "3b4b5b151636073f3f473f91b8c5e435c959bc5926c5d148ad8d9ae7945a3b51", func := "pith/pithlaw3.FrameCuts", spec := "frameCuts", named := ["pith/crc.table"], apart := false, laid := [("pith/crc.table", laid_pith_crc_table)] }
def FrameCutsSaid : Prop := frameCutsRow.holds Tryd.pinned (OpenSpec.ofChange frameCutsSpec)

/-- ITS FALSE NEIGHBOUR: 'it returns false'. Refute it at one input. -/
def frameCutsWrong : ChangeSpec := { name := "frameCuts", fn := fun _ => fun
  | [d1, d2] => { results := [.lit (.bool false)], args := [d1, d2] }
  | _ => none }
def FrameCutsWrongFalsely : Prop := frameCutsRow.holds Tryd.pinned (OpenSpec.ofChange frameCutsWrong)

/-- 'pithlaw3.FrameTwo': WHATEVER THE INPUT: true; the input reads as it did. -/
def frameTwoSpec : ChangeSpec := { name := "frameTwo", fn := fun _ => fun
  | [d1, d2] => { results := [.lit (.bool true)], args := [d1, d2] }
  | _ => none }
def frameTwoRow : OpenClaim := { program := "ytnbagbenpojpnaadoor", sum := "3b4b5b151636073f3f473f91b8c5e435c959bc5926c5d148ad8d9ae7945a3b51", func := "pith/pithlaw3.FrameTwo", spec := "frameTwo", named := ["pith/crc.table"], apart := false, laid := [("pith/crc.table", laid_pith_crc_table)] }
def FrameTwoSaid : Prop := frameTwoRow.holds Tryd.pinned (OpenSpec.ofChange frameTwoSpec)

/-- ITS FALSE NEIGHBOUR: 'it returns false'. Refute it at one input. -/
def frameTwoWrong : ChangeSpec := { name := "frameTwo", fn := fun _ => fun
  | [d1, d2] => { results := [.lit (.bool false)], args := [d1, d2] }
  | _ => none }
def FrameTwoWrongFalsely : Prop := frameTwoRow.holds Tryd.pinned (OpenSpec.ofChange frameTwoWrong)

/- THE SECOND FORM. 'bulk': how many values and letters a reading holds, each counted each time it is reached (what is shared counts as often as it is met; a slice's spare places count too). A statement '..UptoSaid' is the law's where the arguments, and the package variables that the reading takes, are together of bulk at most 1048576: NARROWER than '..Said'. Prove '..Said' where nothing that the law and all that it calls make is longer than what came in: it says more and counts as full. Else prove '..UptoSaid'. A law counts once. -/
mutual
def uptoBulk {H : Type} : DataW H → Nat
  | .lit (.string bytes) => bytes.length + 1
  | .lit _ => 1
  | .nil => 1
  | .ptr d => uptoBulk d + 1
  | .slice elems spare => uptoBulkAll elems + uptoBulkAll spare + 1
  | .agg parts => uptoBulkAll parts + 1
  | .iface _ d => uptoBulk d + 1
  | .map entries => uptoBulkEntries entries + 1
  | .held _ => 1
def uptoBulkAll {H : Type} : List (DataW H) → Nat
  | [] => 0
  | d :: r => uptoBulk d + uptoBulkAll r
def uptoBulkEntries {H : Type} : List (Lit × DataW H) → Nat
  | [] => 0
  | x :: r => uptoBulkEntry x + uptoBulkEntries r
def uptoBulkEntry {H : Type} : Lit × DataW H → Nat
  | (.string bytes, d) => bytes.length + uptoBulk d + 1
  | (_, d) => uptoBulk d + 1
 end
def uptoSmall : (H : Type) → List (DataW H) → Bool := fun _ ds => decide (uptoBulkAll ds ≤ 1048576)
def OpenSpec.upto (s : _root_.Go.ChangeSpec) : _root_.Go.OpenSpec := { _root_.Go.OpenSpec.ofChange s with cond := some uptoSmall }

/-- 'pithlaw3.FrameEncodes', WHERE WHAT IT READS IS OF BULK AT MOST 1048576: true; the input reads as it did. -/
def frameEncodesUptoRow : OpenClaim := { program := "ytnbagbenpojpnaadoor", sum := "3b4b5b151636073f3f473f91b8c5e435c959bc5926c5d148ad8d9ae7945a3b51", func := "pith/pithlaw3.FrameEncodes", spec := "frameEncodes", named := ["pith/crc.table"], apart := false, laid := [("pith/crc.table", laid_pith_crc_table)], narrowed := true }
def FrameEncodesUptoSaid : Prop := frameEncodesUptoRow.holds Tryd.pinned (OpenSpec.upto frameEncodesSpec)

/-- 'pithlaw3.FrameDecodes', WHERE WHAT IT READS IS OF BULK AT MOST 1048576: true; the input reads as it did. -/
def frameDecodesUptoRow : OpenClaim := { program := "ytnbagbenpojpnaadoor", sum := "3b4b5b151636073f3f473f91b8c5e435c959bc5926c5d148ad8d9ae7945a3b51", func := "pith/pithlaw3.FrameDecodes", spec := "frameDecodes", named := ["pith/crc.table"], apart := false, laid := [("pith/crc.table", laid_pith_crc_table)], narrowed := true }
def FrameDecodesUptoSaid : Prop := frameDecodesUptoRow.holds Tryd.pinned (OpenSpec.upto frameDecodesSpec)

/-- 'pithlaw3.FrameRows', WHERE WHAT IT READS IS OF BULK AT MOST 1048576: true; the input reads as it did. -/
def frameRowsUptoRow : OpenClaim := { program := "ytnbagbenpojpnaadoor", sum := "3b4b5b151636073f3f473f91b8c5e435c959bc5926c5d148ad8d9ae7945a3b51", func := "pith/pithlaw3.FrameRows", spec := "frameRows", named := ["pith/crc.table"], apart := false, laid := [("pith/crc.table", laid_pith_crc_table)], narrowed := true }
def FrameRowsUptoSaid : Prop := frameRowsUptoRow.holds Tryd.pinned (OpenSpec.upto frameRowsSpec)

/-- 'pithlaw3.FrameLaid', WHERE WHAT IT READS IS OF BULK AT MOST 1048576: true; the input reads as it did. -/
def frameLaidUptoRow : OpenClaim := { program := "ytnbagbenpojpnaadoor", sum := "3b4b5b151636073f3f473f91b8c5e435c959bc5926c5d148ad8d9ae7945a3b51", func := "pith/pithlaw3.FrameLaid", spec := "frameLaid", named := ["pith/crc.table"], apart := false, laid := [("pith/crc.table", laid_pith_crc_table)], narrowed := true }
def FrameLaidUptoSaid : Prop := frameLaidUptoRow.holds Tryd.pinned (OpenSpec.upto frameLaidSpec)

/-- 'pithlaw3.FrameBack', WHERE WHAT IT READS IS OF BULK AT MOST 1048576: true; the input reads as it did. -/
def frameBackUptoRow : OpenClaim := { program := "ytnbagbenpojpnaadoor", sum := "3b4b5b151636073f3f473f91b8c5e435c959bc5926c5d148ad8d9ae7945a3b51", func := "pith/pithlaw3.FrameBack", spec := "frameBack", named := ["pith/crc.table"], apart := false, laid := [("pith/crc.table", laid_pith_crc_table)], narrowed := true }
def FrameBackUptoSaid : Prop := frameBackUptoRow.holds Tryd.pinned (OpenSpec.upto frameBackSpec)

/-- 'pithlaw3.FrameBursts', WHERE WHAT IT READS IS OF BULK AT MOST 1048576: true; the input reads as it did. -/
def frameBurstsUptoRow : OpenClaim := { program := "ytnbagbenpojpnaadoor", sum := "3b4b5b151636073f3f473f91b8c5e435c959bc5926c5d148ad8d9ae7945a3b51", func := "pith/pithlaw3.FrameBursts", spec := "frameBursts", named := ["pith/crc.table"], apart := false, laid := [("pith/crc.table", laid_pith_crc_table)], narrowed := true }
def FrameBurstsUptoSaid : Prop := frameBurstsUptoRow.holds Tryd.pinned (OpenSpec.upto frameBurstsSpec)

/-- 'pithlaw3.FrameCuts', WHERE WHAT IT READS IS OF BULK AT MOST 1048576: true; the input reads as it did. -/
def frameCutsUptoRow : OpenClaim := { program := "ytnbagbenpojpnaadoor", sum := "3b4b5b151636073f3f473f91b8c5e435c959bc5926c5d148ad8d9ae7945a3b51", func := "pith/pithlaw3.FrameCuts", spec := "frameCuts", named := ["pith/crc.table"], apart := false, laid := [("pith/crc.table", laid_pith_crc_table)], narrowed := true }
def FrameCutsUptoSaid : Prop := frameCutsUptoRow.holds Tryd.pinned (OpenSpec.upto frameCutsSpec)

/-- 'pithlaw3.FrameTwo', WHERE WHAT IT READS IS OF BULK AT MOST 1048576: true; the input reads as it did. -/
def frameTwoUptoRow : OpenClaim := { program := "ytnbagbenpojpnaadoor", sum := "3b4b5b151636073f3f473f91b8c5e435c959bc5926c5d148ad8d9ae7945a3b51", func := "pith/pithlaw3.FrameTwo", spec := "frameTwo", named := ["pith/crc.table"], apart := false, laid := [("pith/crc.table", laid_pith_crc_table)], narrowed := true }
def FrameTwoUptoSaid : Prop := frameTwoUptoRow.holds Tryd.pinned (OpenSpec.upto frameTwoSpec)

end Rows
end Go.Proofs.YtnbagbenpojpnaaDoor
