/- Items that came in, opened -/
import Derived.Test.YtkohakogknodeaaLift
import Derived.Test.YtkohakogknodeaaVItem
import Derived.Lib.SmallJoins
namespace Go.Proofs.Ytkohakogknodeaa
open Go.ChangeShapes Go.WideShapes Go.ChangeAt Go.RowKit
set_option linter.unusedSimpArgs false
set_option linter.unusedVariables false
theorem open_item {H : Type} {enc : TypeId × Value → H} {W : World} {v : Value} {d : DataW H} {p : List MemPlace} {base b0 : Nat} {sp : Nat → Bool} {held : Bool} {r : Reach}
    (hv : Value.okWide Try.prog W r b0 47 v) (h : DataW.Trod enc Try.prog W base sp held 47 v d p) : ∃ X F M A n cap zs, v = VT X F M A n cap ∧ InI W A n cap zs := by
  obtain ⟨c0, c1, c2, c3, y0, y1, y2, y3, m, rfl, rfl, rfl, hy0, hy1, hy2, hy3⟩ := Joins.open_agg4 Try.underlying47 (by kernel_rfl) (by kernel_rfl) hv h
  obtain ⟨X, hX, _, _⟩ := DataW.trod_int (k := .i64) (by kernel_rfl) hy0
  obtain rfl : c0 = .int .i64 X := by simpa using hX
  obtain ⟨F, hF, _, _⟩ := DataW.trod_int (k := .i64) (by kernel_rfl) hy1
  obtain rfl : c1 = .int .i64 F := by simpa using hF
  obtain ⟨M, hM, _⟩ := DataW.trod_bool (by kernel_rfl) hy2
  obtain rfl : c2 = .bool M := by simpa using hM
  have hs : ∃ A n cap, c3 = .slice A n cap := by
    rcases open_ints (t := 29) descInts descInt (by kernel_rfl) hy3 with ⟨hcs, _⟩ | ⟨x, l, c, zs, hcs, _⟩
    · exact ⟨none, 0, 0, by simpa using hcs⟩
    · exact ⟨some x, l, c, by simpa using hcs⟩
  obtain ⟨A, n, cap, rfl⟩ := hs
  obtain ⟨zs, hb⟩ := open_i64s (A := A) (n := n) (cap := cap) (d := y3.1) (p := y3.2) (enc := enc) (W := W) (base := base) (sp := sp) (held := held) ⟨m, hy3⟩
  exact ⟨X, F, M, A, n, cap, zs, rfl, hb⟩
end Go.Proofs.Ytkohakogknodeaa
