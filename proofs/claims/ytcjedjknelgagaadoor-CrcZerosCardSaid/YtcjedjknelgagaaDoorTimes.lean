/- matrix.times -/
import Derived.Test.YtcjedjknelgagaaDoorProg
import Derived.Test.YtcjedjknelgagaaDoorWords
import Derived.Test.YtcjedjknelgagaaDoorCrc
namespace Go.Proofs.YtcjedjknelgagaaDoor
open Go.RowKit
set_option linter.unusedSimpArgs false
set_option linter.unusedVariables false
attribute [local go_sem ↓] n32_shl n32_shr
attribute [local go_sem] u32_signed n32_xor n32_and n32_and1 n32_not

/-- The cells of a matrix whose rows are m. -/
def mat (m : Nat → BitVec 32) : Array Value := ((List.range 32).map fun i => V32 (m i)).toArray
theorem mat_at (m : Nat → BitVec 32) {k : Nat} (h : k < 32) : (mat m)[k]? = some (V32 (m k)) := by
  simp [mat, h]
theorem mat_size (m : Nat → BitVec 32) : (mat m).size = 32 := by simp [mat]

set_option maxHeartbeats 400000 in
theorem times_calls (cs : Array Value) (m : Nat → BitVec 32) (x : BitVec 32) (w : World) (hc : cs = mat m) :
    Calls Tryd.prog 30 #[.agg cs, .int .u32 (n32 x)] w fun e w' => e = .returned (.int .u32 (n32 (Crc.comb m x 32))) ∧ Below w.heap.size w w' := by
  have Hc := Lib.hid hc; clear hc
  go_enter Tryd.func30, Tryd.ntmps30
  go_wp2
  go_loop [1, 5, 6] (fun x' o i => ∃ k : Nat, k ≤ 32 ∧ i = .int .i64 k ∧ x' = .int .u32 (n32 (x >>> k)) ∧ o = .int .u32 (n32 (Crc.comb m x k))) (fun _ _ i => 32 - (intOf i).toNat)
  case atStart => exact ⟨0, by omega, rfl, by simp, rfl⟩
  case round =>
    obtain ⟨k, hk, rfl, rfl, rfl⟩ := hrel
    by_cases h : x >>> k = 0
    · have h0 := n32_eq0 h
      have Hx := Lib.hid h; clear h
      go_wp2
      go_ret
      exact ⟨by rw [Crc.comb_done m x k hk Hx.out]; rfl, (Below.refl _ _).alloc (Nat.le_refl _) _⟩
    · have h0 := n32_ne0 h
      have hlt := Crc.shr_ne h
      have hlt' : (k : Int) < 32 := by omega
      clear h
      have hcell : cs[k]? = some (V32 (m k)) := by rw [Hc.out]; exact mat_at m hlt
      have Hs := Lib.hid (Crc.comb_succ m x k)
      have Hs2 := Lib.hid (BitVec.shiftRight_add x k 1)
      by_cases hb : x >>> k &&& 1#32 = 0
      · have h1 := n32_eq0 hb
        have Hb := Lib.hid hb; clear hb
        go_wp2
        go_round
        case rel => exact ⟨k + 1, by omega, by go_num, by rw [Hs2.out], by rw [Hs.out, if_neg (not_not_intro Hb.out)]; simp⟩
        case measure => simp [intOf]; omega
      · have h1 := n32_ne0 hb
        have Hb := Lib.hid hb; clear hb
        go_wp2
        go_round
        case rel => exact ⟨k + 1, by omega, by go_num, by rw [Hs2.out], by rw [Hs.out, if_pos Hb.out]⟩
        case measure => simp [intOf]; omega
end Go.Proofs.YtcjedjknelgagaaDoor
