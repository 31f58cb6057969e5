/- pithlaw2: still; turned -/
import Derived.Test.YtcjedjknelgagaaDoorRoom
import Derived.Test.YtcjedjknelgagaaDoorJoin
import Derived.Test.YtcjedjknelgagaaDoorCrcLaws
namespace Go.Proofs.YtcjedjknelgagaaDoor
open Go.RowKit
open Crc (flipBit turnF turnF_length flipBit_length)
set_option linter.unusedSimpArgs false
set_option linter.unusedVariables false

set_option maxHeartbeats 400000 in
theorem still_calls (A A' : Option Addr) (n cap cap' B B' : Nat) (bs : List (BitVec 8)) (w : World) (hn : n = bs.length) (hm : n ≤ 65536) (hc : n + 3 ≤ cap) (hnil' : A' = none → n = 0)
    (hr : Rd w B A ((bs ++ [201#8, 202#8, 203#8]).map V8)) (hr' : Rd w B' A' (bs.map V8)) :
    Calls Tryd.prog 18 #[.slice A (n + 3) cap, .slice A' n cap'] w fun e w' => e = .returned (.bool true) ∧ w = w' := by
  obtain ⟨b, off, hA, hlt, hcx⟩ := hr n (V8 201#8) (by simp [hn])
  subst hA
  have hc0 : w.cell? ⟨b, off + n, none⟩ = some (.int .u8 201) := hcx
  clear hcx
  have hc1 : w.cell? ⟨b, off + (n + 1), none⟩ = some (.int .u8 202) := by
    obtain ⟨b', off', e, _, h⟩ := hr (n + 1) (V8 202#8) (by simp [hn]); injection e with e; injection e with e1 e2; subst e1 e2; exact h
  have hc2 : w.cell? ⟨b, off + (n + 2), none⟩ = some (.int .u8 203) := by
    obtain ⟨b', off', e, _, h⟩ := hr (n + 2) (V8 203#8) (by simp [hn]); injection e with e; injection e with e1 e2; subst e1 e2; exact h
  have hr1 : Rd w B (some ⟨b, off, none⟩) (bs.map V8) := fun k v hv => hr k v (by
    rw [List.map_append, List.getElem?_append_left (List.getElem?_eq_some_iff.1 hv).1]; exact hv)
  have HS := Lib.hid (same_calls (some ⟨b, off, none⟩) A' n cap n cap' B B' bs bs w hn hn (by intro h; cases h) hnil' hr1 hr')
  clear hr hr' hr1 hnil' hn
  go_enter Tryd.func18, Tryd.ntmps18
  go_wp2_with fail
  refine HS.out.mono ?_
  rintro e w' ⟨rfl, rfl⟩
  go_wp2
  go_ret
  exact ⟨rfl, rfl⟩

theorem n8_shr128 (yk : IntKind) (y : Int) (h : 0 ≤ y) : Op.shift .shr .u8 128 yk y = pure (.int .u8 (n8 (128#8 >>> y.toNat) : Int)) := n8_shr 128#8 yk y h
attribute [local go_sem ↓] n32_shl n32_shr n8_shr n8_shr128
attribute [local go_sem] u32_signed u8_signed n8_xor

def TurnLoop (w0 wr : World) (base : Nat) (A1 : Option Addr) (n cap1 : Nat) (l : List (BitVec 8)) : Prop :=
  wr.ownsRow base 5 1 (.slice A1 n cap1) n (l.map V8) ∧ Below base w0 wr ∧ w0.heap.size ≤ wr.heap.size

set_option maxHeartbeats 1000000 in
theorem turned_calls (A : Option Addr) (n cap B a : Nat) (p : BitVec 32) (bs : List (BitVec 8)) (w : World) (hn : n = bs.length) (hm : n ≤ 65540) (ha : a ≤ 1000000) (hnil : A = none → n = 0 ∧ cap = 0) (hB : B ≤ w.heap.size) (hr : Rd w B A (bs.map V8)) :
    Calls Tryd.prog 25 #[.slice A n cap, .int .i64 (a : Int), .int .u32 (n32 p)] w fun e w' => ∃ A' cap', e = .returned (.tuple #[.slice A' n cap', .bool (turnF bs a p 32).2]) ∧
      w'.ownsRow w.heap.size 5 1 (.slice A' n cap') n ((turnF bs a p 32).1.map V8) ∧ Below w.heap.size w w' := by
  have HB := Lib.hid (bytes_calls A n cap B bs w hn (by omega) hnil hB hr)
  have Hn := Lib.hid hn; clear hr hn hnil hB
  go_enter Tryd.func25, Tryd.ntmps25
  go_wp2_with fail
  refine HB.out.mono ?_
  rintro e w1 ⟨A1, cap1, rfl, hown1, hb1⟩
  have Hown1 := Lib.hid hown1; have Hb1 := Lib.hid hb1
  have hs1 := hb1.size
  clear hown1 hb1 HB
  go_wp2
  go_loopw [9, 10] (fun some i wr => ∃ k : Nat, k ≤ 32 ∧ i = .int .i64 k ∧ some = .bool (turnF bs a p k).2 ∧ TurnLoop w wr w.heap.size A1 n cap1 (turnF bs a p k).1) (fun _ i _ => 32 - (intOf i).toNat)
  case atStart => exact ⟨0, by omega, rfl, rfl, Hown1.out, Hb1.out, hs1⟩
  case round =>
    obtain ⟨k, hk, rfl, rfl, hown, hb, hs⟩ := hrel
    by_cases hlt : k < 32
    · have hlt' : (k : Int) < 32 := by omega
      have h1 : (31 - (k : Int)).toNat = 31 - k := by omega
      have h0 : (0 : Int) ≤ 31 - (k : Int) := by omega
      have hm := n32_tmod2 p (31 - k)
      by_cases hp : p.getLsbD (31 - k) = true
      · rw [if_pos hp] at hm
        by_cases hin : a + k < 8 * n
        · have hin' : (a : Int) + (k : Int) < 8 * (n : Int) := by omega
          have hTu : turnF bs a p (k + 1) = (flipBit (turnF bs a p k).1 (a + k), true) := by rw [turnF, if_pos ⟨hp, by rw [← Hn.out]; exact hin⟩]
          have hl : (turnF bs a p k).1.length = n := by rw [turnF_length, ← Hn.out]
          obtain ⟨g, cap', rfl, hg1, hg2⟩ : ∃ g cap', A1 = some ⟨g, 0, none⟩ ∧ cap' = cap1 ∧ w.heap.size ≤ g := by
            rcases hown.2 with ⟨h, _⟩ | ⟨g, cap', cur, h, hb, _⟩
            · injection h with _ h _; omega
            · injection h with h1 h2 h3; exact ⟨g, cap', h1, h3.symm, hb⟩
          clear hg1
          generalize hL : (turnF bs a p k).1 = L at hown hTu hl
          have hj : (a + k) / 8 < L.length := by omega
          obtain ⟨y, hy⟩ : ∃ y, y = L[(a + k) / 8] := ⟨_, rfl⟩
          have hc := hown.cellAt ((a + k) / 8) (by omega)
          rw [List.getElem?_map, List.getElem?_eq_getElem hj, ← hy] at hc
          have hc : wr.cell? ⟨g, (a + k) / 8, none⟩ = some (V8 y) := hc
          have hf := hown.frozenAt ((a + k) / 8)
          have hidx : ((a : Int) + (k : Int)) / 8 < (n : Int) := by omega
          have hidx0 : 0 ≤ ((a : Int) + (k : Int)) / 8 := by omega
          have hnat : (((a : Int) + (k : Int)) / 8).toNat = (a + k) / 8 := by omega
          have hr0 : 0 ≤ ((a : Int) + (k : Int)) % 8 := by omega
          have hr1 : (((a : Int) + (k : Int)) % 8).toNat = (a + k) % 8 := by omega
          have HTu := Lib.hid hTu; have Hl := Lib.hid hl; have HL := Lib.hid hL; have Hy := Lib.hid hy
          have Hown := Lib.hid hown; have Hb := Lib.hid hb; have Hp := Lib.hid hp
          clear hTu hl hL hy hown hb hp
          go_wp2
          go_roundw
          case rel =>
            refine ⟨k + 1, by omega, by go_num, by rw [HTu.out], ?_, ?_, ?_⟩
            · rw [HTu.out]
              have e : ((flipBit L (a + k)).map V8) = (L.map V8).set ((a + k) / 8) (V8 (y ^^^ 128#8 >>> ((a + k) % 8))) := by
                unfold flipBit; rw [List.map_set, Hy.out]; congr 3
                simp [List.getD, List.getElem?_eq_getElem hj]
              rw [e]
              exact (Hown.out.stored _ _).1
            · exact Hb.out.setCell hg2 _
            · simp [World.setCell]; exact hs
          case measure => simp [intOf]; omega
        · have hin' : 8 * (n : Int) ≤ (a : Int) + (k : Int) := by omega
          have hTu : turnF bs a p (k + 1) = turnF bs a p k := by rw [turnF, if_neg (by rw [← Hn.out]; omega)]
          have HTu := Lib.hid hTu
          have Hown := Lib.hid hown; have Hb := Lib.hid hb; have Hp := Lib.hid hp
          clear hTu hown hb hp
          go_wp2
          go_roundw
          case rel => exact ⟨k + 1, by omega, by go_num, by rw [HTu.out], by rw [HTu.out]; exact Hown.out, Hb.out, hs⟩
          case measure => simp [intOf]; omega
      · rw [if_neg hp] at hm
        have hTu : turnF bs a p (k + 1) = turnF bs a p k := by rw [turnF, if_neg (by intro h; exact hp h.1)]
        have HTu := Lib.hid hTu
        have Hown := Lib.hid hown; have Hb := Lib.hid hb; have Hp := Lib.hid hp
        clear hTu hown hb hp
        go_wp2
        go_roundw
        case rel => exact ⟨k + 1, by omega, by go_num, by rw [HTu.out], by rw [HTu.out]; exact Hown.out, Hb.out, hs⟩
        case measure => simp [intOf]; omega
    · obtain rfl : k = 32 := by omega
      have Hown := Lib.hid hown; have Hb := Lib.hid hb
      clear hown hb
      go_wp2
      go_ret2
      exact ⟨A1, cap1, rfl, Hown.out, Hb.out⟩
end Go.Proofs.YtcjedjknelgagaaDoor
