/- pithlaw3.turned -/
import Derived.Test.YtnbagbenpojpnaaDoorFrameB
namespace Go.Proofs.YtnbagbenpojpnaaDoor
open Go.RowKit
open Crc (flipBit turnF turnF_length flipBit_length)
set_option linter.unusedSimpArgs false
set_option linter.unusedVariables false
theorem n32_or31 (x : BitVec 32) : bits .or .u32 (n32 x : Int) 2147483648 = (n32 (x ||| 2147483648#32) : Int) := by
  show IntKind.u32.wrap ((BitVec.ofInt 32 (x.toNat : Int) ||| BitVec.ofInt 32 2147483648).toNat : Int) = _
  rw [ofInt_toNat, show BitVec.ofInt 32 2147483648 = 2147483648#32 by decide, wrap_u32_toNat]; rfl
theorem or31_get (x : BitVec 32) : (x ||| 2147483648#32).getLsbD 31 = true := by
  rw [BitVec.getLsbD_or, show (2147483648#32).getLsbD 31 = true by decide, Bool.or_true]
theorem n32_bit (x : BitVec 32) (i : Nat) : (n32 (x >>> i &&& 1#32) : Int) = if x.getLsbD i = true then 1 else 0 := by
  have h := n32_mod2 x i
  have e : (n32 (x >>> i &&& 1#32) : Int) = (n32 (x >>> i) : Int) % 2 := by
    unfold n32; rw [BitVec.toNat_and]; show ((_ &&& 1 : Nat) : Int) = _; rw [Nat.and_one_is_mod]; omega
  rw [e, h]
theorem n8_shl1 (yk : IntKind) (y : Int) (h : 0 ≤ y) (h7 : y ≤ 7) : Op.shift .shl .u8 1 yk y = pure (.int .u8 (n8 (128#8 >>> (7 - y.toNat)) : Int)) := by
  rw [shift_shl_any _ _ _ _ h]
  congr 2
  have : y = 0 ∨ y = 1 ∨ y = 2 ∨ y = 3 ∨ y = 4 ∨ y = 5 ∨ y = 6 ∨ y = 7 := by omega
  rcases this with rfl | rfl | rfl | rfl | rfl | rfl | rfl | rfl <;> rfl
theorem and_bit (x : BitVec 32) (i : Nat) : bits .and .u32 ((n32 x : Int) / 2 ^ i) 1 = if x.getLsbD i = true then 1 else 0 := by
  have e : (n32 x : Int) / 2 ^ i = (n32 (x >>> i) : Int) := by
    unfold n32; rw [BitVec.toNat_ushiftRight, Nat.shiftRight_eq_div_pow]; simp
  rw [e, n32_and1, n32_bit]
theorem xor_bit (y : BitVec 8) (t : Nat) (ht : t < 8) : bits .xor .u8 (n8 y : Int) (2 ^ (7 - t) % 256) = (n8 (y ^^^ 128#8 >>> t) : Int) := by
  have e : ((2 : Int) ^ (7 - t) % 256) = (n8 (128#8 >>> t) : Int) := by
    have : t = 0 ∨ t = 1 ∨ t = 2 ∨ t = 3 ∨ t = 4 ∨ t = 5 ∨ t = 6 ∨ t = 7 := by omega
    rcases this with rfl | rfl | rfl | rfl | rfl | rfl | rfl | rfl <;> rfl
  rw [e, n8_xor]
attribute [local go_sem] n32_or31
def TurnLoop (w0 wr : World) (base : Nat) (A1 : Option Addr) (n cap1 : Nat) (l : List (BitVec 8)) : Prop :=
  wr.ownsRow base 5 1 (.slice A1 n cap1) n (l.map V8) ∧ Below base w0 wr ∧ w0.heap.size ≤ wr.heap.size
set_option maxHeartbeats 2000000 in
theorem turn_calls (A : Option Addr) (n cap B a : Nat) (q p : BitVec 32) (bs : List (BitVec 8)) (w : World) (hn : n = bs.length) (hm : n ≤ 65540) (ha : a ≤ 1000000) (hnil : A = none → n = 0 ∧ cap = 0) (hB : B ≤ w.heap.size) (hr : Rd w B A (bs.map V8)) (hp : p = q ||| 2147483648#32) :
    Calls Tryd.prog 27 #[.slice A n cap, .int .i64 (a : Int), .int .u32 (n32 q)] w fun e w' => ∃ A' cap', e = .returned (.slice A' n cap') ∧
      w'.ownsRow w.heap.size 5 1 (.slice A' n cap') n ((turnF bs a p 32).1.map V8) ∧ Below w.heap.size w w' := by
  have HB := Lib.hid (bytes_calls A n cap B bs w hn (by omega) hnil hB hr)
  have Hn := Lib.hid hn; have Hp := Lib.hid hp; clear hr hn hnil hB hp
  go_enter Tryd.func27, Tryd.ntmps27
  go_wp2_with fail
  refine HB.out.mono ?_
  rintro e w1 ⟨A1, cap1, rfl, hown1, hb1⟩
  have Hown1 := Lib.hid hown1; have Hb1 := Lib.hid hb1
  have hs1 := hb1.size
  clear hown1 hb1 HB
  go_wp2_with fail
  rw [← Hp.out]
  go_loopw [8] (fun i wr => ∃ k : Nat, k ≤ 32 ∧ i = .int .i64 k ∧ TurnLoop w wr w.heap.size A1 n cap1 (turnF bs a p k).1) (fun i _ => 32 - (intOf i).toNat)
  case atStart => exact ⟨0, by omega, rfl, Hown1.out, Hb1.out, hs1⟩
  case round =>
    obtain ⟨k, hk, rfl, hown, hb, hs⟩ := hrel
    by_cases hlt : k < 32
    · have hlt' : (k : Int) < 32 := by omega
      have h1 : (31 - (k : Int)).toNat = 31 - k := by omega
      have h0 : (0 : Int) ≤ 31 - (k : Int) := by omega
      have hbit := and_bit p (31 - k)
      by_cases hin : a + k < 8 * n
      · have hin' : ((a : Int) + (k : Int)) / 8 < (n : Int) := by omega
        by_cases hpk : p.getLsbD (31 - k) = true
        · rw [if_pos hpk] at hbit
          have hTu : turnF bs a p (k + 1) = (flipBit (turnF bs a p k).1 (a + k), true) := by rw [turnF, if_pos ⟨hpk, by rw [← Hn.out]; exact hin⟩]
          have hl : (turnF bs a p k).1.length = n := by rw [turnF_length, ← Hn.out]
          obtain ⟨g, cap', rfl, hg1, hg2⟩ : ∃ g cap', A1 = some ⟨g, 0, none⟩ ∧ cap' = cap1 ∧ w.heap.size ≤ g := by
            rcases hown.2 with ⟨h, _⟩ | ⟨g, cap', cur, h, hb, _⟩
            · injection h with _ h _; omega
            · injection h with h1 h2 h3; exact ⟨g, cap', h1, h3.symm, hb⟩
          clear hg1
          generalize hL : (turnF bs a p k).1 = L at hown hTu hl
          have hj : (a + k) / 8 < L.length := by omega
          obtain ⟨y, hy⟩ : ∃ y, y = L[(a + k) / 8] := ⟨_, rfl⟩
          have hc := hown.cellAt ((a + k) / 8) (by omega)
          rw [List.getElem?_map, List.getElem?_eq_getElem hj, ← hy] at hc
          have hc : wr.cell? ⟨g, (a + k) / 8, none⟩ = some (V8 y) := hc
          have hf := hown.frozenAt ((a + k) / 8)
          have hidx0 : 0 ≤ ((a : Int) + (k : Int)) / 8 := by omega
          have hnat : (((a : Int) + (k : Int)) / 8).toNat = (a + k) / 8 := by omega
          have Hx := Lib.hid (xor_bit y ((a + k) % 8) (by omega))
          have hr0 : 0 ≤ 7 - ((a : Int) + (k : Int)) % 8 := by omega
          have hr7 : 7 - ((a : Int) + (k : Int)) % 8 ≤ 7 := by omega
          have hr1 : 7 - (7 - ((a : Int) + (k : Int)) % 8).toNat = (a + k) % 8 := by omega
          have HTu := Lib.hid hTu; have Hl := Lib.hid hl; have HL := Lib.hid hL; have Hy := Lib.hid hy
          have Hown := Lib.hid hown; have Hb := Lib.hid hb; have Hpk := Lib.hid hpk
          clear hTu hl hL hy hown hb hpk
          go_wp2_with fail
          rw [Hx.out]
          refine ⟨⟨k + 1, by omega, by congr 1, ?_, ?_, ?_⟩, by simp [intOf]; omega⟩
          · rw [HTu.out]
            have e : ((flipBit L (a + k)).map V8) = (L.map V8).set ((a + k) / 8) (V8 (y ^^^ 128#8 >>> ((a + k) % 8))) := by
              unfold flipBit; rw [List.map_set, Hy.out]; congr 3
              simp [List.getD, List.getElem?_eq_getElem hj]
            rw [e]
            exact (Hown.out.stored _ _).1
          · exact Hb.out.setCell hg2 _
          · simp [World.setCell]; exact hs
        · rw [if_neg hpk] at hbit
          have hTu : turnF bs a p (k + 1) = turnF bs a p k := by rw [turnF, if_neg (by intro h; exact hpk h.1)]
          have HTu := Lib.hid hTu
          have Hown := Lib.hid hown; have Hb := Lib.hid hb; have Hpk := Lib.hid hpk
          clear hTu hown hb hpk
          go_wp2_with fail
          exact ⟨⟨k + 1, by omega, by congr 1, by rw [HTu.out]; exact Hown.out, Hb.out, hs⟩, by simp [intOf]; omega⟩
      · have hin' : ¬ ((a : Int) + (k : Int)) / 8 < (n : Int) := by omega
        have hTu : turnF bs a p (k + 1) = turnF bs a p k := by rw [turnF, if_neg (by rw [← Hn.out]; omega)]
        have HTu := Lib.hid hTu
        have Hown := Lib.hid hown; have Hb := Lib.hid hb
        clear hTu hown hb hbit
        go_wp2_with fail
        exact ⟨⟨k + 1, by omega, by congr 1, by rw [HTu.out]; exact Hown.out, Hb.out, hs⟩, by simp [intOf]; omega⟩
    · obtain rfl : k = 32 := by omega
      have Hown := Lib.hid hown; have Hb := Lib.hid hb
      clear hown hb
      go_wp2_with fail
      go_ret
      exact ⟨A1, cap1, rfl, Hown.out, Hb.out⟩
end Go.Proofs.YtnbagbenpojpnaaDoor
