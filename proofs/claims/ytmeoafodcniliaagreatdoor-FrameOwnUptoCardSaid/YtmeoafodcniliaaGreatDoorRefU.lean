/- pithref2: step, Update, Sum -/
import Derived.Test.YtmeoafodcniliaaGreatDoorProg
import Derived.Test.YtmeoafodcniliaaGreatDoorWords
import Derived.Test.YtmeoafodcniliaaGreatDoorCrc
namespace Go.Proofs.YtmeoafodcniliaaGreatDoor
open Go.RowKit
set_option linter.unusedSimpArgs false
set_option linter.unusedVariables false
theorem n32_xPl (x : BitVec 32) : bits .xor .u32 (n32 x : Int) 79764919 = (n32 (x ^^^ Crc.Pl) : Int) := n32_xorPl x
attribute [local go_sem ↓] n32_shl n32_shr n32_subAll n32_mul2 n32_mulTop
attribute [local go_sem] u32_signed n32_xor n32_and n32_and1 n32_not n32_xPl n8to32

theorem rstep_calls (r : BitVec 32) (w : World) :
    Calls Tryz.prog 240 #[.int .u32 (n32 r)] w fun e w' => e = .returned (.int .u32 (n32 (Crc.step r))) ∧ w = w' := by
  by_cases h : r.msb = true
  · have h1 : decide ((2147483648 : Int) ≤ (n32 r : Int)) = true := by
      have := BitVec.msb_eq_true_iff_two_mul_ge.1 h; rw [decide_eq_true_eq]; unfold n32; omega
    have Hs := Lib.hid (show Crc.step r = r <<< 1 ^^^ Crc.Pl by unfold Crc.step; rw [if_pos h])
    clear h
    go_enter Tryz.func240, Tryz.ntmps240
    go_wp2
    rw [Hs.out]
    go_ret
    exact ⟨rfl, rfl⟩
  · have h1 : decide ((2147483648 : Int) ≤ (n32 r : Int)) = false := by
      have := BitVec.msb_eq_false_iff_two_mul_lt.1 (by simpa using h); rw [decide_eq_false_iff_not]; unfold n32; omega
    have Hs := Lib.hid (show Crc.step r = r <<< 1 by unfold Crc.step; rw [if_neg h])
    clear h
    go_enter Tryz.func240, Tryz.ntmps240
    go_wp2
    rw [Hs.out]
    go_ret
    exact ⟨rfl, rfl⟩

def upd8 (r : BitVec 32) (k : Nat) : BitVec 32 := Crc.steps k r
set_option maxHeartbeats 400000 in
theorem rupdate_calls (c : BitVec 32) (A : Option Addr) (n cap B : Nat) (bs : List (BitVec 8)) (w : World) (hn : n = bs.length) (hm : n ≤ maxLen) (hr : Rd w B A (bs.map V8)) :
    Calls Tryz.prog 175 #[.int .u32 (n32 c), .slice A n cap] w fun e w' => e = .returned (.int .u32 (n32 (Crc.update c bs))) ∧ w = w' := by
  unfold maxLen at hm
  have Hr := Lib.hid hr; clear hr
  have Hn := Lib.hid hn; clear hn
  go_enter Tryz.func175, Tryz.ntmps175
  go_wp2
  go_loop [5, 6, 7] (fun x i _ => ∃ k : Nat, k ≤ n ∧ i = .int .i64 k ∧ x = .int .u32 (n32 (Crc.run (~~~ c) (bs.take k)))) (fun _ i _ => n - (intOf i).toNat)
  case atStart => exact ⟨0, Nat.zero_le _, rfl, rfl⟩
  case round =>
    obtain ⟨k, hk, rfl, rfl⟩ := hrel
    by_cases hlt : k < n
    · obtain ⟨b, off, rfl, hb, hc⟩ := Hr.out.at_ (k := k) (by rw [List.length_map]; have := Hn.out; omega)
      obtain ⟨y, hy⟩ : ∃ y, y = bs[k]'(by have := Hn.out; omega) := ⟨_, rfl⟩
      rw [List.getElem_map, ← hy] at hc
      have hs : Crc.run (~~~ c) (bs.take (k + 1)) = Crc.byte (Crc.run (~~~ c) (bs.take k)) y := by
        have : k < bs.length := by have := Hn.out; omega
        rw [List.take_succ_eq_append_getElem this, ← hy]
        simp [Crc.run]
      have Hs := Lib.hid hs; clear hs hy
      generalize hx : Crc.run (~~~ c) (bs.take k) = x at Hs ⊢
      clear hx
      go_wp2
      go_loop [5, 7] (fun r j => ∃ k : Nat, k ≤ 8 ∧ j = .int .i64 k ∧ r = .int .u32 (n32 (Crc.steps k (x ^^^ BitVec.setWidth 32 y <<< 24)))) (fun _ j => 8 - (intOf j).toNat)
      case atStart => exact ⟨0, Nat.zero_le _, rfl, rfl⟩
      case round =>
        obtain ⟨j, hj, rfl, rfl⟩ := hrel
        by_cases hj8 : j < 8
        · have hj8' : (j : Int) < 8 := by omega
          have Ht := Lib.hid (Crc.steps_succ' j (x ^^^ BitVec.setWidth 32 y <<< 24))
          go_wp2_with (go_at_call 240; refine (rstep_calls _ _).mono ?_; rintro e w' ⟨rfl, rfl⟩)
          go_round
          case rel => exact ⟨j + 1, by omega, by go_num, by rw [Ht.out]⟩
          case measure => simp [intOf]; omega
        · obtain rfl : j = 8 := by omega
          go_wp2
          go_round
          case rel => exact ⟨k + 1, by omega, by go_num, by rw [Hs.out]; rfl⟩
          case measure => simp [intOf]; omega
    · go_wp2
      go_ret
      have : k = n := by omega
      subst this
      have e : bs.take k = bs := by rw [Hn.out]; exact List.take_length
      rw [e]
      exact ⟨rfl, rfl⟩
theorem rsum_calls (A : Option Addr) (n cap B : Nat) (bs : List (BitVec 8)) (w : World) (hn : n = bs.length) (hm : n ≤ maxLen) (hr : Rd w B A (bs.map V8)) :
    Calls Tryz.prog 80 #[.slice A n cap] w fun e w' => e = .returned (.int .u32 (n32 (Crc.sum bs))) ∧ w = w' := by
  have h0 : Calls Tryz.prog 175 #[.int .u32 0, .slice A n cap] w fun e w' => e = .returned (.int .u32 (n32 (Crc.sum bs))) ∧ w = w' :=
    rupdate_calls 0 A n cap B bs w hn hm hr
  clear hr
  have Hn := Lib.hid hn; clear hn
  go_enter Tryz.func80, Tryz.ntmps80
  go_wp2_with (go_at_call 175; refine h0.mono ?_; rintro e w' ⟨rfl, rfl⟩)
  go_ret
  exact ⟨rfl, rfl⟩
end Go.Proofs.YtmeoafodcniliaaGreatDoor
