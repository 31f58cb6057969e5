/- pithref2: step, times, Update, Sum, Join -/
import Derived.Test.YtcjedjknelgagaaDoorProg
import Derived.Test.YtcjedjknelgagaaDoorWords
import Derived.Test.YtcjedjknelgagaaDoorCrc
namespace Go.Proofs.YtcjedjknelgagaaDoor
open Go.RowKit
set_option linter.unusedSimpArgs false
set_option linter.unusedVariables false
theorem n32_xPl (x : BitVec 32) : bits .xor .u32 (n32 x : Int) 79764919 = (n32 (x ^^^ Crc.Pl) : Int) := n32_xorPl x
attribute [local go_sem ↓] n32_shl n32_shr n32_subAll n32_mul2 n32_mulTop
attribute [local go_sem] u32_signed n32_xor n32_and n32_and1 n32_not n32_xPl n8to32

theorem rstep_calls (r : BitVec 32) (w : World) :
    Calls Tryd.prog 27 #[.int .u32 (n32 r)] w fun e w' => e = .returned (.int .u32 (n32 (Crc.step r))) ∧ w = w' := by
  by_cases h : r.msb = true
  · have h1 : decide ((2147483648 : Int) ≤ (n32 r : Int)) = true := by
      have := BitVec.msb_eq_true_iff_two_mul_ge.1 h; rw [decide_eq_true_eq]; unfold n32; omega
    have Hs := Lib.hid (show Crc.step r = r <<< 1 ^^^ Crc.Pl by unfold Crc.step; rw [if_pos h])
    clear h
    go_enter Tryd.func27, Tryd.ntmps27
    go_wp2
    rw [Hs.out]
    go_ret
    exact ⟨rfl, rfl⟩
  · have h1 : decide ((2147483648 : Int) ≤ (n32 r : Int)) = false := by
      have := BitVec.msb_eq_false_iff_two_mul_lt.1 (by simpa using h); rw [decide_eq_false_iff_not]; unfold n32; omega
    have Hs := Lib.hid (show Crc.step r = r <<< 1 by unfold Crc.step; rw [if_neg h])
    clear h
    go_enter Tryd.func27, Tryd.ntmps27
    go_wp2
    rw [Hs.out]
    go_ret
    exact ⟨rfl, rfl⟩

set_option maxHeartbeats 400000 in
theorem rtimes_calls (a b : BitVec 32) (w : World) :
    Calls Tryd.prog 31 #[.int .u32 (n32 a), .int .u32 (n32 b)] w fun e w' => e = .returned (.int .u32 (n32 (Crc.mul a b))) ∧ w = w' := by
  go_enter Tryd.func31, Tryd.ntmps31
  go_wp2
  go_loop [5, 6] (fun r i => ∃ k : Nat, k ≤ 32 ∧ i = .int .i64 (31 - k) ∧ r = .int .u32 (n32 (Crc.horner a b k))) (fun _ i => (intOf i + 1).toNat)
  case atStart => exact ⟨0, by omega, rfl, rfl⟩
  case round =>
    obtain ⟨k, hk, rfl, rfl⟩ := hrel
    by_cases hlt : k < 32
    · have h0 : (0 : Int) ≤ 31 - (k : Int) := by omega
      have h1 : (31 - (k : Int)).toNat = 31 - k := by omega
      have hm := n32_mod2 b (31 - k)
      have Hs := Lib.hid (Crc.horner_succ a b k)
      by_cases hb : b.getLsbD (31 - k) = true
      · rw [if_pos hb] at hm
        have Hb := Lib.hid hb; clear hb
        go_wp2_with (go_at_call 27; refine (rstep_calls _ _).mono ?_; rintro e w' ⟨rfl, rfl⟩)
        go_round
        case rel => exact ⟨k + 1, by omega, by congr 1; omega, by rw [Hs.out, if_pos Hb.out]⟩
        case measure => simp [intOf]; omega
      · rw [if_neg hb] at hm
        have Hb := Lib.hid hb; clear hb
        go_wp2_with (go_at_call 27; refine (rstep_calls _ _).mono ?_; rintro e w' ⟨rfl, rfl⟩)
        go_round
        case rel => exact ⟨k + 1, by omega, by congr 1; omega, by rw [Hs.out, if_neg Hb.out]; simp⟩
        case measure => simp [intOf]; omega
    · obtain rfl : k = 32 := by omega
      go_wp2
      go_ret
      exact ⟨rfl, rfl⟩

set_option maxHeartbeats 400000 in
theorem rjoin_calls (a b : BitVec 32) (n : Int) (w : World) (hn : -9223372036854775808 ≤ n ∧ n ≤ 9223372036854775807) :
    Calls Tryd.prog 23 #[.int .u32 (n32 a), .int .u32 (n32 b), .int .i64 n] w fun e w' => e = .returned (.int .u32 (n32 (Crc.join a b n))) ∧ w = w' := by
  obtain ⟨hn1, hn2⟩ := hn
  go_enter Tryd.func23, Tryd.ntmps23
  go_wp2_with fail
  go_loop [2, 7, 8] (fun n' many eight => ∃ k : Nat, n' = .int .i64 (n / 2 ^ k) ∧ many = .int .u32 (n32 (Crc.steps (8 * (n.toNat % 2 ^ k)) 1#32)) ∧ eight = .int .u32 (n32 (Crc.steps (8 * 2 ^ k) 1#32))) (fun n' _ _ => (intOf n').toNat)
  case atStart => exact ⟨0, by simp, by rw [Nat.mod_one]; rfl, rfl⟩
  case round =>
    obtain ⟨k, rfl, rfl, rfl⟩ := hrel
    have hd1 := Crc.div_bounds n k hn1 hn2
    obtain ⟨N, hN⟩ : ∃ N, N = n / 2 ^ k := ⟨_, rfl⟩
    rw [← hN] at hd1 ⊢
    obtain ⟨hd1, hd2⟩ := hd1
    by_cases hlt : 0 < N
    · have HN := Lib.hid hN; clear hN
      have hN0 : 0 ≤ N := by omega
      by_cases hodd : N % 2 = 1
      · go_wp2_with fail
        refine (rtimes_calls _ _ _).mono ?_
        rintro e w' ⟨rfl, rfl⟩
        go_wp2_with fail
        refine (rtimes_calls _ _ _).mono ?_
        rintro e w' ⟨rfl, rfl⟩
        go_wp2_with fail
        go_round
        case rel =>
          refine ⟨k + 1, ?_, ?_, ?_⟩
          · rw [HN.out, Crc.div_div2]
          · rw [Crc.mul_steps, ← Crc.steps_add, Crc.mod_odd n k (by rw [← HN.out]; exact hodd) (by rw [← HN.out]; exact hlt)]
          · rw [Crc.mul_steps, ← Crc.steps_add, Nat.pow_succ, ← Nat.mul_add, Nat.mul_two]
        case measure => simp [intOf]; omega
      · have Ho := Lib.hid hodd
        have hev : N % 2 = 0 := by omega
        clear hodd
        go_wp2_with fail
        refine (rtimes_calls _ _ _).mono ?_
        rintro e w' ⟨rfl, rfl⟩
        go_wp2_with fail
        go_round
        case rel =>
          refine ⟨k + 1, ?_, ?_, ?_⟩
          · rw [HN.out, Crc.div_div2]
          · rw [Crc.mod_even n k (by rw [← HN.out]; exact hev) (by rw [← HN.out]; exact hlt)]
          · rw [Crc.mul_steps, ← Crc.steps_add, Nat.pow_succ, ← Nat.mul_add, Nat.mul_two]
        case measure => simp [intOf]; omega
    · have HN := Lib.hid hN; clear hN
      go_wp2_with fail
      refine (rtimes_calls _ _ _).mono ?_
      rintro e w' ⟨rfl, rfl⟩
      go_wp2_with fail
      go_ret
      refine ⟨?_, rfl⟩
      have : n.toNat % 2 ^ k = n.toNat := Crc.mod_all n k (by rw [← HN.out]; omega)
      rw [this, Crc.mul_steps]; rfl

def upd8 (r : BitVec 32) (k : Nat) : BitVec 32 := Crc.steps k r
set_option maxHeartbeats 400000 in
theorem rupdate_calls (c : BitVec 32) (A : Option Addr) (n cap B : Nat) (bs : List (BitVec 8)) (w : World) (hn : n = bs.length) (hm : n ≤ maxLen) (hr : Rd w B A (bs.map V8)) :
    Calls Tryd.prog 21 #[.int .u32 (n32 c), .slice A n cap] w fun e w' => e = .returned (.int .u32 (n32 (Crc.update c bs))) ∧ w = w' := by
  unfold maxLen at hm
  have Hr := Lib.hid hr; clear hr
  have Hn := Lib.hid hn; clear hn
  go_enter Tryd.func21, Tryd.ntmps21
  go_wp2
  go_loop [5, 6, 7] (fun x i _ => ∃ k : Nat, k ≤ n ∧ i = .int .i64 k ∧ x = .int .u32 (n32 (Crc.run (~~~ c) (bs.take k)))) (fun _ i _ => n - (intOf i).toNat)
  case atStart => exact ⟨0, Nat.zero_le _, rfl, rfl⟩
  case round =>
    obtain ⟨k, hk, rfl, rfl⟩ := hrel
    by_cases hlt : k < n
    · obtain ⟨b, off, rfl, hb, hc⟩ := Hr.out.at_ (k := k) (by rw [List.length_map]; have := Hn.out; omega)
      obtain ⟨y, hy⟩ : ∃ y, y = bs[k]'(by have := Hn.out; omega) := ⟨_, rfl⟩
      rw [List.getElem_map, ← hy] at hc
      have hs : Crc.run (~~~ c) (bs.take (k + 1)) = Crc.byte (Crc.run (~~~ c) (bs.take k)) y := by
        have : k < bs.length := by have := Hn.out; omega
        rw [List.take_succ_eq_append_getElem this, ← hy]
        simp [Crc.run]
      have Hs := Lib.hid hs; clear hs hy
      generalize hx : Crc.run (~~~ c) (bs.take k) = x at Hs ⊢
      clear hx
      go_wp2
      go_loop [5, 7] (fun r j => ∃ k : Nat, k ≤ 8 ∧ j = .int .i64 k ∧ r = .int .u32 (n32 (Crc.steps k (x ^^^ BitVec.setWidth 32 y <<< 24)))) (fun _ j => 8 - (intOf j).toNat)
      case atStart => exact ⟨0, Nat.zero_le _, rfl, rfl⟩
      case round =>
        obtain ⟨j, hj, rfl, rfl⟩ := hrel
        by_cases hj8 : j < 8
        · have hj8' : (j : Int) < 8 := by omega
          have Ht := Lib.hid (Crc.steps_succ' j (x ^^^ BitVec.setWidth 32 y <<< 24))
          go_wp2_with (go_at_call 27; refine (rstep_calls _ _).mono ?_; rintro e w' ⟨rfl, rfl⟩)
          go_round
          case rel => exact ⟨j + 1, by omega, by go_num, by rw [Ht.out]⟩
          case measure => simp [intOf]; omega
        · obtain rfl : j = 8 := by omega
          go_wp2
          go_round
          case rel => exact ⟨k + 1, by omega, by go_num, by rw [Hs.out]; rfl⟩
          case measure => simp [intOf]; omega
    · go_wp2
      go_ret
      have : k = n := by omega
      subst this
      have e : bs.take k = bs := by rw [Hn.out]; exact List.take_length
      rw [e]
      exact ⟨rfl, rfl⟩
theorem rsum_calls (A : Option Addr) (n cap B : Nat) (bs : List (BitVec 8)) (w : World) (hn : n = bs.length) (hm : n ≤ maxLen) (hr : Rd w B A (bs.map V8)) :
    Calls Tryd.prog 17 #[.slice A n cap] w fun e w' => e = .returned (.int .u32 (n32 (Crc.sum bs))) ∧ w = w' := by
  have h0 : Calls Tryd.prog 21 #[.int .u32 0, .slice A n cap] w fun e w' => e = .returned (.int .u32 (n32 (Crc.sum bs))) ∧ w = w' :=
    rupdate_calls 0 A n cap B bs w hn hm hr
  clear hr
  have Hn := Lib.hid hn; clear hn
  go_enter Tryd.func17, Tryd.ntmps17
  go_wp2_with (go_at_call 21; refine h0.mono ?_; rintro e w' ⟨rfl, rfl⟩)
  go_ret
  exact ⟨rfl, rfl⟩
end Go.Proofs.YtcjedjknelgagaaDoor
