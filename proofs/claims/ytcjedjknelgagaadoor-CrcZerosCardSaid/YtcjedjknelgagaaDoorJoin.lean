/- crc.Join, crc.Sum -/
import Derived.Test.YtcjedjknelgagaaDoorOne
import Derived.Test.YtcjedjknelgagaaDoorUpd
namespace Go.Proofs.YtcjedjknelgagaaDoor
open Go.RowKit
set_option linter.unusedSimpArgs false
set_option linter.unusedVariables false
attribute [local go_sem ↓] load_mat store_mat step_load_mat
attribute [local go_sem] u32_signed n32_xor n32_and n32_and1 n32_not isLoadOf loadArg isRowAt_ptr rowAt_ptr blkOf_ptr aggOf_agg isAggV_agg isRow_alloc_new i64_and1

theorem sum_calls (A : Option Addr) (n cap B : Nat) (bs : List (BitVec 8)) (w : World) (ht : TabIn w) (hn : n = bs.length) (hm : n ≤ maxLen) (hr : Rd w B A (bs.map V8)) :
    Calls Tryd.prog 16 #[.slice A n cap] w fun e w' => e = .returned (.int .u32 (n32 (~~~ Crc.runT (~~~ 0) bs))) ∧ w = w' := by
  have h0 : Calls Tryd.prog 20 #[.int .u32 0, .slice A n cap] w fun e w' => e = .returned (.int .u32 (n32 (~~~ Crc.runT (~~~ 0) bs))) ∧ w = w' :=
    update_calls 0 A n cap B bs w ht hn hm hr
  clear ht hr
  have Hn := Lib.hid hn; clear hn
  go_enter Tryd.func16, Tryd.ntmps16
  go_wp2_with (go_at_call 20; refine h0.mono ?_; rintro e w' ⟨rfl, rfl⟩)
  go_ret
  exact ⟨rfl, rfl⟩

/-- The matrix of j steps. -/
def matS (j : Nat) : Array Value := mat fun i => Crc.steps j (1#32 <<< i)
theorem matS_size (j : Nat) : (matS j).size = 32 := mat_size _
theorem twiceS_calls (cs : Array Value) (j : Nat) (w : World) (hc : cs = matS j) :
    Calls Tryd.prog 29 #[.agg cs] w fun e w' => e = .returned (.agg (matS (j + j))) ∧ Below w.heap.size w w' :=
  (twice_calls cs _ w hc).mono fun e w' ⟨he, hb⟩ => ⟨by
    rw [he]; unfold matS
    congr 2; apply congrArg; funext i
    rw [Crc.comb_steps, Crc.steps_add], hb⟩
theorem timesS_calls (cs : Array Value) (j : Nat) (x : BitVec 32) (w : World) (hc : cs = matS j) :
    Calls Tryd.prog 30 #[.agg cs, .int .u32 (n32 x)] w fun e w' => e = .returned (.int .u32 (n32 (Crc.steps j x))) ∧ Below w.heap.size w w' :=
  (times_calls cs _ x w hc).mono fun e w' ⟨he, hb⟩ => ⟨by rw [he, Crc.comb_steps], hb⟩

def JoinLoop (w0 wr : World) (g : Nat) (j : Nat) : Prop := w0.heap.size ≤ g ∧ wr.heap[g]? = some (.cells (matS j) 47 (0, 0)) ∧ Below w0.heap.size w0 wr

set_option maxHeartbeats 400000 in
theorem join_calls (a b : BitVec 32) (n : Int) (w : World) (hn : -9223372036854775808 ≤ n ∧ n ≤ 9223372036854775807) :
    Calls Tryd.prog 22 #[.int .u32 (n32 a), .int .u32 (n32 b), .int .i64 n] w fun e w' => e = .returned (.int .u32 (n32 (Crc.join a b n))) ∧ Below w.heap.size w w' := by
  obtain ⟨hn1, hn2⟩ := hn
  go_enter Tryd.func22, Tryd.ntmps22
  go_wp2_with fail
  refine (one_calls _).mono ?_
  rintro e w1 ⟨rfl, hb1⟩
  go_wp2_with fail
  refine (twiceS_calls _ 1 _ rfl).mono ?_
  rintro e w2 ⟨rfl, hb2⟩
  go_wp2_with fail
  refine (twiceS_calls _ 2 _ rfl).mono ?_
  rintro e w3 ⟨rfl, hb3⟩
  go_wp2_with fail
  refine (twiceS_calls _ 4 _ rfl).mono ?_
  rintro e w4 ⟨rfl, hb4⟩
  have hm8 : Cells1 (matS 8) 32 := cells1_mat _
  have s4 : w.heap.size ≤ w4.heap.size := by have := hb1.size; have := hb2.size; have := hb3.size; have := hb4.size; omega
  have HB := Lib.hid (((hb1.trans (hb2.mono hb1.size)).trans (hb3.mono (Nat.le_trans hb1.size hb2.size))).trans (hb4.mono (Nat.le_trans (Nat.le_trans hb1.size hb2.size) hb3.size)))
  clear hb1 hb2 hb3 hb4
  go_wp2_with fail
  go_loopw [0, 2] (fun a' n' wr => ∃ k : Nat, a' = .int .u32 (n32 (Crc.steps (8 * (n.toNat % 2 ^ k)) a)) ∧ n' = .int .i64 (n / 2 ^ k) ∧ JoinLoop w wr w4.heap.size (8 * 2 ^ k)) (fun _ n' _ => (intOf n').toNat)
  case atStart =>
    refine ⟨0, by rw [Nat.mod_one]; rfl, by simp, s4, ?_, ?_⟩
    · exact setRow_heap _ _ _ _ _ _ (heap_alloc_new _ _)
    · exact (HB.out.alloc s4 _).trans (below_setRow (Below.refl _ _) s4 _)
  case round =>
    obtain ⟨k, rfl, rfl, hg1, hg2, hb⟩ := hrel
    have hd1 := Crc.div_bounds n k hn1 hn2
    obtain ⟨N, hN⟩ : ∃ N, N = n / 2 ^ k := ⟨_, rfl⟩
    rw [← hN] at hd1 ⊢
    obtain ⟨hd1, hd2⟩ := hd1
    by_cases hlt : 0 < N
    · have hl1 : IsRow wr w4.heap.size 47 32 := ⟨_, hg2, mat_size _⟩
      have hl2 : rowOf wr w4.heap.size = matS (8 * 2 ^ k) := rowOf_eq hg2
      have HN := Lib.hid hN
      have Hb := Lib.hid hb
      have Hg2 := Lib.hid hg2
      clear hN hb hg2
      have hN0 : 0 ≤ N := by omega
      by_cases hodd : N % 2 = 1
      · have ho : (N % 2 != 0) = true := by rw [bne_iff_ne]; omega
        have Ho := Lib.hid hodd; clear hodd
        go_wp2_with fail
        refine (timesS_calls _ _ _ _ rfl).mono ?_
        rintro e w5 ⟨rfl, hb5⟩
        have Hg5 := Lib.hid ((hb5.block _ (lt_heap Hg2.out)).trans Hg2.out)
        have hl3 : IsRow w5 w4.heap.size 47 32 := ⟨_, Hg5.out, mat_size _⟩
        have hl4 : rowOf w5 w4.heap.size = matS (8 * 2 ^ k) := rowOf_eq Hg5.out
        have Hb5 := Lib.hid (Hb.out.trans (hb5.mono Hb.out.size)); clear hb5
        go_wp2_with fail
        refine (twiceS_calls _ _ _ rfl).mono ?_
        rintro e w6 ⟨rfl, hb6⟩
        have Hg6 := Lib.hid ((hb6.block _ (lt_heap Hg5.out)).trans Hg5.out)
        have hl5 : IsRow w6 w4.heap.size 47 32 := ⟨_, Hg6.out, mat_size _⟩
        have hl6 : Cells1 (matS (8 * 2 ^ k + 8 * 2 ^ k)) 32 := cells1_mat _
        have Hb6 := Lib.hid (Hb5.out.trans (hb6.mono Hb5.out.size)); clear hb6
        go_wp2_with fail
        go_roundw
        case rel =>
          refine ⟨k + 1, ?_, ?_, s4, ?_, ?_⟩
          · rw [← Crc.steps_add, Crc.mod_odd n k (by rw [← HN.out]; exact Ho.out) (by rw [← HN.out]; exact hlt)]
          · rw [HN.out, Crc.div_div2]
          · rw [setRow_heap _ _ _ _ _ _ Hg6.out, Nat.pow_succ, ← Nat.mul_add, Nat.mul_two]
          · exact Hb6.out.trans (below_setRow (Below.refl _ _) s4 _)
        case measure => simp [intOf]; omega
      · have ho : (N % 2 != 0) = false := by rw [bne_eq_false_iff_eq]; omega
        have Ho := Lib.hid hodd; clear hodd
        go_wp2_with fail
        refine (twiceS_calls _ _ _ rfl).mono ?_
        rintro e w6 ⟨rfl, hb6⟩
        have Hg6 := Lib.hid ((hb6.block _ (lt_heap Hg2.out)).trans Hg2.out)
        have hl5 : IsRow w6 w4.heap.size 47 32 := ⟨_, Hg6.out, mat_size _⟩
        have hl6 : Cells1 (matS (8 * 2 ^ k + 8 * 2 ^ k)) 32 := cells1_mat _
        have Hb6 := Lib.hid (Hb.out.trans (hb6.mono Hb.out.size)); clear hb6
        go_wp2_with fail
        go_roundw
        case rel =>
          refine ⟨k + 1, ?_, ?_, s4, ?_, ?_⟩
          · rw [Crc.mod_even n k (by have := Ho.out; rw [HN.out] at this; omega) (by rw [← HN.out]; exact hlt)]
          · rw [HN.out, Crc.div_div2]
          · rw [setRow_heap _ _ _ _ _ _ Hg6.out, Nat.pow_succ, ← Nat.mul_add, Nat.mul_two]
          · exact Hb6.out.trans (below_setRow (Below.refl _ _) s4 _)
        case measure => simp [intOf]; omega
    · have Hb := Lib.hid hb; clear hb
      have HN := Lib.hid hN; clear hN
      clear hg2
      go_wp2_with fail
      go_ret
      refine ⟨?_, Hb.out⟩
      have : n.toNat % 2 ^ k = n.toNat := Crc.mod_all n k (by rw [← HN.out]; omega)
      rw [this]; rfl
end Go.Proofs.YtcjedjknelgagaaDoor
