/- text.number -/
import Derived.Test.YtmeoafodcniliaaGreatDoorTxM
import Derived.Test.YtmeoafodcniliaaGreatDoorHelp
import Derived.BigQuiet
namespace Go.Proofs.YtmeoafodcniliaaGreatDoor.C4
open Go.RowKit
set_option linter.unusedSimpArgs false
set_option linter.unusedVariables false
theorem rd_get8 {w : World} {B : Nat} {A : Option Addr} {zs : List (BitVec 8)} (h : Rd w B A (zs.map V8)) {k : Nat} {z : BitVec 8} (hk : zs[k]? = some z) : ∃ b off, A = some ⟨b, off, none⟩ ∧ b < B ∧ w.cell? ⟨b, off + k, none⟩ = some (V8 z) :=
  h k _ (by rw [List.getElem?_map, hk]; rfl)
theorem conv_8i (n : Int) (w : World) : (convert 5 3 (.int .u8 n)).run Tryz.prog w = .ok (.int .i64 (IntKind.i64.wrap n)) w := by kernel_rfl
set_option maxHeartbeats 2000000 in
theorem number_calls (A : Option Addr) (n cap B : Nat) (ws : List (BitVec 8)) (w : World) (hn : n = ws.length) (hm : n ≤ 1099511627776) (hr : Rd w B A (ws.map V8)) :
    Calls Tryz.prog 105 #[.slice A n cap] w fun e w' => e = .returned (.tuple #[.int .i64 (Tx.num ws).1, .bool (Tx.num ws).2]) ∧ w = w' := by
  have Hn := Lib.hid hn; have Hr := Lib.hid hr
  clear hn hr
  go_enter Tryz.func105, Tryz.ntmps105
  by_cases h0 : n = 0
  · have Hnum := Lib.hid (show Tx.num ws = (0, false) by unfold Tx.num; rw [if_pos (Or.inl (by rw [← Hn.out]; exact h0))])
    have q0 : ((n : Int) == 0) = true := by simp; exact h0
    clear h0
    go_wp2_with fail
    go_ret2
    exact ⟨by rw [Hnum.out]; rfl, rfl⟩
  have q0 : ((n : Int) == 0) = false := by simp; exact h0
  by_cases h10 : 10 < n
  · have Hnum := Lib.hid (show Tx.num ws = (0, false) by unfold Tx.num; rw [if_pos (Or.inr (Or.inl (by rw [← Hn.out]; exact h10)))])
    have q1 : (10 : Int) < (n : Int) := by omega
    clear h0
    go_wp2_with fail
    go_ret2
    exact ⟨by rw [Hnum.out]; rfl, rfl⟩
  have q1 : ¬ (10 : Int) < (n : Int) := by omega
  obtain ⟨c0, hc0⟩ : ∃ c, ws[0]? = some c := ⟨ws[0]'(by rw [← Hn.out]; omega), List.getElem?_eq_getElem _⟩
  obtain ⟨b, off, rfl, hb, hcell⟩ := rd_get8 Hr.out hc0
  rw [Nat.add_zero] at hcell
  have hg0 : (ws.getD 0 0).toNat = n8 c0 := by simp [List.getD, hc0]; rfl
  have q3 : (0 : Int) < (n : Int) := by omega
  by_cases hz : 1 < n ∧ n8 c0 = 48
  · have Hnum := Lib.hid (show Tx.num ws = (0, false) by unfold Tx.num; rw [if_pos (Or.inr (Or.inr (by rw [← Hn.out, hg0]; exact hz)))])
    obtain ⟨z1, z2⟩ := hz
    have q4 : (1 : Int) < (n : Int) := by omega
    have q5 : ((n8 c0 : Int) == 48) = true := by simp; omega
    clear h0 hc0 hg0 z2
    go_wp2_with fail
    go_ret2
    exact ⟨by rw [Hnum.out]; rfl, rfl⟩
  have Hnum := Lib.hid (show Tx.num ws = if ws.all Tx.isDig then (((Tx.valF 0 ws : Nat) : Int), decide (Tx.valF 0 ws ≤ 2147483647)) else (0, false) by
    unfold Tx.num; rw [if_neg (by rw [← Hn.out, hg0]; omega)])
  have hsplit : ¬ (1 : Int) < (n : Int) ∨ ((1 : Int) < (n : Int) ∧ ((n8 c0 : Int) == 48) = false) := by
    by_cases h : 1 < n
    · right; refine ⟨by omega, ?_⟩; simp; omega
    · left; omega
  clear h0 hc0 hg0 hz
  rcases hsplit with q4 | ⟨q4, q5⟩
  all_goals
    go_wp2_with fail
    go_loopw [4, 28] (fun v i wr => ∃ a : Nat, i = .int .i64 (a : Int) ∧ a ≤ n ∧ v = .int .i64 (Tx.valF 0 (ws.take a) : Nat) ∧ (ws.take a).all Tx.isDig = true ∧ w = wr) (fun _ i _ => n - (intOf i).toNat)
    case atStart => exact ⟨0, rfl, by omega, rfl, rfl, rfl⟩
    case round =>
      obtain ⟨a, rfl, ha, rfl, hall, rfl⟩ := hrel
      have hval := Tx.valF_lt (ws.take a) hall a (by rw [List.length_take, ← Hn.out]; omega)
      rw [List.take_take, Nat.min_self] at hval
      by_cases hlt : a < n
      · have l1 : (a : Int) < (n : Int) := by omega
        have hp : 10 ^ a ≤ 10 ^ 9 := Nat.pow_le_pow_right (by omega) (by omega)
        obtain ⟨c, hc⟩ : ∃ c, ws[a]? = some c := ⟨ws[a]'(by rw [← Hn.out]; omega), List.getElem?_eq_getElem _⟩
        obtain ⟨b2, off2, he, hb2, hcell2⟩ := rd_get8 Hr.out hc
        injection he with he; injection he with e1 e2
        subst e1 e2
        have Hst := Lib.hid (Tx.valF_take ws a c hc)
        have Htk := Lib.hid (show ws.take (a + 1) = ws.take a ++ [c] by rw [List.take_add_one, hc]; rfl)
        have Hall := Lib.hid hall
        have hmem : c ∈ ws := List.mem_of_getElem? hc
        have Hmem := Lib.hid hmem
        have hc8 := n8_lt c
        generalize Tx.valF 0 (ws.take a) = V at *
        have hV : (V : Int) < 1000000000 := by omega
        clear hall hc hmem hp hval
        by_cases hd : Tx.isDig c = true
        · have hd' : 48 ≤ n8 c ∧ n8 c ≤ 57 := by unfold Tx.isDig at hd; simpa using hd
          obtain ⟨d1, d2⟩ := hd'
          have k1 : ¬ (n8 c : Int) < 48 := by omega
          have k2 : ¬ (57 : Int) < (n8 c : Int) := by omega
          have Hd := Lib.hid hd
          clear hd
          go_wp2_with fail
          exact ⟨⟨a + 1, by congr 1, by omega, by congr 1; rw [Hst.out]; omega, by rw [Htk.out, List.all_append, Hall.out]; simp [Hd.out], trivial⟩, by simp [intOf]; omega⟩
        · have hd' : n8 c < 48 ∨ (48 ≤ n8 c ∧ 57 < n8 c) := by unfold Tx.isDig at hd; simp at hd; omega
          have Hf := Lib.hid (show Tx.num ws = (0, false) by rw [Hnum.out, if_neg (fun h => hd (List.all_eq_true.1 h c Hmem.out))])
          clear hd
          rcases hd' with hd' | ⟨hd1, hd2⟩
          · have k1 : (n8 c : Int) < 48 := by omega
            go_wp2_with fail
            go_ret2
            exact ⟨by rw [Hf.out]; rfl, rfl⟩
          · have k1 : ¬ (n8 c : Int) < 48 := by omega
            have k2 : (57 : Int) < (n8 c : Int) := by omega
            go_wp2_with fail
            go_ret2
            exact ⟨by rw [Hf.out]; rfl, rfl⟩
      · obtain rfl : a = n := by omega
        have hx : ws.take a = ws := List.take_of_length_le (by rw [← Hn.out]; exact Nat.le_refl _)
        rw [hx] at hall hval
        have Hf := Lib.hid (show Tx.num ws = (((Tx.valF 0 ws : Nat) : Int), decide (Tx.valF 0 ws ≤ 2147483647)) by rw [Hnum.out, if_pos hall])
        have hp : 10 ^ a ≤ 10 ^ 10 := Nat.pow_le_pow_right (by omega) (by omega)
        have hb : ((Tx.valF 0 ws : Nat) : Int) < 10000000001 := by omega
        have hdd : decide (Tx.valF 0 ws ≤ 2147483647) = decide (((Tx.valF 0 ws : Nat) : Int) ≤ 2147483647) := by congr 1; exact propext ⟨fun h => by omega, fun h => by omega⟩
        rw [hdd] at Hf
        rw [hx]
        generalize ((Tx.valF 0 ws : Nat) : Int) = V at *
        clear hall hval hp hdd
        go_wp2_with fail
        go_ret2
        exact ⟨by rw [Hf.out]; rfl, rfl⟩
end Go.Proofs.YtmeoafodcniliaaGreatDoor.C4
