/- the reference's Number, two, head -/
import Derived.Test.YtgoobadkbndfgaaDoorRfA
import Derived.Deep.DeepCutAuto
namespace Go.Proofs.YtgoobadkbndfgaaDoor
open Go.RowKit
set_option linter.unusedSimpArgs false
set_option linter.unusedVariables false
set_option maxHeartbeats 4000000 in
set_option maxRecDepth 20000 in
theorem Number_calls (ws : List (BitVec 8)) (w : World) (hm : ws.length ≤ 1099511627776) :
    Calls Tryd.prog 68 #[SS ws] w fun e w' => e = .returned (.tuple #[.int .i64 (Tx.num ws).1, .bool (Tx.num ws).2]) ∧ w = w' := by
  obtain ⟨s, hs⟩ : ∃ s, s = strOf ws := ⟨_, rfl⟩
  obtain ⟨n, hn⟩ : ∃ n, n = ws.length := ⟨_, rfl⟩
  have hsz : s.size = n := by rw [hs, hn, strOf_size]
  have Hidx := Lib.hid (fun (i : Nat) (c : BitVec 8) (hc : ws[i]? = some c) (w : World) => by have := idx_str hc w; rw [← hs] at this; exact this)
  have Htl := Lib.hid (show s.toList = ws.map UInt8.ofBitVec by rw [hs, strOf_toList])
  show Calls Tryd.prog 68 #[.string (strOf ws)] w _
  rw [← hs]
  rw [← hn] at hm
  have Hn := Lib.hid hn
  clear hs hn
  go_enter Tryd.func68, Tryd.ntmps68
  by_cases h0 : n = 0
  · have Hnum := Lib.hid (show Tx.num ws = (0, false) by unfold Tx.num; rw [if_pos (Or.inl (by rw [← Hn.out]; exact h0))])
    have hnil : s.toList = [] := by rw [Htl.out, List.eq_nil_of_length_eq_zero (show ws.length = 0 by rw [← Hn.out]; exact h0)]; rfl
    have hb : (s.toList == []) = true := by rw [hnil]; rfl
    clear h0 hsz
    go_wp2_with fail
    go_ret2
    exact ⟨by rw [Hnum.out]; rfl, rfl⟩
  have hnn : ¬ s.toList = [] := by
    rw [Htl.out]; intro h
    have := congrArg List.length h
    rw [List.length_map, List.length_nil, ← Hn.out] at this; exact h0 this
  have hb : (s.toList == []) = false := by simpa using hnn
  have hem : s.toList.isEmpty = false := by simpa using hnn
  obtain ⟨c0, hc0⟩ : ∃ c, ws[0]? = some c := ⟨ws[0]'(by rw [← Hn.out]; omega), List.getElem?_eq_getElem _⟩
  have hi0 := Hidx.out 0 c0 hc0
  have hi0' : ∀ w, (Instr.index 9 (.string s) (.int .i64 0)).run Tryd.prog w = .ok (V8 c0) w := hi0
  have hg0 : (ws.getD 0 0).toNat = n8 c0 := by simp [List.getD, hc0]; rfl
  by_cases hz : 1 < n ∧ n8 c0 = 48
  · have Hnum := Lib.hid (show Tx.num ws = (0, false) by unfold Tx.num; rw [if_pos (Or.inr (Or.inr (by rw [← Hn.out, hg0]; exact hz)))])
    obtain ⟨z1, z2⟩ := hz
    have q4 : (1 : Int) < (n : Int) := by omega
    have q5 : ((n8 c0 : Int) == 48) = true := by simp; omega
    clear h0 hc0 hg0 z2
    go_wp2_with fail
    go_ret2
    exact ⟨by rw [Hnum.out]; rfl, rfl⟩
  have hsplit : ((n8 c0 : Int) == 48) = false ∨ (((n8 c0 : Int) == 48) = true ∧ ¬ (1 : Int) < (n : Int)) := by
    by_cases h : n8 c0 = 48
    · right; exact ⟨by simp; omega, by omega⟩
    · left; simp; omega
  by_cases h10 : 10 < n
  · have Hnum := Lib.hid (show Tx.num ws = (0, false) by unfold Tx.num; rw [if_pos (Or.inr (Or.inl (by rw [← Hn.out]; exact h10)))])
    have q1 : (10 : Int) < (n : Int) := by omega
    clear h0 hc0 hg0 hz
    rcases hsplit with q5 | ⟨q5, q4⟩
    all_goals
      go_wp2_with fail
      go_ret2
      exact ⟨by rw [Hnum.out]; rfl, rfl⟩
  have q1 : ¬ (10 : Int) < (n : Int) := by omega
  have Hnum := Lib.hid (show Tx.num ws = if ws.all Tx.isDig then (((Tx.valF 0 ws : Nat) : Int), decide (Tx.valF 0 ws ≤ 2147483647)) else (0, false) by
    unfold Tx.num; rw [if_neg (by rw [← Hn.out, hg0]; omega)])
  clear h0 hc0 hg0 hz
  rcases hsplit with q5 | ⟨q5, q4⟩
  all_goals
    go_wp2_with fail
    go_loopw [4, 5] (fun v i wr => ∃ a : Nat, i = .int .i64 (a : Int) ∧ a ≤ n ∧ v = .int .i64 (Tx.valF 0 (ws.take a) : Nat) ∧ (ws.take a).all Tx.isDig = true ∧ w = wr) (fun _ i _ => n - (intOf i).toNat)
    case atStart => exact ⟨0, rfl, by omega, rfl, rfl, rfl⟩
    case round =>
      obtain ⟨a, rfl, ha, rfl, hall, rfl⟩ := hrel
      have hval := Tx.valF_lt (ws.take a) hall a (by rw [List.length_take, ← Hn.out]; omega)
      rw [List.take_take, Nat.min_self] at hval
      by_cases hlt : a < n
      · have l1 : (a : Int) < (n : Int) := by omega
        have hp : 10 ^ a ≤ 10 ^ 9 := Nat.pow_le_pow_right (by omega) (by omega)
        obtain ⟨c, hc⟩ : ∃ c, ws[a]? = some c := ⟨ws[a]'(by rw [← Hn.out]; omega), List.getElem?_eq_getElem _⟩
        have hidx := Hidx.out a c hc
        have Hst := Lib.hid (Tx.valF_take ws a c hc)
        have Htk := Lib.hid (show ws.take (a + 1) = ws.take a ++ [c] by rw [List.take_add_one, hc]; rfl)
        have Hall := Lib.hid hall
        have hmem : c ∈ ws := List.mem_of_getElem? hc
        have Hmem := Lib.hid hmem
        have hc8 := n8_lt c
        generalize Tx.valF 0 (ws.take a) = V at *
        have hV : (V : Int) < 1000000000 := by omega
        clear hall hc hmem hp hval
        by_cases hd : Tx.isDig c = true
        · have hd' : 48 ≤ n8 c ∧ n8 c ≤ 57 := by unfold Tx.isDig at hd; simpa using hd
          obtain ⟨d1, d2⟩ := hd'
          have k1 : ¬ (n8 c : Int) < 48 := by omega
          have k2 : ¬ (57 : Int) < (n8 c : Int) := by omega
          have Hd := Lib.hid hd
          clear hd
          go_wp2_with fail
          exact ⟨⟨a + 1, by congr 1, by omega, by congr 1; rw [Hst.out]; omega, by rw [Htk.out, List.all_append, Hall.out]; simp [Hd.out], trivial⟩, by simp [intOf]; omega⟩
        · have hd' : n8 c < 48 ∨ (48 ≤ n8 c ∧ 57 < n8 c) := by unfold Tx.isDig at hd; simp at hd; omega
          have Hf := Lib.hid (show Tx.num ws = (0, false) by rw [Hnum.out, if_neg (fun h => hd (List.all_eq_true.1 h c Hmem.out))])
          clear hd
          rcases hd' with hd' | ⟨hd1, hd2⟩
          · have k1 : (n8 c : Int) < 48 := by omega
            go_wp2_with fail
            go_ret2
            exact ⟨by rw [Hf.out]; rfl, rfl⟩
          · have k1 : ¬ (n8 c : Int) < 48 := by omega
            have k2 : (57 : Int) < (n8 c : Int) := by omega
            go_wp2_with fail
            go_ret2
            exact ⟨by rw [Hf.out]; rfl, rfl⟩
      · obtain rfl : a = n := by omega
        have hx : ws.take a = ws := List.take_of_length_le (by rw [← Hn.out]; exact Nat.le_refl _)
        rw [hx] at hall hval
        have Hf := Lib.hid (show Tx.num ws = (((Tx.valF 0 ws : Nat) : Int), decide (Tx.valF 0 ws ≤ 2147483647)) by rw [Hnum.out, if_pos hall])
        have hp : 10 ^ a ≤ 10 ^ 10 := Nat.pow_le_pow_right (by omega) (by omega)
        have hb : ((Tx.valF 0 ws : Nat) : Int) < 10000000001 := by omega
        have hdd : decide (Tx.valF 0 ws ≤ 2147483647) = decide (((Tx.valF 0 ws : Nat) : Int) ≤ 2147483647) := by congr 1; exact propext ⟨fun h => by omega, fun h => by omega⟩
        rw [hdd] at Hf
        rw [hx]
        generalize ((Tx.valF 0 ws : Nat) : Int) = V at *
        clear hall hval hp hdd
        go_wp2_with fail
        go_ret2
        exact ⟨by rw [Hf.out]; rfl, rfl⟩
set_option maxHeartbeats 2000000 in
theorem twoR_calls (wa wb : List (BitVec 8)) (n : Int) (w : World) (ha : wa.length ≤ 1099511627776) (hb : wb.length ≤ 1099511627776) :
    Calls Tryd.prog 61 #[SS wa, SS wb, .int .i64 n] w fun e w' => e = .returned (.tuple #[.int .i64 (Tx.two wa wb n).1, .int .i64 (Tx.two wa wb n).2.1, .int .i64 (Tx.two wa wb n).2.2]) ∧ w = w' := by
  have H1 := Lib.hid (fun w1 => Number_calls wa w1 ha)
  have H2 := Lib.hid (fun w1 => Number_calls wb w1 hb)
  obtain ⟨x, hx⟩ : ∃ x, x = Tx.num wa := ⟨_, rfl⟩
  obtain ⟨y, hy⟩ : ∃ y, y = Tx.num wb := ⟨_, rfl⟩
  have Ht := Lib.hid (show Tx.two wa wb n = if x.2 = false ∨ y.2 = false then (0, 0, 40) else if n ≤ x.1 ∨ n ≤ y.1 then (0, 0, 42) else (x.1, y.1, 0) by unfold Tx.two; rw [hx, hy])
  rw [← hx] at H1
  rw [← hy] at H2
  obtain ⟨x, xb⟩ := x
  obtain ⟨y, yb⟩ := y
  clear hx hy ha hb
  go_enter Tryd.func61, Tryd.ntmps61
  go_wp2_with fail
  refine (H1.out w).mono ?_
  rintro e w' ⟨rfl, rfl⟩
  go_wp2_with fail
  refine (H2.out w).mono ?_
  rintro e w' ⟨rfl, rfl⟩
  cases xb with
  | false =>
    have Hf := Lib.hid (show Tx.two wa wb n = (0, 0, 40) by rw [Ht.out, if_pos (Or.inl rfl)])
    go_wp2_with fail
    go_ret3
    exact ⟨by rw [Hf.out]; rfl, rfl⟩
  | true =>
    cases yb with
    | false =>
      have Hf := Lib.hid (show Tx.two wa wb n = (0, 0, 40) by rw [Ht.out, if_pos (Or.inr rfl)])
      go_wp2_with fail
      go_ret3
      exact ⟨by rw [Hf.out]; rfl, rfl⟩
    | true =>
      have Ht2 := Lib.hid (show Tx.two wa wb n = if n ≤ x ∨ n ≤ y then (0, 0, 42) else (x, y, 0) by rw [Ht.out, if_neg (by simp)])
      by_cases h1 : n ≤ x
      · have Hf := Lib.hid (show Tx.two wa wb n = (0, 0, 42) by rw [Ht2.out, if_pos (Or.inl h1)])
        go_wp2_with fail
        go_ret3
        exact ⟨by rw [Hf.out]; rfl, rfl⟩
      · by_cases h2 : n ≤ y
        · have Hf := Lib.hid (show Tx.two wa wb n = (0, 0, 42) by rw [Ht2.out, if_pos (Or.inr h2)])
          go_wp2_with fail
          go_ret3
          exact ⟨by rw [Hf.out]; rfl, rfl⟩
        · have Hf := Lib.hid (show Tx.two wa wb n = (x, y, 0) by rw [Ht2.out, if_neg (by omega)])
          go_wp2_with fail
          go_ret3
          exact ⟨by rw [Hf.out]; rfl, rfl⟩
namespace Tx
/-- What the words of the first line say. -/
def head (ws : List (List By)) : Int × Int :=
  match ws with
  | [a, b] => if a ≠ vertices ∨ (num b).2 = false then (0, 40) else if 16777216 < (num b).1 then (0, 41) else ((num b).1, 0)
  | _ => (0, 40)
end Tx
/-- A row of strings, whichever. -/
theorem rd_ss {w : World} {B : Nat} {A : Option Addr} {ls : List (List (BitVec 8))} (h : Rd w B A (ls.map SS)) {k : Nat} {l : List (BitVec 8)} (hk : ls[k]? = some l) : ∃ b off, A = some ⟨b, off, none⟩ ∧ b < B ∧ w.cell? ⟨b, off + k, none⟩ = some (SS l) :=
  h k _ (by rw [List.getElem?_map, hk]; rfl)
set_option maxHeartbeats 4000000 in
set_option maxRecDepth 20000 in
theorem head_calls (A : Option Addr) (n cap B : Nat) (ls : List (List (BitVec 8))) (w : World) (hn : n = ls.length) (hm : ∀ l ∈ ls, l.length ≤ 1099511627776) (hr : Rd w B A (ls.map SS)) :
    Calls Tryd.prog 60 #[.slice A n cap] w fun e w' => e = .returned (.tuple #[.int .i64 (Tx.head ls).1, .int .i64 (Tx.head ls).2]) ∧ w = w' := by
  by_cases h2 : n = 2
  · obtain ⟨a, b, rfl⟩ : ∃ a b, ls = [a, b] := by
      match ls, (show ls.length = 2 by omega) with
      | [a, b], _ => exact ⟨a, b, rfl⟩
    obtain ⟨b0, off, rfl, hb0, hc0⟩ := rd_ss hr (k := 0) (l := a) rfl
    obtain ⟨b1, off1, he, hb1, hc1⟩ := rd_ss hr (k := 1) (l := b) rfl
    injection he with he; injection he with e1 e2
    subst e1 e2
    rw [Nat.add_zero] at hc0
    have H1 := Lib.hid (Number_calls b w (hm b (by simp)))
    have heq := str_eq a Tx.vertices
    have hc0' : w.cell? ⟨b0, off, none⟩ = some (.string (strOf a)) := hc0
    clear hc0
    have hvl : (strOf Tx.vertices).toList = [118, 101, 114, 116, 105, 99, 101, 115] := by rw [strOf_toList]; rfl
    rw [hvl] at heq
    obtain ⟨x, hx⟩ : ∃ x, x = Tx.num b := ⟨_, rfl⟩
    have Ht := Lib.hid (show Tx.head [a, b] = if a ≠ Tx.vertices ∨ x.2 = false then (0, 40) else if 16777216 < x.1 then (0, 41) else (x.1, 0) by rw [hx]; rfl)
    rw [← hx] at H1
    obtain ⟨x, xb⟩ := x
    clear hx hr hm hvl
    subst h2
    clear hn
    go_enter Tryd.func60, Tryd.ntmps60
    by_cases hv : a = Tx.vertices
    · rw [decide_eq_true hv] at heq
      have hne : ((strOf a).toList != [118, 101, 114, 116, 105, 99, 101, 115]) = false := by unfold bne; rw [heq]; rfl
      have hl : (strOf a).toList = [118, 101, 114, 116, 105, 99, 101, 115] := by simpa using heq
      have Hv := Lib.hid hv
      clear hv heq
      generalize strOf a = sa at *
      go_wp2_with fail
      refine (H1.out).mono ?_
      rintro e w' ⟨rfl, rfl⟩
      cases xb with
      | false =>
        have Hf := Lib.hid (show Tx.head [a, b] = (0, 40) by rw [Ht.out, if_pos (Or.inr rfl)])
        go_wp2_with fail
        go_ret2
        exact ⟨by rw [Hf.out]; rfl, rfl⟩
      | true =>
        have Ht2 := Lib.hid (show Tx.head [a, b] = if 16777216 < x then (0, 41) else (x, 0) by rw [Ht.out, if_neg (by simp [Hv.out])])
        by_cases h1 : 16777216 < x
        · have Hf := Lib.hid (show Tx.head [a, b] = (0, 41) by rw [Ht2.out, if_pos h1])
          go_wp2_with fail
          go_ret2
          exact ⟨by rw [Hf.out]; rfl, rfl⟩
        · have Hf := Lib.hid (show Tx.head [a, b] = (x, 0) by rw [Ht2.out, if_neg h1])
          go_wp2_with fail
          go_ret2
          exact ⟨by rw [Hf.out]; rfl, rfl⟩
    · rw [decide_eq_false hv] at heq
      have hne : ((strOf a).toList == [118, 101, 114, 116, 105, 99, 101, 115]) = false := heq
      have hl : ¬ (strOf a).toList = [118, 101, 114, 116, 105, 99, 101, 115] := by simpa using heq
      have Hf := Lib.hid (show Tx.head [a, b] = (0, 40) by rw [Ht.out, if_pos (Or.inl hv)])
      clear hv heq
      generalize strOf a = sa at *
      go_wp2_with fail
      go_ret2
      exact ⟨by rw [Hf.out]; rfl, rfl⟩
  · have Hf := Lib.hid (show Tx.head ls = (0, 40) by
      unfold Tx.head
      match ls, hn with
      | [], _ => rfl
      | [a], _ => rfl
      | [a, b], hn => exact absurd hn h2
      | a :: b :: c :: r, _ => rfl)
    have q : ((n : Int) != 2) = true := by simp; omega
    clear h2 hn hr
    go_enter Tryd.func60, Tryd.ntmps60
    go_wp2_with fail
    go_ret2
    exact ⟨by rw [Hf.out]; rfl, rfl⟩
end Go.Proofs.YtgoobadkbndfgaaDoor
