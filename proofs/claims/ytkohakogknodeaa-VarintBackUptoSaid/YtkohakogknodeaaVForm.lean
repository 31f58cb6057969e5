/- varint.form -/
import Derived.Test.YtkohakogknodeaaVList
namespace Go.Proofs.Ytkohakogknodeaa
open Go.RowKit
set_option linter.unusedSimpArgs false
set_option linter.unusedVariables false
namespace Vi
theorem val_take_succ (bs : List (BitVec 8)) (i : Nat) (c : BitVec 8) (h : bs[i]? = some c) : val (bs.take (i + 1)) = val (bs.take i) * 128 + c.toNat % 128 := by
  rw [List.take_add_one, h]; exact val_snoc _ _
theorem val_take_lt (bs : List (BitVec 8)) (i : Nat) (hi : i ≤ 8) : val (bs.take i) < 72057594037927936 := by
  have := val_lt (bs.take i)
  rw [List.length_take] at this
  have h3 : 128 ^ (min i bs.length) ≤ 128 ^ 8 := Nat.pow_le_pow_right (by decide) (by omega)
  omega
/-- All of the first i are great: where the first nine (or all) are, it is an error. -/
def Lead (bs : List (BitVec 8)) (i : Nat) : Prop := ∀ j, j < i → ∃ c, bs[j]? = some c ∧ 128 ≤ c.toNat
theorem Lead.zero (bs : List (BitVec 8)) : Lead bs 0 := fun j h => absurd h (by omega)
theorem Lead.step {bs : List (BitVec 8)} {i : Nat} {c : BitVec 8} (h : Lead bs i) (hc : bs[i]? = some c) (hb : 128 ≤ c.toNat) : Lead bs (i + 1) := fun j hj => by
  rcases Nat.lt_or_ge j i with h1 | h1
  · exact h j h1
  · obtain rfl : j = i := by omega
    exact ⟨c, hc, hb⟩
theorem Lead.end_ {bs : List (BitVec 8)} {i : Nat} {c : BitVec 8} (h : Lead bs i) (hi : i ≤ 8) (h0 : bs.head? ≠ some 128#8) (hc : bs[i]? = some c) (hb : c.toNat < 128) : numE bs = 0 ∧ numX bs = val (bs.take (i + 1)) ∧ numN bs = i + 1 := by
  have hl := lead_at bs i c hc (lead_all bs i h) hb
  have hlt := (List.getElem?_eq_some_iff.1 hc).1
  have e : numE bs = 0 := by unfold numE; rw [if_neg h0, if_neg (by omega), if_neg (by omega)]
  refine ⟨e, ?_, ?_⟩
  · unfold numX; rw [if_pos e, hl]
  · unfold numN; rw [if_pos e, hl]
theorem Lead.wide {bs : List (BitVec 8)} (h : Lead bs 9) (h0 : bs.head? ≠ some 128#8) : numE bs = 12 ∧ numX bs = 0 ∧ numN bs = 0 := by
  have hl := lead_all bs 9 h
  have e : numE bs = 12 := by unfold numE; rw [if_neg h0, if_pos hl]
  have hz := num_err (b := bs) (by rw [e]; decide)
  exact ⟨e, hz.1, hz.2⟩
theorem Lead.short {bs : List (BitVec 8)} (h : Lead bs bs.length) (hn : bs.length < 9) (h0 : bs.head? ≠ some 128#8) : numE bs = 10 ∧ numX bs = 0 ∧ numN bs = 0 := by
  have hl := lead_all bs _ h
  have hl2 := lead_le bs
  have e : numE bs = 10 := by unfold numE; rw [if_neg h0, if_neg (by omega), if_pos (by omega)]
  have hz := num_err (b := bs) (by rw [e]; decide)
  exact ⟨e, hz.1, hz.2⟩
theorem num_min {bs : List (BitVec 8)} (h0 : bs.head? = some 128#8) : numE bs = 11 ∧ numX bs = 0 ∧ numN bs = 0 := by
  have e : numE bs = 11 := by unfold numE; rw [if_pos h0]
  have hz := num_err (b := bs) (by rw [e]; decide)
  exact ⟨e, hz.1, hz.2⟩
end Vi
theorem and8_127 (c : BitVec 8) : bits .and .u8 (n8 c : Int) 127 = ((c.toNat % 128 : Nat) : Int) := and127 c.toNat c.isLt
theorem or64 (x d : Nat) (hx : x < 72057594037927936) (hd : d < 128) : bits .or .i64 ((x : Int) * 128) (d : Int) = ((x * 128 + d : Nat) : Int) := by
  have e : bits .or .i64 ((x : Int) * 128) (d : Int) = IntKind.i64.wrap ((BitVec.ofInt 64 ((x : Int) * 128) ||| BitVec.ofInt 64 (d : Int)).toNat : Int) := rfl
  have e1 : (BitVec.ofInt 64 ((x : Int) * 128)).toNat = x * 2 ^ 7 := by
    rw [show (x : Int) * 128 = ((x * 2 ^ 7 : Nat) : Int) by simp, BitVec.ofInt_natCast, BitVec.toNat_ofNat, Nat.mod_eq_of_lt (by omega)]
  have e2 : (BitVec.ofInt 64 (d : Int)).toNat = d := by rw [BitVec.ofInt_natCast, BitVec.toNat_ofNat, Nat.mod_eq_of_lt (by omega)]
  have e3 : (BitVec.ofInt 64 ((x : Int) * 128) ||| BitVec.ofInt 64 (d : Int)).toNat = x * 128 + d := by
    rw [BitVec.toNat_or, e1, e2, Nat.mul_comm x, ← Nat.two_pow_add_eq_or_of_lt (by omega : d < 2 ^ 7)]
  rw [e, e3]
  exact IntWalk.i64_in _ (by omega)
set_option maxHeartbeats 4000000 in
theorem form_calls (A : Option Addr) (n cap B : Nat) (bs : List (BitVec 8)) (w : World) (hn : n = bs.length) (hc : n ≤ cap) (hcm : cap ≤ maxLen) (hnil : A = none → n = 0 ∧ cap = 0) (hr : Rd w B A (bs.map V8)) :
    Calls Try.prog 42 #[.slice A n cap] w fun e w' => e = .returned (.tuple #[.int .i64 (Vi.numX bs : Int), .int .i64 (Vi.numN bs : Int), .int .i64 (Vi.numE bs)]) ∧ w = w' := by
  have Hn := Lib.hid hn; have Hr := Lib.hid hr
  unfold maxLen at hcm
  clear hn hr
  go_enter Try.func42, Try.ntmps42
  rcases Nat.eq_zero_or_pos n with h0 | h0
  · have hb : bs = [] := List.eq_nil_of_length_eq_zero (by rw [← Hn.out]; exact h0)
    obtain ⟨e1, e2, e3⟩ := Vi.Lead.short (bs := bs) (by rw [hb]; exact Vi.Lead.zero _) (by rw [hb]; simp) (by rw [hb]; simp)
    have E1 := Lib.hid e1; have E2 := Lib.hid e2; have E3 := Lib.hid e3
    subst h0
    clear e1 e2 e3 hb
    rcases A with _ | ad
    · obtain rfl := (hnil rfl).2
      go_wp2_with fail
      go_loopw [5, 26] (fun x i wr => x = .int .i64 0 ∧ i = .int .i64 0 ∧ w = wr) (fun _ _ _ => 0)
      case atStart => exact ⟨rfl, rfl, rfl⟩
      case round =>
        obtain ⟨rfl, rfl, rfl⟩ := hrel
        go_wp2_with fail
        go_ret3
        exact ⟨by rw [E1.out, E2.out, E3.out]; rfl, rfl⟩
    · clear hnil
      go_wp2_with fail
      go_loopw [5, 26] (fun x i wr => x = .int .i64 0 ∧ i = .int .i64 0 ∧ w = wr) (fun _ _ _ => 0)
      case atStart => exact ⟨rfl, rfl, rfl⟩
      case round =>
        obtain ⟨rfl, rfl, rfl⟩ := hrel
        go_wp2_with fail
        go_ret3
        exact ⟨by rw [E1.out, E2.out, E3.out]; rfl, rfl⟩
  · clear hnil
    obtain ⟨c0, hc0⟩ : ∃ c, bs[0]? = some c := ⟨bs[0]'(by rw [← Hn.out]; omega), List.getElem?_eq_getElem _⟩
    obtain ⟨blk, off, rfl, hblk, hcell⟩ := Hr.out 0 (V8 c0) (by rw [List.getElem?_map, hc0]; rfl)
    have hcell0 : w.cell? ⟨blk, off, none⟩ = some (V8 c0) := by rw [Nat.add_zero] at hcell; exact hcell
    have hhead : bs.head? = some c0 := by rw [List.head?_eq_getElem?]; exact hc0
    have hpos : (0 : Int) < (n : Int) := by omega
    by_cases hc8 : c0 = 128#8
    · obtain ⟨e1, e2, e3⟩ := Vi.num_min (bs := bs) (by rw [hhead, hc8])
      have E1 := Lib.hid e1; have E2 := Lib.hid e2; have E3 := Lib.hid e3
      have hb : ((n8 c0 : Int) == 128) = true := by rw [hc8]; rfl
      clear e1 e2 e3 hc0 hcell hhead hc8
      go_wp2_with fail
      go_ret3
      exact ⟨by rw [E1.out, E2.out, E3.out]; rfl, rfl⟩
    · have hb : ((n8 c0 : Int) == 128) = false := by
        rw [beq_eq_false_iff_ne]; intro h; apply hc8; exact n8_inj (by show n8 c0 = 128; omega)
      have Hne := Lib.hid (show bs.head? ≠ some 128#8 by rw [hhead]; intro h; injection h with h; exact hc8 h)
      clear hc0 hcell hhead hc8
      go_upto_region 4 with fail
      go_cut [24, 25, 26] (fun s t u w' => ∃ m : Nat, s = .slice (some ⟨blk, off, none⟩) m m ∧ t = .int .i64 (m : Int) ∧ u = .int .i64 0 ∧ ((m = n ∧ n ≤ 9) ∨ (m = 9 ∧ 9 < n)) ∧ w = w')
      case first =>
        by_cases h9 : 9 < n
        · have q1 : (9 : Int) < (n : Int) := by omega
          have q2 : (9 : Int) ≤ (cap : Int) := by omega
          go_wp2_with fail
          go_meet
          exact ⟨9, rfl, rfl, rfl, Or.inr ⟨rfl, h9⟩, rfl⟩
        · have q1 : ¬ (9 : Int) < (n : Int) := by omega
          have q2 : (n : Int) ≤ (cap : Int) := by omega
          go_wp2_with fail
          go_meet
          exact ⟨n, rfl, rfl, rfl, Or.inl ⟨rfl, by omega⟩, rfl⟩
      case rest =>
        obtain ⟨m, rfl, rfl, rfl, hm, rfl⟩ := hcut
        clear hcell0 hb hpos
        have hm9 : m ≤ 9 := by omega
        go_wp2_with fail
        go_loopw [5, 26] (fun x i wr => ∃ (a X : Nat), x = .int .i64 (X : Int) ∧ i = .int .i64 (a : Int) ∧ a ≤ m ∧ X = Vi.val (bs.take a) ∧ Vi.Lead bs a ∧ w = wr) (fun _ i _ => m - (intOf i).toNat)
        case atStart => exact ⟨0, 0, rfl, rfl, by omega, by simp [Vi.val, Vi.valA], Vi.Lead.zero _, rfl⟩
        case round =>
          obtain ⟨a, X, rfl, rfl, ha, hX, hL, rfl⟩ := hrel
          have HX := Lib.hid hX; have HL := Lib.hid hL
          clear hX hL
          by_cases hlt : a < m
          · have q1 : (a : Int) < (m : Int) := by omega
            obtain ⟨c, hcc⟩ : ∃ c, bs[a]? = some c := ⟨bs[a]'(by rw [← Hn.out]; omega), List.getElem?_eq_getElem _⟩
            obtain ⟨blk', off', e', _, hcl⟩ := Hr.out a (V8 c) (by rw [List.getElem?_map, hcc]; rfl)
            injection e' with e'; injection e' with e1 e2; subst e1; subst e2
            have hX56 : X < 72057594037927936 := by rw [HX.out]; exact Vi.val_take_lt bs a (by omega)
            have Hcc := Lib.hid hcc
            clear hcc
            have h7 := and8_127 c
            obtain ⟨d, hd⟩ : ∃ d, d = c.toNat % 128 := ⟨_, rfl⟩
            rw [← hd] at h7
            have hd128 : d < 128 := by rw [hd]; exact Nat.mod_lt _ (by decide)
            obtain ⟨Y, hY⟩ : ∃ Y, Y = X * 128 + d := ⟨_, rfl⟩
            have hor : bits .or .i64 ((X : Int) * 128) (d : Int) = (Y : Int) := by rw [hY]; exact or64 X d hX56 hd128
            have HY := Lib.hid (show Y = Vi.val (bs.take (a + 1)) by rw [hY, HX.out, hd, ← Vi.val_take_succ bs a c Hcc.out])
            clear hd hY HX
            by_cases hc128 : n8 c < 128
            · have q2 : (n8 c : Int) < 128 := by omega
              obtain ⟨e1, e2, e3⟩ := Vi.Lead.end_ HL.out (by omega) Hne.out Hcc.out hc128
              have E1 := Lib.hid e1; have E2 := Lib.hid e2; have E3 := Lib.hid e3
              clear e1 e2 e3
              go_wp2_with fail
              go_ret3
              exact ⟨by rw [E1.out, E2.out, E3.out, ← HY.out]; rfl, rfl⟩
            · have q2 : ¬ (n8 c : Int) < 128 := by omega
              have HL2 := Lib.hid (HL.out.step Hcc.out (show 128 ≤ n8 c by omega))
              go_wp2_with fail
              exact ⟨⟨a + 1, Y, rfl, by congr 1, by omega, HY.out, HL2.out, trivial⟩, by simp [intOf]; omega⟩
          · obtain rfl : a = m := by omega
            rcases hm with ⟨rfl, hm9⟩ | ⟨rfl, hm9⟩
            · by_cases h9 : a = 9
              · obtain ⟨e1, e2, e3⟩ := Vi.Lead.wide (bs := bs) (by rw [← h9]; exact HL.out) Hne.out
                have E1 := Lib.hid e1; have E2 := Lib.hid e2; have E3 := Lib.hid e3
                have q2 : (9 : Int) ≤ (a : Int) := by omega
                clear e1 e2 e3 h9
                go_wp2_with fail
                go_ret3
                exact ⟨by rw [E1.out, E2.out, E3.out]; rfl, rfl⟩
              · obtain ⟨e1, e2, e3⟩ := Vi.Lead.short (bs := bs) (by rw [← Hn.out]; exact HL.out) (by rw [← Hn.out]; omega) Hne.out
                have E1 := Lib.hid e1; have E2 := Lib.hid e2; have E3 := Lib.hid e3
                have q2 : ¬ (9 : Int) ≤ (a : Int) := by omega
                clear e1 e2 e3 h9
                go_wp2_with fail
                go_ret3
                exact ⟨by rw [E1.out, E2.out, E3.out]; rfl, rfl⟩
            · obtain ⟨e1, e2, e3⟩ := Vi.Lead.wide (bs := bs) HL.out Hne.out
              have E1 := Lib.hid e1; have E2 := Lib.hid e2; have E3 := Lib.hid e3
              have q2 : (9 : Int) ≤ (n : Int) := by omega
              clear e1 e2 e3
              go_wp2_with fail
              go_ret3
              exact ⟨by rw [E1.out, E2.out, E3.out]; rfl, rfl⟩
end Go.Proofs.Ytkohakogknodeaa
