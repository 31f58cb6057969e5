/- pithlaw2.CrcTwo, CrcLinear: the walks -/
import Derived.Test.YtcjedjknelgagaaDoorLawBurst
import Derived.BigQuiet
import Derived.Deep.QuietTactic
namespace Go.Proofs.YtcjedjknelgagaaDoor
open Go.RowKit Go.ChangeShapes Go.WideShapes Go.ChangeAt
set_option linter.unusedSimpArgs false
set_option linter.unusedVariables false
attribute [local go_sem] u32_signed n32_xor

theorem litTop : (2147483648 : Int) = (n32 2147483648#32 : Int) := by decide +kernel
theorem flip_calls (pi : Int) (hp : pi = 2147483648) (A : Option Addr) (n cap B a : Nat) (bs : List (BitVec 8)) (w : World) (hn : n = bs.length) (hm : n ≤ 65540) (ha : a < 8 * n) (hnil : A = none → n = 0 ∧ cap = 0) (hB : B ≤ w.heap.size) (hr : Rd w B A (bs.map V8)) :
    Calls Tryd.prog 25 #[.slice A n cap, .int .i64 (a : Int), .int .u32 pi] w fun e w' => ∃ A' cap', e = .returned (.tuple #[.slice A' n cap', .bool true]) ∧
      w'.ownsRow w.heap.size 5 1 (.slice A' n cap') n ((Crc.flipBit bs a).map V8) ∧ Below w.heap.size w w' := by
  rw [hp, litTop]
  have := turned_calls A n cap B a 2147483648#32 bs w hn hm (by omega) hnil hB hr
  rw [Crc.turn_one bs a (by rw [← hn]; exact ha) 31 (by omega)] at this
  exact this
theorem two_res (L : List (BitVec 8)) (u v : Nat) (R : BitVec 32) (hu : u < 8 * L.length) (hv : v < 8 * L.length) (hl : 8 * L.length ≤ 1000000) (hR : Crc.sum L = R) : Crc.sum (Crc.flipBit (Crc.flipBit L u) v) = R ↔ u = v := by
  rw [← hR]; exact Crc.two_sum L u v hu hv hl

set_option maxHeartbeats 4000000 in
theorem law_two (A : Option Addr) (n cap : Nat) (bs : List (BitVec 8)) (i j : Int) (w : World) (hb : Arg8 w A n cap bs) (hi : (Lit.int .i64 i).wf = true) (hj : (Lit.int .i64 j).wf = true) (ht : TabIn w) :
    Calls Tryd.prog 11 #[.slice A n cap, .int .i64 i, .int .i64 j] w fun e w' => e = .returned (.bool true) ∧ Below w.heap.size w w' := by
  obtain ⟨hn, hm, hcap, hnil, hr⟩ := hb
  unfold maxLen at hm
  clear hi hj
  have H1 := Lib.hid (first_calls w ht)
  have Ht := Lib.hid ht; have Hr := Lib.hid hr; have Hn := Lib.hid hn; have Hnil := Lib.hid hnil
  clear ht hr hn hnil
  by_cases hbig : n ≤ 65536
  · obtain ⟨u, hu, hu1⟩ := into_bits i (8 * ((n : Int) + 4)) (by omega) (by omega)
    obtain ⟨v, hv, hv1⟩ := into_bits j (8 * ((n : Int) + 4)) (by omega) (by omega)
    have hne : (8 * ((n : Int) + 4)) ≠ 0 := by omega
    go_enter Tryd.func11, Tryd.ntmps11
    go_wp2_with fail
    refine H1.out.mono ?_
    rintro e w1 ⟨rfl, hb1⟩
    have Ht1 := Lib.hid (Ht.out.below hb1); have Hr1 := Lib.hid (Hr.out.below hb1 (Nat.le_refl _))
    have Hb1 := Lib.hid hb1; have hs1 := hb1.size; clear hb1
    go_wp2_with fail
    refine (csum_calls A n cap _ bs w1 Ht1.out Hn.out (by unfold maxLen; omega) Hr1.out).mono ?_
    rintro e w' ⟨rfl, rfl⟩
    go_wp2_with fail
    refine (behind_calls A n cap _ bs _ w1 Hn.out hbig Hnil.out hs1 Hr1.out).mono ?_
    rintro e w2 ⟨A2, cap2, rfl, hown2, hb2⟩
    have Ht2 := Lib.hid (Ht1.out.below hb2); have Hr2 := Lib.hid (Hr1.out.below hb2 hs1)
    have Hb2 := Lib.hid (Hb1.out.trans (hb2.mono hs1)); have hs2 := Hb2.out.size
    have Hown2 := Lib.hid hown2
    clear hb2 hown2
    have HL := Lib.hid (show n + 4 = (bs ++ Crc.be (Crc.sum bs)).length by rw [List.length_append, ← Hn.out]; rfl)
    have HO := Lib.hid (show w2.ownsRow w1.heap.size 5 1 (.slice A2 (n + 4) cap2) (n + 4) ((bs ++ Crc.be (Crc.sum bs)).map V8) from Hown2.out)
    have Htwo := Lib.hid (two_res (bs ++ Crc.be (Crc.sum bs)) u v _ (by rw [← HL.out]; omega) (by rw [← HL.out]; omega) (by rw [← HL.out]; omega) (Crc.sum_behind bs))
    clear Hown2
    generalize bs ++ Crc.be (Crc.sum bs) = own at Htwo HL HO
    go_wp2_with fail
    refine (flip_calls _ rfl A2 (n + 4) cap2 _ u own w2 HL.out (by omega) (by omega) (own_nil HO.out) (Nat.le_refl _) (own_rd HO.out)).mono ?_
    rintro e w3 ⟨A3, cap3, rfl, hown3, hb3⟩
    have Ht3 := Lib.hid (Ht2.out.below hb3); have Hr3 := Lib.hid (Hr2.out.below hb3 hs2)
    have Hb3 := Lib.hid (Hb2.out.trans (hb3.mono hs2)); have hs3 := Hb3.out.size
    have Hown3 := Lib.hid hown3
    clear hb3 hown3
    go_wp2_with fail
    refine (flip_calls _ rfl A3 (n + 4) cap3 _ v _ w3 (by rw [Crc.flipBit_length]; exact HL.out) (by omega) (by omega) (own_nil Hown3.out) (Nat.le_refl _) (own_rd Hown3.out)).mono ?_
    rintro e w4 ⟨A4, cap4, rfl, hown4, hb4⟩
    have Ht4 := Lib.hid (Ht3.out.below hb4); have Hr4 := Lib.hid (Hr3.out.below hb4 hs3)
    have Hb4 := Lib.hid (Hb3.out.trans (hb4.mono hs3)); have hs4 := Hb4.out.size
    have Hown4 := Lib.hid hown4
    clear hb4 hown4
    go_wp2_with fail
    refine (csum_calls A4 (n + 4) cap4 _ _ w4 Ht4.out (by rw [Crc.flipBit_length, Crc.flipBit_length]; exact HL.out) (by unfold maxLen; omega) (own_rd Hown4.out)).mono ?_
    rintro e w' ⟨rfl, rfl⟩
    obtain ⟨q, hq1, hq2, hq3⟩ : ∃ q : Bool, ((u : Int) == (v : Int)) = q ∧ (u == v) = q ∧ ((n32 (Crc.sum (Crc.flipBit (Crc.flipBit own u) v)) : Int) == 955982468) = q := by
      refine ⟨decide (u = v), ?_, ?_, ?_⟩
      · by_cases huv : u = v
        · subst huv; simp
        · rw [decide_eq_false huv, beq_eq_false_iff_ne]; omega
      · by_cases huv : u = v
        · subst huv; simp
        · rw [decide_eq_false huv, beq_eq_false_iff_ne]; exact huv
      · rw [kRes]; exact decide_eq_decide.2 Htwo.out
    by_cases h0 : n = 0
    · subst h0
      go_wp2_with fail
      go_ret
      exact ⟨rfl, Hb4.out⟩
    · obtain ⟨s, hs, hs1'⟩ := into_bits i (8 * (n : Int)) (by omega) (by omega)
      obtain ⟨t, ht, ht1⟩ := into_bits j (8 * (n : Int)) (by omega) (by omega)
      have hne2 : (8 * (n : Int)) ≠ 0 := by omega
      have hne3 : ((8 * (n : Int)) == 0) = false := by simp; omega
      have Htwo2 := Lib.hid (two_res bs s t _ (by rw [← Hn.out]; omega) (by rw [← Hn.out]; omega) (by rw [← Hn.out]; omega) rfl)
      have Hh0 := Lib.hid h0; clear h0
      go_wp2_with fail
      refine (flip_calls _ rfl A n cap _ s bs w4 Hn.out (by omega) (by omega) Hnil.out hs4 Hr4.out).mono ?_
      rintro e w5 ⟨A5, cap5, rfl, hown5, hb5⟩
      have Ht5 := Lib.hid (Ht4.out.below hb5); have Hr5 := Lib.hid (Hr4.out.below hb5 hs4)
      have Hb5 := Lib.hid (Hb4.out.trans (hb5.mono hs4)); have hs5 := Hb5.out.size
      have Hown5 := Lib.hid hown5
      clear hb5 hown5
      go_wp2_with fail
      refine (flip_calls _ rfl A5 n cap5 _ t _ w5 (by rw [Crc.flipBit_length]; exact Hn.out) (by omega) (by omega) (own_nil Hown5.out) (Nat.le_refl _) (own_rd Hown5.out)).mono ?_
      rintro e w6 ⟨A6, cap6, rfl, hown6, hb6⟩
      have Ht6 := Lib.hid (Ht5.out.below hb6); have Hr6 := Lib.hid (Hr5.out.below hb6 hs5)
      have Hb6 := Lib.hid (Hb5.out.trans (hb6.mono hs5))
      have Hown6 := Lib.hid hown6
      clear hb6 hown6
      go_wp2_with fail
      refine (csum_calls A n cap _ bs w6 Ht6.out Hn.out (by unfold maxLen; omega) Hr6.out).mono ?_
      rintro e w' ⟨rfl, rfl⟩
      go_wp2_with fail
      refine (csum_calls A6 n cap6 _ _ w6 Ht6.out (by rw [Crc.flipBit_length, Crc.flipBit_length]; exact Hn.out) (by unfold maxLen; omega) (own_rd Hown6.out)).mono ?_
      rintro e w' ⟨rfl, rfl⟩
      obtain ⟨q', hq4, hq5, hq6⟩ : ∃ q : Bool, ((s : Int) != (t : Int)) = q ∧ (s != t) = q ∧ ((n32 (Crc.sum bs) : Int) != (n32 (Crc.sum (Crc.flipBit (Crc.flipBit bs s) t)) : Int)) = q := by
        refine ⟨!decide (s = t), ?_, ?_, ?_⟩
        · by_cases huv : s = t
          · subst huv; simp
          · rw [decide_eq_false huv]; simp; omega
        · by_cases huv : s = t
          · subst huv; simp
          · rw [decide_eq_false huv]; simp; omega
        · rw [n32_bne]; congr 1; exact decide_eq_decide.2 ⟨fun h => Htwo2.out.1 h.symm, fun h => (Htwo2.out.2 h).symm⟩
      go_wp2_with fail
      go_ret
      exact ⟨rfl, Hb6.out⟩
  · go_enter Tryd.func11, Tryd.ntmps11
    go_wp2_with fail
    refine H1.out.mono ?_
    rintro e w1 ⟨rfl, hb1⟩
    have Hb1 := Lib.hid hb1; clear hb1
    go_wp2_with fail
    go_ret
    exact ⟨rfl, Hb1.out⟩
theorem walk_two (A : Option Addr) (n cap : Nat) (bs : List (BitVec 8)) (a p : Int) (w : World) (hb : Arg8 w A n cap bs) (h1 : (Lit.int .i64 a).wf = true) (h2 : (Lit.int .i64 p).wf = true) (ht : TabIn w) :
    Calls Tryd.prog 11 #[.slice A n cap, .int .i64 a, .int .i64 p] w fun e w' => e = .returned (.bool true) ∧ Below w.heap.size w w' := law_two A n cap bs a p w hb h1 h2 ht
end Go.Proofs.YtcjedjknelgagaaDoor
