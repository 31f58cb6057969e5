/- LayoutEven: the walk -/
import Derived.Test.YtlceolhfkioojaaLift
namespace Go.Proofs.Ytlceolhfkioojaa
open Go.ChangeShapes Go.WideShapes Go.ChangeAt Go.RowKit
set_option linter.unusedSimpArgs false
set_option linter.unusedVariables false
theorem even_lo (n s : Int) (k a : Nat) (h : a < k) : La.lo (La.evenL n s k) a = (a : Int) * n / s := by
  cases a with
  | zero => rw [La.lo_zero]; simp
  | succ a => rw [La.lo_succ, La.evenL_get n s k a (by omega)]; norm_cast
set_option maxHeartbeats 4000000 in
set_option maxRecDepth 20000 in
theorem law_even (n s : Int) (w : World) (hnw : (Lit.int .i64 n).wf = true) (hsw : (Lit.int .i64 s).wf = true) :
    Calls Try.prog 9 #[.int .i64 n, .int .i64 s] w fun e w' => e = .returned (.bool true) ∧ Below w.heap.size w w' := by
  clear hnw hsw
  go_enter Try.func9, Try.ntmps9
  go_wp2_with fail
  refine (first_calls w).mono ?_
  rintro e w1 ⟨rfl, hb1⟩
  have hs1 := hb1.size
  have Hb1 := Lib.hid hb1
  clear hb1
  by_cases h1 : n < 1
  · go_wp2_with fail
    go_ret
    exact ⟨rfl, Hb1.out⟩
  by_cases h2 : 16777216 < n
  · go_wp2_with fail
    go_ret
    exact ⟨rfl, Hb1.out⟩
  by_cases h3 : s < 1
  · go_wp2_with fail
    go_ret
    exact ⟨rfl, Hb1.out⟩
  by_cases h4 : n < s
  · go_wp2_with fail
    go_ret
    exact ⟨rfl, Hb1.out⟩
  by_cases h5 : 1000 < s
  · go_wp2_with fail
    go_ret
    exact ⟨rfl, Hb1.out⟩
  obtain ⟨S, rfl⟩ : ∃ S : Nat, s = (S : Int) := ⟨s.toNat, by omega⟩
  have hm : La.many n (S : Int) = true := by
    unfold La.many; rw [if_neg (by omega), decide_eq_true (by omega), decide_eq_true (by omega), decide_eq_true (by omega)]; rfl
  have h0 : La.evenE n (S : Int) = 0 := La.evenE_good (by omega) hm
  have H0 := Lib.hid h0
  clear hm h0
  have hS : S ≤ 1000 := by omega
  have hS1 : 1 ≤ S := by omega
  go_wp2_with fail
  refine (Even_calls n (S : Int) w1).mono ?_
  rintro e w2 ⟨hb2, hans⟩
  have hs2 := hb2.size
  have Hb2 := Lib.hid (Hb1.out.trans (hb2.mono hs1))
  clear hb2
  rcases hans with ⟨_, g, A2, cap2, rfl, hlay⟩ | ⟨hne, _⟩
  case inr => exact absurd H0.out hne
  have hgood : La.Good n (La.evenL n (S : Int) S) := by have := La.good_even H0.out; rwa [Int.toNat_natCast] at this
  rw [Int.toNat_natCast] at hlay
  have Hlay := Lib.hid hlay; have Hgood := Lib.hid hgood
  have hSS : ((S : Int) != (S : Int)) = false := by simp
  have hq1 : 1 ≤ n / (S : Int) := Int.le_ediv_of_mul_le (by omega) (by omega)
  have hq2 : n / (S : Int) ≤ n := Int.ediv_le_self _ (by omega)
  have Hstep := Lib.hid (fun a => La.even_step n (S : Int) a (by omega) (by omega))
  generalize n / (S : Int) = q at *
  clear hlay hgood
  go_wp2_with (first
    | (go_at_call 15; refine (num_calls 0 _ (by omega) (by omega)).mono ?_; rintro e w' ⟨rfl, rfl⟩)
    | (go_at_call 22; refine (Shards_calls g A2 S cap2 _ _ _ Hlay.out).mono ?_; rintro e w' ⟨rfl, rfl⟩))
  go_loopw [8, 9, 10] (fun l gr i wr => ∃ (a : Nat) (L G : Int), i = .int .i64 (a : Int) ∧ l = .int .i64 L ∧ gr = .int .i64 G ∧ a ≤ S ∧ q ≤ L ∧ L ≤ n ∧ 0 ≤ G ∧ G ≤ q + 1 ∧ LayIs wr w1.heap.size g A2 S cap2 (La.evenL n (S : Int) S) ∧ Below w.heap.size w wr) (fun _ _ i _ => S - (intOf i).toNat)
  case atStart => exact ⟨0, n, 0, rfl, rfl, rfl, by omega, by omega, by omega, by omega, by omega, Hlay.out, Hb2.out⟩
  case round =>
    obtain ⟨a, L, G, rfl, rfl, rfl, ha, hL1, hL2, hG1, hG2, hlay, hbl⟩ := hrel
    have Hlayr := Lib.hid hlay; have Hblr := Lib.hid hbl
    clear hlay hbl
    by_cases hlt : a < S
    · have l1 : (a : Int) < (S : Int) := by omega
      have hst := Hstep.out a
      have hlo := La.good_lo Hgood.out a (by rw [La.evenL_length]; exact hlt)
      have Hri := Lib.hid (La.rng_in (La.evenL n (S : Int) S) a (by rw [La.evenL_length]; exact hlt))
      rw [even_lo n (S : Int) S a hlt, La.evenL_get n (S : Int) S a hlt] at Hri hlo
      go_wp2_with fail
      refine (Range_calls g A2 S cap2 _ _ (a : Int) wr Hlayr.out (by omega)).mono ?_
      rintro e w3 ⟨rfl, k3, rfl⟩
      rw [Hri.out]
      have Hlay3 := Lib.hid (Hlayr.out.below (below_drewN (Below.refl _ _) k3)); have Hb3 := Lib.hid (below_drewN Hblr.out k3)
      generalize wr.drewN k3 = w3 at *
      generalize ((a : Int) + 1) * n / (S : Int) = hi at *
      generalize (a : Int) * n / (S : Int) = lo at *
      clear Hri Hstep
      by_cases d1 : hi - lo < L
      · by_cases d2 : G < hi - lo
        · go_wp2_with fail
          exact ⟨⟨a + 1, hi - lo, hi - lo, by congr 1, rfl, rfl, by omega, by omega, by omega, by omega, by omega, Hlay3.out, Hb3.out⟩, by simp [intOf]; omega⟩
        · go_wp2_with fail
          exact ⟨⟨a + 1, hi - lo, G, by congr 1, rfl, rfl, by omega, by omega, by omega, by omega, by omega, Hlay3.out, Hb3.out⟩, by simp [intOf]; omega⟩
      · by_cases d2 : G < hi - lo
        · go_wp2_with fail
          exact ⟨⟨a + 1, L, hi - lo, by congr 1, rfl, rfl, by omega, by omega, by omega, by omega, by omega, Hlay3.out, Hb3.out⟩, by simp [intOf]; omega⟩
        · go_wp2_with fail
          exact ⟨⟨a + 1, L, G, by congr 1, rfl, rfl, by omega, by omega, by omega, by omega, by omega, Hlay3.out, Hb3.out⟩, by simp [intOf]; omega⟩
    · have l1 : ¬ (a : Int) < (S : Int) := by omega
      have f1 : G - L ≤ 1 := by omega
      have f2 : 1 ≤ L := by omega
      go_wp2_with fail
      go_ret
      exact ⟨rfl, Hblr.out⟩
end Go.Proofs.Ytlceolhfkioojaa
