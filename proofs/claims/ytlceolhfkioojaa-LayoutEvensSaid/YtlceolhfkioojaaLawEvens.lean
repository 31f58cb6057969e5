/- LayoutEvens: the walk -/
import Derived.Test.YtlceolhfkioojaaLift
namespace Go.Proofs.Ytlceolhfkioojaa
open Go.ChangeShapes Go.WideShapes Go.ChangeAt Go.RowKit
set_option linter.unusedSimpArgs false
set_option linter.unusedVariables false
theorem evenE_cases (n s : Int) : La.evenE n s = 0 ∨ La.evenE n s = 41 ∨ La.evenE n s = 100 := by
  unfold La.evenE; split
  · exact Or.inr (Or.inl rfl)
  · split
    · exact Or.inl rfl
    · exact Or.inr (Or.inr rfl)
set_option maxHeartbeats 4000000 in
set_option maxRecDepth 20000 in
theorem law_evens (n s : Int) (A : Option Addr) (k cap : Nat) (qs : List Int) (w : World) (hnw : (Lit.int .i64 n).wf = true) (hsw : (Lit.int .i64 s).wf = true) (ha : InI w A k cap qs) :
    Calls Try.prog 7 #[.int .i64 n, .int .i64 s, .slice A k cap] w fun e w' => e = .returned (.bool true) ∧ Below w.heap.size w w' := by
  obtain ⟨hk, hc, hcm, hnil, hr, hz⟩ := ha
  have Hk := Lib.hid hk; have Hr := Lib.hid hr; have Hz := Lib.hid (fun q hq => (hz q hq).2); have Hcm := Lib.hid hcm
  clear hk hnil hr hz hnw hsw
  go_enter Try.func7, Try.ntmps7
  go_wp2_with fail
  refine (first_calls w).mono ?_
  rintro e w1 ⟨rfl, hb1⟩
  have hs1 := hb1.size
  have Hb1 := Lib.hid hb1
  clear hb1
  by_cases hbig : k ≤ 65536
  · have hbi : ¬ (65536 : Int) < (k : Int) := by omega
    go_wp2_with fail
    refine (Even_calls n s w1).mono ?_
    rintro e w2 ⟨hb2, hans⟩
    have hs2 := hb2.size
    have Hb2 := Lib.hid (Hb1.out.trans (hb2.mono hs1))
    clear hb2
    rcases hans with ⟨h0, g, A2, cap2, rfl, hlay⟩ | ⟨hne, rfl⟩
    · have H0 := Lib.hid h0; have Hlay := Lib.hid hlay; have Hgood := Lib.hid (La.good_even h0)
      clear h0 hlay
      go_wp2_with fail
      refine (rEven_calls n s w2).mono ?_
      rintro e w3 ⟨hb3, (⟨_, A3, cap3, rfl, hown3⟩ | ⟨hne, _⟩)⟩
      case inr => exact absurd H0.out hne
      obtain ⟨p1, p2⟩ := own_cap hown3
      have Hb3 := Lib.hid (Hb2.out.trans (hb3.mono Hb2.out.size)); have Hlay3 := Lib.hid (Hlay.out.below hb3); have Hown3 := Lib.hid hown3
      have Hrd3 := Lib.hid (own_rd hown3)
      clear hb3 hown3 Hlay
      generalize s.toNat = S at *
      go_wp2_with (go_at_call 15; refine (num_calls 0 _ (by omega) (by omega)).mono ?_; rintro e w' ⟨rfl, rfl⟩)
      refine (tells_calls g A2 S cap2 _ (La.evenL n s S) n A3 cap3 w3.heap.size A k cap w.heap.size qs w3 Hlay3.out Hgood.out p1 p2 (Nat.le_refl _) Hrd3.out Hk.out (by omega) hc Hcm.out Hb3.out.size (Hr.out.below Hb3.out (Nat.le_refl _)) Hz.out).mono ?_
      rintro e w4 ⟨rfl, hb4⟩
      have Hb4 := Lib.hid (Hb3.out.trans (hb4.mono Hb3.out.size))
      clear hb4
      go_wp2_with fail
      go_ret
      exact ⟨rfl, Hb4.out⟩
    · have Hne := Lib.hid hne
      clear hne
      go_wp2_with fail
      refine (rEven_calls n s w2).mono ?_
      rintro e w3 ⟨hb3, (⟨h0, _⟩ | ⟨_, rfl⟩)⟩
      case inl => exact absurd h0 Hne.out
      have Hb3 := Lib.hid (Hb2.out.trans (hb3.mono Hb2.out.size))
      have hE := evenE_cases n s
      have hne0 : (La.evenE n s == 0) = false := by rw [beq_eq_false_iff_ne]; exact Hne.out
      have hee : (La.evenE n s != La.evenE n s) = false := by simp
      have hE0 : 0 ≤ La.evenE n s ∧ La.evenE n s ≤ 1000 := by omega
      clear hb3 hE
      generalize La.evenE n s = E at *
      go_wp2_with (go_at_call 15; refine (num_calls E _ hE0.1 hE0.2).mono ?_; rintro e w' ⟨rfl, rfl⟩)
      go_ret
      exact ⟨rfl, Hb3.out⟩
  · have hbi : (65536 : Int) < (k : Int) := by omega
    go_wp2_with fail
    go_ret
    exact ⟨rfl, Hb1.out⟩
end Go.Proofs.Ytlceolhfkioojaa
