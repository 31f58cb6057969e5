/- pithlaw24.num, first -/
import Derived.Test.YtjbidjidfkkikaaSpL
namespace Go.Proofs.Ytjbidjidfkkikaa
open Go.RowKit
set_option linter.unusedSimpArgs false
set_option linter.unusedVariables false
theorem num_calls (x : Int) (w : World) (h0 : 0 ≤ x) (h1 : x ≤ 1000) : Calls Try.prog 25 #[.int .i64 x] w fun e w' => e = .returned (.int .i64 x) ∧ w = w' := by
  go_enter Try.func25, Try.ntmps25
  go_wp2_with fail
  go_ret
  exact ⟨rfl, rfl⟩
theorem lit_below (w : World) (C : Array Value) (t : TypeId) : Below w.heap.size w (w.alloc (.cells C t)) := (Below.refl _ _).alloc (Nat.le_refl _) _
/-- The chapter's examples. -/
def Sp.want : List (Nat × Nat) := [(0, 0), (4607182418800017408, 0), (4607182418800017408, 4607182418800017408), (0, 4607182418800017408), (13830554455654793216, 4607182418800017408), (13830554455654793216, 0), (13830554455654793216, 13830554455654793216), (0, 13830554455654793216), (4607182418800017408, 13830554455654793216), (4611686018427387904, 13830554455654793216)]
theorem Sp.want_get : ∀ a, a < 10 → Sp.want[a]? = some (fv (Sp.spot a).1, fv (Sp.spot a).2) := by decide +kernel
theorem two_n : Fl.IsN 4611686018427387904 2 := ⟨false, 51, by decide, by decide, by decide⟩
theorem mtwo_n : Fl.IsN 13835058055282163712 (-2) := ⟨true, 51, by decide, by decide, by decide⟩
theorem idx24 : Sp.IdxIs 24 2 (-2) := ⟨2, 3, 3, by decide, by decide, by decide, by decide, by decide⟩
theorem first_pl : Sp.pl (Sp.insN (fun x y => decide (Sp.cf [1, 2, 0, 2] x y < 0)) 0 (4 - 1) 1 ((List.range 4).map fun i : Nat => (i : Int))) 4 4 =
    [(4607182418800017408, 4607182418800017408), (0, 0), (0, 4607182418800017408), (4607182418800017408, 0)] := by decide +kernel
theorem own1_fv (v : Int) (u : Int) (h : v.natAbs < 2 ^ 53) (k : u.natAbs < 2 ^ 53) : Own1 (fv v, fv u) := ⟨ord_self (fv_n v h), ord_self (fv_n u k)⟩
theorem first_side : Sp.side 10 = 5 := by decide +kernel
theorem Sp.spot_small (i : Nat) (hi : i < 16777216) : (Sp.spot i).1.natAbs < 2 ^ 53 ∧ (Sp.spot i).2.natAbs < 2 ^ 53 := by
  by_cases h0 : i = 0
  · subst h0; decide
  obtain ⟨r, s, al, h1, h2, h3, h4, -, -, -⟩ := Sp.spot_parts h0
  rw [Sp.spot_eq h1 h2 h3 h4]
  have hr : r ≤ 16777216 := by
    have : (2 * r - 1) * 1 ≤ (2 * r - 1) * (2 * r - 1) := Nat.mul_le_mul_left _ (by omega)
    omega
  exact tn_small s _ _ (2 ^ 53) (by omega) (by omega)
theorem rd_lit (w : World) (C : Array Value) (t : TypeId) (vs : List Value) (h : C.toList = vs) : Rd (w.alloc (.cells C t)) (w.heap.size + 1) (some ⟨w.heap.size, 0, none⟩) vs := rd_fresh w _ C t (0, 0) vs rfl h
set_option maxHeartbeats 4000000 in
theorem first_calls (w : World) : Calls Try.prog 13 #[] w fun e w' => e = .returned (.bool true) ∧ Below w.heap.size w w' := by
  go_enter Try.func13, Try.ntmps13
  go_wp2_with fail
  have hb1 := lit_below w #[.complex .f64 0 0, .complex .f64 4607182418800017408 0, .complex .f64 4607182418800017408 4607182418800017408, .complex .f64 0 4607182418800017408, .complex .f64 13830554455654793216 4607182418800017408, .complex .f64 13830554455654793216 0, .complex .f64 13830554455654793216 13830554455654793216, .complex .f64 0 13830554455654793216, .complex .f64 4607182418800017408 13830554455654793216, .complex .f64 4611686018427387904 13830554455654793216] 23
  have hr1 := rd_lit w #[.complex .f64 0 0, .complex .f64 4607182418800017408 0, .complex .f64 4607182418800017408 4607182418800017408, .complex .f64 0 4607182418800017408, .complex .f64 13830554455654793216 4607182418800017408, .complex .f64 13830554455654793216 0, .complex .f64 13830554455654793216 13830554455654793216, .complex .f64 0 13830554455654793216, .complex .f64 4607182418800017408 13830554455654793216, .complex .f64 4611686018427387904 13830554455654793216] 23 (Sp.want.map VC) rfl
  have hs1 : (w.alloc (.cells #[.complex .f64 0 0, .complex .f64 4607182418800017408 0, .complex .f64 4607182418800017408 4607182418800017408, .complex .f64 0 4607182418800017408, .complex .f64 13830554455654793216 4607182418800017408, .complex .f64 13830554455654793216 0, .complex .f64 13830554455654793216 13830554455654793216, .complex .f64 0 13830554455654793216, .complex .f64 4607182418800017408 13830554455654793216, .complex .f64 4611686018427387904 13830554455654793216] 23)).heap.size = w.heap.size + 1 := by simp
  generalize w.alloc (.cells #[.complex .f64 0 0, .complex .f64 4607182418800017408 0, .complex .f64 4607182418800017408 4607182418800017408, .complex .f64 0 4607182418800017408, .complex .f64 13830554455654793216 4607182418800017408, .complex .f64 13830554455654793216 0, .complex .f64 13830554455654793216 13830554455654793216, .complex .f64 0 13830554455654793216, .complex .f64 4607182418800017408 13830554455654793216, .complex .f64 4611686018427387904 13830554455654793216] 23) = w1 at *
  have Hb1 := Lib.hid hb1; have Hr1 := Lib.hid hr1
  clear hb1 hr1
  go_loopw [2] (fun i wr => ∃ a : Nat, i = .int .i64 (a : Int) ∧ a ≤ 10 ∧ ∃ k, wr = w1.drewN k) (fun i _ => 10 - (intOf i).toNat)
  case atStart => exact ⟨0, rfl, by omega, 0, rfl⟩
  case round =>
    obtain ⟨a, rfl, ha, hd⟩ := hrel
    have Hd := Lib.hid hd; clear hd
    by_cases hlt : a < 10
    · have q1 : (a : Int) < 10 := by omega
      obtain ⟨s1, s2⟩ := Sp.spot_small a (by omega)
      obtain ⟨o1, o2⟩ := own1_fv (Sp.spot a).1 (Sp.spot a).2 s1 s2
      have hg := Sp.want_get a hlt
      obtain ⟨b, off, he, hb, hc⟩ := rd_getc (w := wr) (by obtain ⟨d, rfl⟩ := Hd.out; exact Hr1.out) hg
      injection he with he; injection he with e1 e2
      subst e1 e2
      clear hg
      go_wp2_with fail
      refine (Spot_calls a (by omega) wr).mono ?_
      rintro e w2 ⟨rfl, k2, rfl⟩
      have Hd2 := Lib.hid (show ∃ k, wr.drewN k2 = w1.drewN k by obtain ⟨d, rfl⟩ := Hd.out; exact ⟨_, World.drewN_drewN _ _ _⟩)
      have hc2 : (wr.drewN k2).cell? ⟨w.heap.size, 0 + a, none⟩ = some (VC (fv (Sp.spot a).1, fv (Sp.spot a).2)) := hc
      generalize wr.drewN k2 = w2 at *
      rw [Nat.zero_add] at hc2
      clear hc
      go_wp2_with fail
      exact ⟨⟨a + 1, by congr 1, by omega, Hd2.out⟩, by simp [intOf]; omega⟩
    · have q1 : ¬ (a : Int) < 10 := by omega
      have Hbr : Hid (Below w.heap.size w wr) := Lib.hid (by obtain ⟨d, rfl⟩ := Hd.out; exact below_drewN Hb1.out d)
      have hsr : w.heap.size + 1 ≤ wr.heap.size := by obtain ⟨d, rfl⟩ := Hd.out; show _ ≤ w1.heap.size; omega
      clear Hd Hb1 Hr1 hs1
      go_wp2_with fail
      refine (Index_yes 4611686018427387904 13835058055282163712 24 2 (-2) two_n mtwo_n (by decide) (by decide) (by decide) (by decide) idx24 wr).mono ?_
      rintro e w2 ⟨rfl, rfl⟩
      go_wp2_with fail
      have hb3 := lit_below wr #[.int .i64 1, .int .i64 2, .int .i64 0, .int .i64 2] 3
      have hs3 : (wr.alloc (.cells #[.int .i64 1, .int .i64 2, .int .i64 0, .int .i64 2] 3)).heap.size = wr.heap.size + 1 := by simp
      have hr3 := rd_lit wr #[.int .i64 1, .int .i64 2, .int .i64 0, .int .i64 2] 3 ([1, 2, 0, 2].map VI) rfl
      generalize wr.alloc (.cells #[.int .i64 1, .int .i64 2, .int .i64 0, .int .i64 2] 3) = w3 at *
      have Hb3 := Lib.hid (Hbr.out.trans (hb3.mono (by omega)))
      refine (place_small (some ⟨wr.heap.size, 0, none⟩) 4 4 (wr.heap.size + 1) [1, 2, 0, 2] w3 rfl (by decide) (by decide) (by decide) (by omega) hr3).mono ?_
      rintro e w4 ⟨A4, cap4, rfl, hown4, hb4⟩
      rw [first_pl] at hown4
      have Hb4 := Lib.hid (Hb3.out.trans (hb4.mono (by omega)))
      have hs4 := hb4.size
      have Hown4 := Lib.hid hown4
      clear hb3 hr3 hb4 hown4 Hb3 Hbr
      go_wp2_with fail
      have hb5 := lit_below w4 #[.complex .f64 4607182418800017408 4607182418800017408, .complex .f64 0 0, .complex .f64 0 4607182418800017408, .complex .f64 4607182418800017408 0] 23
      have hr5 := rd_lit w4 #[.complex .f64 4607182418800017408 4607182418800017408, .complex .f64 0 0, .complex .f64 0 4607182418800017408, .complex .f64 4607182418800017408 0] 23 ([(4607182418800017408, 4607182418800017408), (0, 0), (0, 4607182418800017408), (4607182418800017408, 0)].map VC) rfl
      have hr4 := own_rd (own_below Hown4.out hb5 (Nat.le_refl _))
      generalize w4.alloc (.cells #[.complex .f64 4607182418800017408 4607182418800017408, .complex .f64 0 0, .complex .f64 0 4607182418800017408, .complex .f64 4607182418800017408 0] 23) = w5 at *
      have Hb5 := Lib.hid (Hb4.out.trans (hb5.mono (by omega)))
      refine (sameC_calls A4 (some ⟨w4.heap.size, 0, none⟩) 4 cap4 4 _ _ [(4607182418800017408, 4607182418800017408), (0, 0), (0, 4607182418800017408), (4607182418800017408, 0)] w5 rfl (by decide) (by intro z hz; simp at hz; rcases hz with rfl | rfl | rfl | rfl <;> exact ⟨by decide, by decide⟩) hr4 hr5).mono ?_
      rintro e w6 ⟨rfl, k6, rfl⟩
      have Hb6 := Lib.hid (below_drewN Hb5.out k6)
      generalize w5.drewN k6 = w6 at *
      clear hb5 hr5 hr4 Hb4 Hb5 Hown4
      have hside := Side_calls 10 (by decide) (by decide)
      rw [first_side] at hside
      have Hside := Lib.hid hside
      clear hside
      go_wp2_with (first
        | (go_at_call 25; refine (num_calls 0 _ (by omega) (by omega)).mono ?_; rintro e w' ⟨rfl, rfl⟩)
        | (go_at_call 31; refine (Hside.out _).mono ?_; rintro e w' ⟨rfl, rfl⟩))
      go_ret
      exact ⟨rfl, Hb6.out⟩
end Go.Proofs.Ytjbidjidfkkikaa
