/- LayoutSound: the walk -/
import Derived.Test.YtlceolhfkioojaaLaL
namespace Go.Proofs.Ytlceolhfkioojaa
open Go.ChangeShapes Go.WideShapes Go.ChangeAt Go.RowKit
set_option linter.unusedSimpArgs false
set_option linter.unusedVariables false
def OptL (w : World) (p : Option Addr) : Prop := p = none ∨ ∃ g A n cap base zs N, p = some ⟨g, 0, none⟩ ∧ LayIs w base g A n cap zs ∧ La.Good N zs
theorem OptL.below {w w' : World} {p : Option Addr} (h : OptL w p) (hb : Below w.heap.size w w') : OptL w' p := by
  rcases h with h | ⟨g, A, n, cap, base, zs, N, h1, h2, h3⟩
  · exact Or.inl h
  · exact Or.inr ⟨g, A, n, cap, base, zs, N, h1, h2.below hb, h3⟩
theorem OptL.calls {w : World} {p : Option Addr} (h : OptL w p) (A2 : Option Addr) (k cap2 B2 : Nat) (qs : List Int) (hk : k = qs.length) (hkm : k ≤ 9223372036854775807) (hB2 : B2 ≤ w.heap.size) (hr2 : Rd w B2 A2 (qs.map VI)) (hq : ∀ q ∈ qs, q ≤ 9223372036854775807) :
    p = none ∨ ∃ g, p = some ⟨g, 0, none⟩ ∧ ∀ w', Below w.heap.size w w' → Calls Try.prog 28 #[.pointer (some ⟨g, 0, none⟩), .slice A2 k cap2] w' fun e w'' => e = .returned (.bool true) ∧ Below w'.heap.size w' w'' := by
  rcases h with h | ⟨g, A, n, cap, base, zs, N, h1, h2, h3⟩
  · exact Or.inl h
  · exact Or.inr ⟨g, h1, fun w' hb => sound_calls g A n cap base zs N A2 k cap2 B2 qs w' (h2.below hb) h3 hk hkm (Nat.le_trans hB2 hb.size) (hr2.below hb hB2) hq⟩
set_option maxHeartbeats 8000000 in
set_option maxRecDepth 20000 in
theorem law_sound (n : Int) (A1 : Option Addr) (k1 cap1 : Nat) (zs : List Int) (A2 : Option Addr) (k2 cap2 : Nat) (ds : List Int) (s : Int) (A3 : Option Addr) (k3 cap3 : Nat) (qs : List Int) (w : World)
    (hnw : (Lit.int .i64 n).wf = true) (ha1 : InI w A1 k1 cap1 zs) (ha2 : InI w A2 k2 cap2 ds) (hsw : (Lit.int .i64 s).wf = true) (ha3 : InI w A3 k3 cap3 qs) :
    Calls Try.prog 8 #[.int .i64 n, .slice A1 k1 cap1, .slice A2 k2 cap2, .int .i64 s, .slice A3 k3 cap3] w fun e w' => e = .returned (.bool true) ∧ Below w.heap.size w w' := by
  obtain ⟨hn1, hc1, hcm1, hnil1, hr1, _⟩ := ha1
  obtain ⟨hn2, hc2, hcm2, hnil2, hr2, _⟩ := ha2
  obtain ⟨hn3, hc3, hcm3, hnil3, hr3, hz3⟩ := ha3
  have Hn1 := Lib.hid hn1; have Hr1 := Lib.hid hr1; have Hcm1 := Lib.hid hcm1; have Hnil1 := Lib.hid hnil1
  have Hn2 := Lib.hid hn2; have Hr2 := Lib.hid hr2; have Hcm2 := Lib.hid hcm2
  have Hn3 := Lib.hid hn3; have Hr3 := Lib.hid hr3; have Hcm3 := Lib.hid hcm3; have Hq := Lib.hid (fun q hq => (hz3 q hq).2)
  unfold maxLen at hcm1 hcm2 hcm3
  clear hn1 hn2 hn3 hr1 hr2 hr3 hnil1 hnil2 hnil3 hz3 hnw hsw
  go_enter Try.func8, Try.ntmps8
  go_wp2_with fail
  refine (first_calls w).mono ?_
  rintro e w1 ⟨rfl, hb1⟩
  have hs1 := hb1.size
  have Hb1 := Lib.hid hb1
  clear hb1
  by_cases hbig : k1 ≤ 65536
  · have hbi : ¬ (65536 : Int) < (k1 : Int) := by omega
    by_cases hbig2 : k2 ≤ 65536
    · have hbi2 : ¬ (65536 : Int) < (k2 : Int) := by omega
      go_wp2_with fail
      refine (New_calls n A1 k1 cap1 w.heap.size zs w1 Hn1.out (by omega) Hnil1.out hs1 (Hr1.out.below Hb1.out (Nat.le_refl _))).mono ?_
      rintro e w2 ⟨hb2, hans⟩
      obtain ⟨p1, e1, rfl, hp1⟩ : ∃ p x, e = .returned (.tuple #[.pointer p, .int .i64 x]) ∧ OptL w2 p := hans.elim (fun ⟨h0, g, A', c', he, hl⟩ => ⟨_, _, he, Or.inr ⟨g, A', _, c', _, _, _, rfl, hl, La.good_new h0⟩⟩) (fun ⟨_, he⟩ => ⟨_, _, he, Or.inl rfl⟩)
      have Hb2 := Lib.hid (Hb1.out.trans (hb2.mono hs1)); have Hp1 := Lib.hid hp1
      clear hb2 hans hp1
      go_wp2_with fail
      refine (Even_calls n s w2).mono ?_
      rintro e w3 ⟨hb3, hans⟩
      obtain ⟨p2, e2, rfl, hp2⟩ : ∃ p x, e = .returned (.tuple #[.pointer p, .int .i64 x]) ∧ OptL w3 p := hans.elim (fun ⟨h0, g, A', c', he, hl⟩ => ⟨_, _, he, Or.inr ⟨g, A', _, c', _, _, _, rfl, hl, La.good_even h0⟩⟩) (fun ⟨_, he⟩ => ⟨_, _, he, Or.inl rfl⟩)
      have Hb3 := Lib.hid (Hb2.out.trans (hb3.mono Hb2.out.size)); have Hp2 := Lib.hid hp2; have Hp13 := Lib.hid (Hp1.out.below hb3)
      clear hb3 hans hp2 Hp1 Hb2
      go_wp2_with fail
      refine (Balanced_calls A2 k2 cap2 w.heap.size ds s w3 Hn2.out (by omega) Hcm2.out Hb3.out.size (Hr2.out.below Hb3.out (Nat.le_refl _))).mono ?_
      rintro e w4 ⟨hb4, hans⟩
      obtain ⟨p3, e3, rfl, hp3⟩ : ∃ p x, e = .returned (.tuple #[.pointer p, .int .i64 x]) ∧ OptL w4 p := hans.elim (fun ⟨h0, g, A', c', he, hl⟩ => ⟨_, _, he, Or.inr ⟨g, A', _, c', _, _, _, rfl, hl, La.good_bal h0⟩⟩) (fun ⟨_, he⟩ => ⟨_, _, he, Or.inl rfl⟩)
      have Hb4 := Lib.hid (Hb3.out.trans (hb4.mono Hb3.out.size)); have hp14 := Hp13.out.below hb4; have hp24 := Hp2.out.below hb4
      clear hb4 hans Hp13 Hp2 Hb3
      have h1 := hp14.calls A3 k3 cap3 w.heap.size qs Hn3.out (by omega) Hb4.out.size (Hr3.out.below Hb4.out (Nat.le_refl _)) Hq.out
      have h2 := hp24.calls A3 k3 cap3 w.heap.size qs Hn3.out (by omega) Hb4.out.size (Hr3.out.below Hb4.out (Nat.le_refl _)) Hq.out
      have h3 := hp3.calls A3 k3 cap3 w.heap.size qs Hn3.out (by omega) Hb4.out.size (Hr3.out.below Hb4.out (Nat.le_refl _)) Hq.out
      clear hp14 hp24 hp3 Hr1 Hr2 Hr3 Hq Hn1 Hn2 Hn3 Hnil1
      have HB := Lib.hid (Below.refl w4.heap.size w4)
      rcases h1 with rfl | ⟨g1, rfl, h1⟩ <;> rcases h2 with rfl | ⟨g2, rfl, h2⟩ <;> rcases h3 with rfl | ⟨g3, rfl, h3⟩
      all_goals try (have S1 := Lib.hid h1; clear h1)
      all_goals try (have S2 := Lib.hid h2; clear h2)
      all_goals try (have S3 := Lib.hid h3; clear h3)
      all_goals go_wp2_with fail
      all_goals repeat (first
        | (refine (S1.out _ HB.out).mono ?_; clear S1; rintro e w7 ⟨rfl, hb7⟩; have HB' := Lib.hid (HB.out.trans (hb7.mono HB.out.size)); clear HB hb7; have HB := HB'; clear HB'; go_wp2_with fail)
        | (refine (S2.out _ HB.out).mono ?_; clear S2; rintro e w7 ⟨rfl, hb7⟩; have HB' := Lib.hid (HB.out.trans (hb7.mono HB.out.size)); clear HB hb7; have HB := HB'; clear HB'; go_wp2_with fail)
        | (refine (S3.out _ HB.out).mono ?_; clear S3; rintro e w7 ⟨rfl, hb7⟩; have HB' := Lib.hid (HB.out.trans (hb7.mono HB.out.size)); clear HB hb7; have HB := HB'; clear HB'; go_wp2_with fail))
      all_goals go_ret
      all_goals exact ⟨rfl, Hb4.out.trans (HB.out.mono Hb4.out.size)⟩
    · have hbi2 : (65536 : Int) < (k2 : Int) := by omega
      go_wp2_with fail
      go_ret
      exact ⟨rfl, Hb1.out⟩
  · have hbi : (65536 : Int) < (k1 : Int) := by omega
    go_wp2_with fail
    go_ret
    exact ⟨rfl, Hb1.out⟩
end Go.Proofs.Ytlceolhfkioojaa
