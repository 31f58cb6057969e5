/- SpiralPlaces: the walk -/
import Derived.Test.YtjbidjidfkkikaaSpN
import Derived.Test.YtjbidjidfkkikaaStJ
import Derived.Test.YtjbidjidfkkikaaLift
namespace Go.Proofs.Ytjbidjidfkkikaa
open Go.RowKit
set_option linter.unusedSimpArgs false
set_option linter.unusedVariables false
theorem cell_lt2 {w : World} {a : Addr} {v : Value} (h : w.cell? a = some v) : a.block < w.heap.size := by
  rcases Nat.lt_or_ge a.block w.heap.size with h1 | h1
  · exact h1
  · simp [World.cell?, Array.getElem?_eq_none h1] at h
theorem Sp.ps_small (T : List Int) (n : Nat) : ∀ k, k ≤ 16777216 → ∀ p ∈ Sp.ps T n k, p.1.natAbs < 2 ^ 53 ∧ p.2.natAbs < 2 ^ 53
  | 0, _, p, hp => by
    unfold Sp.ps at hp
    obtain ⟨_, rfl⟩ := List.mem_replicate.1 hp
    decide
  | k + 1, hk, p, hp => by
    unfold Sp.ps at hp
    rcases List.mem_or_eq_of_mem_set hp with h | h
    · exact Sp.ps_small T n k (by omega) p h
    · rw [h]; exact Sp.spot_small k (by omega)
set_option maxHeartbeats 4000000 in
set_option maxRecDepth 20000 in
theorem law_places (A : Option Addr) (n cap : Nat) (zs : List Int) (w : World) (ha : InI w A n cap zs) :
    Calls Try.prog 6 #[.slice A n cap] w fun e w' => e = .returned (.bool true) ∧ Below w.heap.size w w' := by
  obtain ⟨hn, hc, hcm, hnil, hr, _⟩ := ha
  have Hn := Lib.hid hn; have Hr := Lib.hid hr
  unfold maxLen at hcm
  clear hn hr hnil
  go_enter Try.func6, Try.ntmps6
  go_wp2_with fail
  refine (first_calls w).mono ?_
  rintro e w1 ⟨rfl, hb1⟩
  have hs1 := hb1.size
  have Hb1 := Lib.hid hb1
  clear hb1
  by_cases hbig : (3000 : Int) < (n : Int)
  · go_wp2_with fail
    go_ret
    exact ⟨rfl, Hb1.out⟩
  go_wp2_with fail
  refine (ints_calls A n cap w.heap.size zs w1 Hn.out (by omega) hs1 (Hr.out.below Hb1.out (Nat.le_refl _))).mono ?_
  rintro e w2 ⟨A2, cap2, rfl, hown2, hb2⟩
  have Hown2 := Lib.hid hown2
  have Hb2 := Lib.hid (Hb1.out.trans (hb2.mono hs1))
  have Hc2 := Lib.hid (Bk.own_caps hown2)
  clear hown2 hb2
  have hn3 : n ≤ 3000 := by omega
  by_cases hneg : ∃ z ∈ zs, z < 0
  · have Hneg := Lib.hid hneg
    clear hneg
    go_wp2_with fail
    refine (Place_neg A2 n cap2 w2.heap.size zs w2 Hn.out (by omega) Hneg.out (Nat.le_refl _) (Bk.own_rd Hown2.out)).mono ?_
    rintro e w3 ⟨rfl, hb3⟩
    have Hb3 := Lib.hid (Hb2.out.trans (hb3.mono Hb2.out.size))
    clear hb3
    go_wp2_with fail
    refine (RPlace_neg A n cap w.heap.size zs w3 Hn.out (by omega) Hneg.out Hb3.out.size (Hr.out.below Hb3.out (Nat.le_refl _))).mono ?_
    rintro e w4 ⟨rfl, rfl⟩
    go_wp2_with fail
    refine (num_calls 240 w3 (by decide) (by decide)).mono ?_
    rintro e w4 ⟨rfl, rfl⟩
    go_wp2_with fail
    go_loopw [8] (fun iv wr => iv = .int .i64 0 ∧ w3 = wr) (fun _ _ => 0)
    case atStart => exact ⟨rfl, rfl⟩
    case round =>
      obtain ⟨rfl, rfl⟩ := hrel
      go_wp2_with fail
      go_ret
      exact ⟨rfl, Hb3.out⟩
  · have Hpos := Lib.hid (show ∀ z ∈ zs, 0 ≤ z from fun z hz => by
      by_cases h : z < 0
      · exact absurd ⟨z, hz, h⟩ hneg
      · omega)
    clear hneg
    go_wp2_with fail
    refine (Place_calls A2 n cap2 w2.heap.size zs w2 Hn.out (by omega) Hpos.out (Nat.le_refl _) (Bk.own_rd Hown2.out)).mono ?_
    rintro e w3 ⟨T, A3, cap3, hT, rfl, hown3, hb3⟩
    have HT := Lib.hid hT
    have Hown3 := Lib.hid hown3
    have Hb3 := Lib.hid (Hb2.out.trans (hb3.mono Hb2.out.size))
    have Hc3 := Lib.hid (Bk.own_caps hown3)
    clear hT hown3 hb3
    go_wp2_with fail
    refine (RPlace_calls A n cap w.heap.size zs w3 Hn.out (by omega) Hpos.out Hb3.out.size (Hr.out.below Hb3.out (Nat.le_refl _))).mono ?_
    rintro e w4 ⟨T2, A4, cap4, hT2, rfl, hown4, hb4⟩
    obtain rfl := HT.out.uniq hT2
    have Hown3 := Lib.hid (Bk.own_below_any Hown3.out hb4)
    have Hown4 := Lib.hid hown4
    have Hb4 := Lib.hid (Hb3.out.trans (hb4.mono Hb3.out.size))
    clear hT2 hown4 hb4
    go_wp2_with fail
    refine (num_calls 0 w4 (by decide) (by decide)).mono ?_
    rintro e w5 ⟨rfl, rfl⟩
    go_wp2_with fail
    go_loopw [8] (fun iv wr => ∃ i : Nat, iv = .int .i64 (i : Int) ∧ i ≤ n ∧ Below w4.heap.size w4 wr) (fun iv _ => n - (intOf iv).toNat)
    case atStart => exact ⟨0, rfl, by omega, Below.refl _ _⟩
    case round =>
      obtain ⟨i, rfl, hi, hbl⟩ := hrel
      have Hbl := Lib.hid hbl
      clear hbl
      by_cases hlt : i < n
      · have l1 : (i : Int) < (n : Int) := by omega
        have hlen : (Sp.ps T n n).length = n := Sp.ps_length T n n
        obtain ⟨p, hp⟩ : ∃ p, (Sp.ps T n n)[i]? = some p := ⟨(Sp.ps T n n)[i]'(by omega), List.getElem?_eq_getElem _⟩
        obtain ⟨h1, h2⟩ := Sp.ps_small T n n (by omega) p (List.mem_of_getElem? hp)
        obtain ⟨g3, c3, hv3, _, _, hg3⟩ := Bk.own_some Hown3.out (by omega)
        obtain ⟨g4, c4, hv4, _, _, hg4⟩ := Bk.own_some Hown4.out (by omega)
        injection hv3 with e1 e2 e3
        subst e1
        subst e3
        injection hv4 with e1 e2b e3
        subst e1
        subst e3
        obtain ⟨s1, s2⟩ := spc_get hp
        have ca := (Hbl.out.cell (p := ⟨g3, i, none⟩) hg3).trans (Bk.own_cell Hown3.out (k := i) (u := VC (fv p.1, fv p.2)) (by rw [Sp.pl_ps, List.getElem?_map, List.getElem?_map, hp]; rfl))
        have cb := (Hbl.out.cell (p := ⟨g4, i * 2, none⟩) hg4).trans (Bk.own_cell Hown4.out s1)
        have cc := (Hbl.out.cell (p := ⟨g4, i * 2 + 1, none⟩) hg4).trans (Bk.own_cell Hown4.out s2)
        have HP := Lib.hid (plain_calls p h1 h2)
        obtain ⟨px, py⟩ := p
        clear s1 s2 hp h1 h2 hlen e2 e2b hg3 hg4
        dsimp only [VC] at ca cb cc
        go_wp2_with fail
        refine Bk.region_front2 (n := 9) (S := fun w' => w'.cell? ⟨g3, i, none⟩ = some (.complex .f64 (fv px) (fv py)) ∧ w'.cell? ⟨g4, i * 2, none⟩ = some (.int .i64 px) ∧ w'.cell? ⟨g4, i * 2 + 1, none⟩ = some (.int .i64 py)) rfl rfl (by kernel_rfl) (by kernel_rfl) (by kernel_rfl) rfl (by kernel_rfl) ⟨ca, cb, cc⟩ (fun hS0 => ?_)
        simp only [List.take_succ_cons, List.take_zero]
        refine Bk.takeD (i := 0) (some 47) (v := .slice (some ⟨g3, 0, none⟩) n cap3) rfl rfl (by kernel_rfl) (by kernel_rfl) (by kernel_rfl) (fun _ _ _ h => h) (Or.inl ⟨by rfl, fun w' hS => by (try dsimp only at hS); go_simp⟩) hS0 ?_
        simp only [Act.put, List.setIfInBounds_toArray, List.set_cons_zero, List.set_cons_succ]
        refine Bk.takeD (i := 1) (some 48) (v := .int .i64 (i : Int)) rfl rfl (by kernel_rfl) (by kernel_rfl) (by kernel_rfl) (fun _ _ _ h => h) (Or.inl ⟨by rfl, fun w' hS => by (try dsimp only at hS); go_simp⟩) hS0 ?_
        simp only [Act.put, List.setIfInBounds_toArray, List.set_cons_zero, List.set_cons_succ]
        refine Bk.takeD (i := 2) (some 49) (v := .pointer (some ⟨g3, i, none⟩)) rfl rfl (by kernel_rfl) (by kernel_rfl) (by kernel_rfl) (fun _ _ _ h => h) (Or.inl ⟨by rfl, fun w' hS => by (try dsimp only at hS); go_simp⟩) hS0 ?_
        simp only [Act.put, List.setIfInBounds_toArray, List.set_cons_zero, List.set_cons_succ]
        refine Bk.takeD (i := 3) (some 50) (v := .complex .f64 (fv px) (fv py)) rfl rfl (by kernel_rfl) (by kernel_rfl) (by kernel_rfl) (fun _ _ _ h => h) (Or.inl ⟨by rfl, fun w' hS => by (try dsimp only at hS); go_simp⟩) hS0 ?_
        simp only [Act.put, List.setIfInBounds_toArray, List.set_cons_zero, List.set_cons_succ]
        refine Bk.takeD (i := 4) (some 51) (v := .slice (some ⟨g4, 0, none⟩) n cap4) rfl rfl (by kernel_rfl) (by kernel_rfl) (by kernel_rfl) (fun _ _ _ h => h) (Or.inl ⟨by rfl, fun w' hS => by (try dsimp only at hS); go_simp⟩) hS0 ?_
        simp only [Act.put, List.setIfInBounds_toArray, List.set_cons_zero, List.set_cons_succ]
        refine Bk.takeD (i := 5) (some 52) (v := .int .i64 (i : Int)) rfl rfl (by kernel_rfl) (by kernel_rfl) (by kernel_rfl) (fun _ _ _ h => h) (Or.inl ⟨by rfl, fun w' hS => by (try dsimp only at hS); go_simp⟩) hS0 ?_
        simp only [Act.put, List.setIfInBounds_toArray, List.set_cons_zero, List.set_cons_succ]
        refine Bk.takeD (i := 6) (some 53) (v := .pointer (some ⟨g4, i * 2, none⟩)) rfl rfl (by kernel_rfl) (by kernel_rfl) (by kernel_rfl) (fun _ _ _ h => h) (Or.inl ⟨by rfl, fun w' hS => by (try dsimp only at hS); go_simp⟩) hS0 ?_
        simp only [Act.put, List.setIfInBounds_toArray, List.set_cons_zero, List.set_cons_succ]
        refine Bk.takeD (i := 7) (some 54) (v := .agg #[.int .i64 px, .int .i64 py]) rfl rfl (by kernel_rfl) (by kernel_rfl) (by kernel_rfl) (fun _ _ _ h => h) (Or.inl ⟨by rfl, fun w' hS => by (try dsimp only at hS); go_simp⟩) hS0 ?_
        simp only [Act.put, List.setIfInBounds_toArray, List.set_cons_zero, List.set_cons_succ]
        refine Bk.calD (i := 8) (some 55) (by kernel_rfl) rfl rfl rfl (f := 16) (args := #[.complex .f64 (fv px) (fv py), .agg #[.int .i64 px, .int .i64 py]]) (by go_simp) (HP.out wr.drew) ?_
        rintro e x1 ⟨rfl, hbx⟩
        have hb1 : Below wr.heap.size wr x1 := (Below.refl _ _).drew.trans hbx
        refine ⟨_, rfl, ⟨(hb1.cell (p := ⟨g3, i, none⟩) (cell_lt2 ca)).trans ca, (hb1.cell (p := ⟨g4, i * 2, none⟩) (cell_lt2 cb)).trans cb, (hb1.cell (p := ⟨g4, i * 2 + 1, none⟩) (cell_lt2 cc)).trans cc⟩, fun hS1 => ?_⟩
        simp only [Act.put, List.setIfInBounds_toArray, List.set_cons_zero, List.set_cons_succ]
        refine wpAnyH_done (by kernel_rfl) ?_ _
        simp only [Bk.behind]
        have HB := Lib.hid (Hbl.out.trans (hb1.mono Hbl.out.size))
        clear hS0 hS1 ca cb cc hb1 hbx
        go_simp
        refine NoPanic.normal ?_
        go_wp2_with fail
        exact ⟨⟨i + 1, by congr 1, by omega, HB.out⟩, by simp [intOf]; omega⟩
      · obtain rfl : i = n := by omega
        go_wp2_with fail
        go_ret
        exact ⟨rfl, Hb4.out.trans (Hbl.out.mono Hb4.out.size)⟩
end Go.Proofs.Ytjbidjidfkkikaa
