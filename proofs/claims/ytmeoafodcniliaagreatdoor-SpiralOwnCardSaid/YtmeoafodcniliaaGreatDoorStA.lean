/- slices.swapRangeCmpFunc, rotateCmpFunc over ints -/
import Derived.Test.YtmeoafodcniliaaGreatDoorStN
import Derived.Test.YtmeoafodcniliaaGreatDoorSpJ
import Derived.BigRegion
namespace Go.Proofs.YtmeoafodcniliaaGreatDoor.C24
open Go.RowKit
set_option linter.unusedSimpArgs false
set_option linter.unusedVariables false
set_option maxHeartbeats 8000000 in
set_option maxRecDepth 20000 in
theorem swr_calls (g n cap base a b k : Nat) (P U W V S : List Int) (cb : Array Value) (w : World) (ha : a = P.length) (hb : b = P.length + U.length + W.length) (hU : U.length = k) (hV : V.length = k) (hn : (P ++ (U ++ (W ++ (V ++ S)))).length = n) (hn2 : n ≤ 1099511627776)
    (hown : w.ownsRow base 3 1 (.slice (some ⟨g, 0, none⟩) n cap) n ((P ++ (U ++ (W ++ (V ++ S)))).map VI)) :
    Calls Tryz.prog 272 #[.slice (some ⟨g, 0, none⟩) n cap, .int .i64 (a : Int), .int .i64 (b : Int), .int .i64 (k : Int), .func (.func 98) #[] cb] w fun e w' =>
      e = .returned (.tuple #[]) ∧ w'.ownsRow base 3 1 (.slice (some ⟨g, 0, none⟩) n cap) n ((P ++ (V ++ (W ++ (U ++ S)))).map VI) ∧ Upd g w w' := by
  have hk : a + k ≤ n ∧ b + k ≤ n ∧ a + k ≤ b := by simp at hn; omega
  have Ha := Lib.hid ha; have Hb := Lib.hid hb; have HU := Lib.hid hU; have HV := Lib.hid hV; have Hn := Lib.hid hn; have Hown := Lib.hid hown
  clear ha hb hU hV hn hown
  obtain ⟨hk1, hk2, hk3⟩ := hk
  go_enter Tryz.func272, Tryz.ntmps272
  go_wp2_with fail
  go_loopw [10] (fun iv wr => ∃ (i : Nat) (U1 U2 V1 V2 : List Int), iv = .int .i64 (i : Int) ∧ i ≤ k ∧ U = U1 ++ U2 ∧ V = V1 ++ V2 ∧ U1.length = i ∧ V1.length = i ∧ wr.ownsRow base 3 1 (.slice (some ⟨g, 0, none⟩) n cap) n ((P ++ (V1 ++ (U2 ++ (W ++ (U1 ++ (V2 ++ S)))))).map VI) ∧ Upd g w wr) (fun iv _ => k - (intOf iv).toNat)
  case atStart => exact ⟨0, [], U, [], V, rfl, by omega, rfl, rfl, rfl, rfl, by simpa using Hown.out, Upd.refl _ _⟩
  case round =>
    obtain ⟨i, U1, U2, V1, V2, rfl, hi, hU, hV, hu1, hv1, hown, hu⟩ := hrel
    have HU1 := Lib.hid hU; have HV1 := Lib.hid hV; have Hu1 := Lib.hid hu1; have Hv1 := Lib.hid hv1; have Ho := Lib.hid hown; have Hu := Lib.hid hu
    clear hU hV hu1 hv1 hown hu
    by_cases hlt : i < k
    · have l1 : (i : Int) < (k : Int) := by omega
      obtain ⟨x, U3, hx⟩ : ∃ x T, U2 = x :: T := by
        cases hU2 : U2 with
        | nil => have := HU.out; rw [HU1.out, hU2] at this; simp at this; have := Hu1.out; omega
        | cons x T => exact ⟨x, T, rfl⟩
      obtain ⟨y, V3, hy⟩ : ∃ x T, V2 = x :: T := by
        cases hV2 : V2 with
        | nil => have := HV.out; rw [HV1.out, hV2] at this; simp at this; have := Hv1.out; omega
        | cons x T => exact ⟨x, T, rfl⟩
      subst hx
      subst hy
      have hUl : U1.length + (U3.length + 1) = k := by rw [← HU.out, HU1.out]; simp
      obtain ⟨h1, h2, h3⟩ := St.sw_two (P := P) (V1 := V1) (U2 := U3) (W := W) (U1 := U1) (V2 := V3) (S := S) (x := x) (y := y) (a := a + i) (b := b + i) (by rw [Ha.out, Hv1.out]) (by have := Ha.out; have := Hb.out; have := Hv1.out; have := Hu1.out; have := HU.out; omega)
      have ca := Ho.out.cellAt (a + i) (by omega)
      rw [List.getElem?_map, h1] at ca
      have ca : wr.cell? ⟨g, a + i, none⟩ = some (.int .i64 x) := ca
      have cb2 := Ho.out.cellAt (b + i) (by omega)
      rw [List.getElem?_map, h2] at cb2
      have cb2 : wr.cell? ⟨g, b + i, none⟩ = some (.int .i64 y) := cb2
      have fa := Ho.out.frozenAt (a + i)
      have fb := Ho.out.frozenAt (b + i)
      have H3 := Lib.hid h3
      clear h1 h2 h3
      obtain ⟨q, hq⟩ : ∃ q, q = a + i := ⟨_, rfl⟩
      obtain ⟨r, hr⟩ : ∃ r, r = b + i := ⟨_, rfl⟩
      have qe : (a : Int) + (i : Int) = (q : Int) := by omega
      have re : (b : Int) + (i : Int) = (r : Int) := by omega
      have qb : (q : Int) < (n : Int) := by omega
      have rb : (r : Int) < (n : Int) := by omega
      have H3 := H3
      rw [← hq, ← hr] at H3
      rw [← hq] at ca fa
      rw [← hr] at cb2 fb
      have hqr : q ≠ r := by have := HU.out; have := Hu1.out; omega
      have hc2 : ∀ u, (wr.setCell ⟨g, q, none⟩ u).cell? ⟨g, r, none⟩ = some (.int .i64 y) := fun u => (World.cell?_setCell_other _ _ _ _ (by intro h; injection h with _ h; exact hqr h)).trans cb2
      have Hq := Lib.hid hq; have Hr := Lib.hid hr; have Hlt := Lib.hid hlt
      clear hq hr hk1 hk2 hk3 hUl hlt
      generalize wr = wq at *
      go_wp2_with fail
      go_big_region
      have k1 := (Ho.out.stored q (VI y)).1
      have k2 := (k1.stored r (VI x)).1
      rw [← List.map_set, ← List.map_set, H3.out] at k2
      have K3 := Lib.hid (own_below k2 (below_drewN (Below.refl _ _) 1) (Nat.le_refl _))
      have K4 := Lib.hid (((Hu.out.trans (Upd.setCell wq q (VI y))).trans (Upd.setCell _ r (VI x))).trans (Upd.drewN g _ 1))
      clear k1 k2
      go_wp2_with fail
      exact ⟨⟨i + 1, U1 ++ [x], U3, V1 ++ [y], V3, by congr 1, by have := Hlt.out; omega, by rw [HU1.out]; simp, by rw [HV1.out]; simp, by simp [Hu1.out], by simp [Hv1.out], K3.out, K4.out⟩, by simp [intOf]; have := Hlt.out; omega⟩
    · obtain rfl : i = k := by omega
      obtain rfl : U2 = [] := by have := HU.out; rw [HU1.out, List.length_append, Hu1.out] at this; exact List.eq_nil_of_length_eq_zero (by omega)
      obtain rfl : V2 = [] := by have := HV.out; rw [HV1.out, List.length_append, Hv1.out] at this; exact List.eq_nil_of_length_eq_zero (by omega)
      have l1 : ¬ (i : Int) < (i : Int) := by omega
      go_wp2_with fail
      go_end0
      refine ⟨rfl, ?_, Hu.out⟩
      have := Ho.out
      rw [HU1.out, HV1.out]
      simpa using this
end Go.Proofs.YtmeoafodcniliaaGreatDoor.C24
