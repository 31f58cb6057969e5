/- slices.insertionSortCmpFunc over ints, with a closure that only reads (turned from the shelf's walk of the same function) -/
import Derived.Test.YtmeoafodcniliaaGreatDoorSpH
import Derived.BigRegion
namespace Go.Proofs.YtmeoafodcniliaaGreatDoor.C24
open Go.RowKit
set_option linter.unusedSimpArgs false
set_option linter.unusedVariables false
namespace Sp
def swp (X : List Int) (j : Nat) : List Int := (X.set (j + 1) (X.getD j 0)).set j (X.getD (j + 1) 0)
/-- One element is taken down to its place. -/
def bub (lt : Int → Int → Bool) (a : Nat) : Nat → List Int → List Int
  | 0, X => X
  | j + 1, X => if a < j + 1 ∧ lt (X.getD (j + 1) 0) (X.getD j 0) = true then bub lt a j (swp X j) else X
def insN (lt : Int → Int → Bool) (a : Nat) : Nat → Nat → List Int → List Int
  | 0, _, X => X
  | k + 1, i, X => insN lt a k (i + 1) (bub lt a i X)
theorem swp_length (X : List Int) (j : Nat) : (swp X j).length = X.length := by simp [swp]
theorem swp_mem (X : List Int) (j : Nat) (h : j + 1 < X.length) (z : Int) (hz : z ∈ swp X j) : z ∈ X := by
  have g : ∀ i, i < X.length → X.getD i 0 ∈ X := fun i hi => by simp [List.getD, List.getElem?_eq_getElem hi]
  unfold swp at hz
  rcases List.mem_or_eq_of_mem_set hz with h1 | h1
  · rcases List.mem_or_eq_of_mem_set h1 with h2 | h2
    · exact h2
    · rw [h2]; exact g _ (by omega)
  · rw [h1]; exact g _ h
theorem bub_length (lt : Int → Int → Bool) (a : Nat) : ∀ (j : Nat) (X : List Int), (bub lt a j X).length = X.length
  | 0, X => rfl
  | j + 1, X => by unfold bub; split; rw [bub_length lt a j, swp_length]; rfl
theorem bub_stop (lt : Int → Int → Bool) (a j : Nat) (X : List Int) (h : j ≤ a ∨ lt (X.getD j 0) (X.getD (j - 1) 0) = false) : bub lt a j X = X := by
  cases j with
  | zero => rfl
  | succ j =>
    unfold bub; rw [if_neg]
    rintro ⟨h1, h2⟩
    rcases h with h | h
    · omega
    · rw [Nat.add_sub_cancel, h2] at h; cases h
theorem bub_go (lt : Int → Int → Bool) (a j : Nat) (X : List Int) (h1 : a < j + 1) (h2 : lt (X.getD (j + 1) 0) (X.getD j 0) = true) : bub lt a (j + 1) X = bub lt a j (swp X j) := by
  rw [bub, if_pos ⟨h1, h2⟩]
theorem insN_step (lt : Int → Int → Bool) (a b k : Nat) (X : List Int) (h : k < b) : insN lt a (b - k) k X = insN lt a (b - (k + 1)) (k + 1) (bub lt a k X) := by
  rw [show b - k = (b - (k + 1)) + 1 by omega, insN]
end Sp
theorem Upd.drewN (g : Nat) (w : World) (k : Nat) : Upd g w (w.drewN k) := ⟨rfl, rfl, rfl, Nat.le_refl _, fun _ _ _ => rfl⟩
set_option maxHeartbeats 8000000 in
set_option maxRecDepth 20000 in
theorem ins_calls (g n cap base a b : Nat) (X : List Int) (c : Int → Int → Int) (cb : Array Value) (w : World) (hX : X.length = n) (hab : a ≤ b) (hb : b ≤ n) (hn : n ≤ 1099511627776)
    (hown : w.ownsRow base 3 1 (.slice (some ⟨g, 0, none⟩) n cap) n (X.map VI))
    (hc : ∀ w' x y, Upd g w w' → x ∈ X → y ∈ X → ∀ m, Calls Tryz.prog 98 (#[.int .i64 x, .int .i64 y] ++ cb) (w'.drewN m) fun e w'' => e = .returned (.int .i64 (c x y)) ∧ ∃ q, w'' = (w'.drewN m).drewN q) :
    Calls Tryz.prog 244 #[.slice (some ⟨g, 0, none⟩) n cap, .int .i64 (a : Int), .int .i64 (b : Int), .func (.func 98) #[] cb] w fun e w' =>
      e = .returned (.tuple #[]) ∧ w'.ownsRow base 3 1 (.slice (some ⟨g, 0, none⟩) n cap) n ((Sp.insN (fun x y => decide (c x y < 0)) a (b - (a + 1)) (a + 1) X).map VI) ∧ Upd g w w' := by
  have HC := Lib.hid hc; have HX := Lib.hid hX; have Hown := Lib.hid hown
  clear hc hX hown
  go_enter Tryz.func244, Tryz.ntmps244
  go_wp2_with fail
  go_loopw [8] (fun i wr => ∃ (k : Nat) (Y : List Int), (∀ z ∈ Y, z ∈ X) ∧ i = .int .i64 (k : Int) ∧ a < k ∧ (k ≤ b ∨ k = a + 1) ∧ Y.length = n ∧ wr.ownsRow base 3 1 (.slice (some ⟨g, 0, none⟩) n cap) n (Y.map VI) ∧ Sp.insN (fun x y => decide (c x y < 0)) a (b - k) k Y = Sp.insN (fun x y => decide (c x y < 0)) a (b - (a + 1)) (a + 1) X ∧ Upd g w wr) (fun i _ => b - (intOf i).toNat)
  case atStart => exact ⟨a + 1, X, fun _ h => h, by congr 1, by omega, Or.inr rfl, HX.out, Hown.out, rfl, Upd.refl _ _⟩
  case round =>
    obtain ⟨k, Y, hYX, rfl, hak, hkb, hY, hown, he, hu⟩ := hrel
    have HYX := Lib.hid hYX
    clear hYX
    have HY := Lib.hid hY; have Hownr := Lib.hid hown; have He := Lib.hid he; have Hu := Lib.hid hu
    clear hY hown he hu
    by_cases hlt : k < b
    · have l1 : (k : Int) < (b : Int) := by omega
      go_wp2_with fail
      go_loopw [9] (fun j wx => ∃ (q : Nat) (Z : List Int), (∀ z ∈ Z, z ∈ X) ∧ j = .int .i64 (q : Int) ∧ q ≤ k ∧ a ≤ q ∧ Z.length = n ∧ wx.ownsRow base 3 1 (.slice (some ⟨g, 0, none⟩) n cap) n (Z.map VI) ∧ Sp.bub (fun x y => decide (c x y < 0)) a q Z = Sp.bub (fun x y => decide (c x y < 0)) a k Y ∧ Upd g w wx) (fun j _ => (intOf j).toNat)
      case atStart => exact ⟨k, Y, HYX.out, rfl, by omega, by omega, HY.out, Hownr.out, rfl, Hu.out⟩
      case round =>
        obtain ⟨q, Z, hZX, rfl, hqk, haq, hZ, hown, he2, hu⟩ := hrel
        have HZX := Lib.hid hZX
        clear hZX
        have HZ := Lib.hid hZ; have Hownx := Lib.hid hown; have He2 := Lib.hid he2; have Hux := Lib.hid hu
        clear hZ hown he2 hu
        by_cases hja : a < q
        · obtain ⟨jp, rfl⟩ : ∃ jp, q = jp + 1 := ⟨q - 1, by omega⟩
          have hz1 : Z[jp + 1]? = some (Z.getD (jp + 1) 0) := by have := HZ.out; simp [List.getD, List.getElem?_eq_getElem (show jp + 1 < Z.length by omega)]
          have hz0 : Z[jp]? = some (Z.getD jp 0) := by have := HZ.out; simp [List.getD, List.getElem?_eq_getElem (show jp < Z.length by omega)]
          obtain ⟨xj, hxj⟩ : ∃ x, Z.getD (jp + 1) 0 = x := ⟨_, rfl⟩
          obtain ⟨xp, hxp⟩ : ∃ x, Z.getD jp 0 = x := ⟨_, rfl⟩
          rw [hxj] at hz1
          rw [hxp] at hz0
          have cj := Hownx.out.cellAt (jp + 1) (by omega)
          rw [List.getElem?_map, hz1] at cj
          have cj : wr.cell? ⟨g, jp + 1, none⟩ = some (.int .i64 xj) := cj
          have cp := Hownx.out.cellAt jp (by omega)
          rw [List.getElem?_map, hz0] at cp
          have cp : wr.cell? ⟨g, jp, none⟩ = some (.int .i64 xp) := cp
          have fj := Hownx.out.frozenAt (jp + 1)
          have fp := Hownx.out.frozenAt jp
          have hcc := HC.out wr xj xp Hux.out (HZX.out _ (List.mem_of_getElem? hz1)) (HZX.out _ (List.mem_of_getElem? hz0))
          have HXJ := Lib.hid hxj; have HXP := Lib.hid hxp
          have jz : (jp : Int) + 1 < (n : Int) := by omega
          have jz1 : (jp : Int) < (n : Int) := by omega
          have hjaz' : (a : Int) < (jp : Int) + 1 := by omega
          have p0 : (0 : Int) ≤ (jp : Int) + 1 := by omega
          have e0 : ((jp : Int) + 1).toNat = jp + 1 := by omega
          clear hz1 hz0 hxj hxp
          have HU := Lib.hid Hux.out
          by_cases hlv : c xj xp < 0
          · go_wp2_with fail
            go_big_quiet (first | (go_at_call 98; refine Calls.quiet_of (hcc _)))
            go_wp2_with fail
            have cj2 : (wr.drewN nq).cell? ⟨g, jp + 1, none⟩ = some (.int .i64 xj) := cj
            have cp2 : (wr.drewN nq).cell? ⟨g, jp, none⟩ = some (.int .i64 xp) := cp
            have fj2 : (wr.drewN nq).frozen? ⟨g, jp + 1, none⟩ = false := fj
            have fp2 : (wr.drewN nq).frozen? ⟨g, jp, none⟩ = false := fp
            have Ho2 := Lib.hid (show (wr.drewN nq).ownsRow base 3 1 (.slice (some ⟨g, 0, none⟩) n cap) n (Z.map VI) from own_below Hownx.out (below_drewN (Below.refl _ _) _) (Nat.le_refl _))
            have Hu2 := Lib.hid (show Upd g w (wr.drewN nq) from Hux.out.trans (Upd.drewN g _ _))
            clear cj cp fj fp hcc Hux HU Hownx
            generalize wr.drewN nq = wq at *
            obtain ⟨j1, hj1⟩ : ∃ j1, j1 = jp + 1 := ⟨_, rfl⟩
            rw [← hj1] at cj2 fj2 e0
            have J1 := Lib.hid hj1
            clear hj1
            go_big_region
            have h1 := (Ho2.out.stored j1 (VI xp)).1
            have h2 := (h1.stored jp (VI xj)).1
            rw [show ((Z.map VI).set j1 (VI xp)).set jp (VI xj) = (Sp.swp Z jp).map VI by rw [J1.out]; unfold Sp.swp; rw [List.map_set, List.map_set, HXJ.out, HXP.out]] at h2
            have H3 := Lib.hid (own_below h2 (below_drewN (Below.refl _ _) 1) (Nat.le_refl _))
            have H4 := Lib.hid (((Hu2.out.trans (Upd.setCell wq j1 (VI xp))).trans (Upd.setCell _ jp (VI xj))).trans (Upd.drewN g _ 1))
            clear h1 h2
            go_wp2_with fail
            exact ⟨⟨jp, Sp.swp Z jp, fun z hz => HZX.out z (Sp.swp_mem Z jp (by have := HZ.out; omega) z hz), rfl, by omega, by omega, by rw [Sp.swp_length]; exact HZ.out, H3.out, by rw [← He2.out, Sp.bub_go _ _ _ _ (by omega) (by rw [HXJ.out, HXP.out]; exact decide_eq_true hlv)], H4.out⟩, by first | (simp [intOf]; done) | (simp [intOf]; omega)⟩
          · go_wp2_with fail
            go_big_quiet (first | (go_at_call 98; refine Calls.quiet_of (hcc _)))
            go_wp2_with fail
            exact ⟨⟨k + 1, Z, HZX.out, by congr 1, by omega, by omega, HZ.out, own_below Hownx.out (below_drewN (Below.refl _ _) _) (Nat.le_refl _), by rw [← He.out, Sp.insN_step _ _ _ _ _ hlt, ← He2.out, Sp.bub_stop _ _ _ _ (Or.inr (by rw [Nat.add_sub_cancel, HXJ.out, HXP.out]; exact decide_eq_false (by omega)))], Hux.out.trans (Upd.drewN g _ _)⟩, by simp [intOf]; omega⟩
        · have hjaz : ¬ (a : Int) < (q : Int) := by omega
          go_wp2_with fail
          go_big_quiet (fail)
          go_wp2_with fail
          exact ⟨⟨k + 1, Z, HZX.out, by congr 1, by omega, by omega, HZ.out, own_below Hownx.out (below_drewN (Below.refl _ _) _) (Nat.le_refl _), by rw [← He.out, Sp.insN_step _ _ _ _ _ hlt, ← He2.out, Sp.bub_stop _ _ _ _ (Or.inl (by omega))], Hux.out.trans (Upd.drewN g _ _)⟩, by simp [intOf]; omega⟩
    · have l1 : ¬ (k : Int) < (b : Int) := by omega
      go_wp2_with fail
      go_end0
      refine ⟨rfl, ?_, Hu.out⟩
      rw [← He.out, show b - k = 0 by omega]
      exact Hownr.out
end Go.Proofs.YtmeoafodcniliaaGreatDoor.C24
