/- slices.symMergeCmpFunc over ints, with a closure that only reads: one element on the right -/
import Derived.Test.YtmeoafodcniliaaGreatDoorStC
namespace Go.Proofs.YtmeoafodcniliaaGreatDoor.C24
open Go.RowKit
set_option linter.unusedSimpArgs false
set_option linter.unusedVariables false
set_option maxHeartbeats 8000000 in
set_option maxRecDepth 20000 in
theorem symR_calls (c : Int → Int → Int) (L : Int → Int → Prop) (hL : St.Ord c L) (X : List Int) (g n cap base a m b : Nat) (P A S : List Int) (y : Int) (cb : Array Value) (w : World) (ha : a = P.length) (hm : m = P.length + A.length) (hb : b = P.length + A.length + 1) (hA2 : 2 ≤ A.length) (hA : A.Pairwise L) (hbef : ∀ x ∈ A, x < y)
    (hn : (P ++ (A ++ (y :: S))).length = n) (hn2 : n ≤ 1099511627776) (hX : ∀ z ∈ A ++ [y], z ∈ X) (hc : Reads g X c cb w)
    (hown : w.ownsRow base 3 1 (.slice (some ⟨g, 0, none⟩) n cap) n ((P ++ (A ++ (y :: S))).map VI)) :
    Calls Tryz.prog 245 #[.slice (some ⟨g, 0, none⟩) n cap, .int .i64 (a : Int), .int .i64 (m : Int), .int .i64 (b : Int), .func (.func 98) #[] cb] w (MergeSaid g n cap base L P A [y] S w) := by
  have hk : b ≤ n := by simp at hn; omega
  have e1 : (((A.length : Nat) : Int) == 1) = false := by rw [beq_eq_false_iff_ne]; omega
  have e0 : (m : Int) - (a : Int) = ((A.length : Nat) : Int) := by omega
  have e2 : (b : Int) - (m : Int) = 1 := by omega
  have Ha := Lib.hid ha; have Hm := Lib.hid hm; have Hb := Lib.hid hb; have HA := Lib.hid hA; have Hbef := Lib.hid hbef; have Hn := Lib.hid hn; have HX := Lib.hid hX; have HC := Lib.hid hc; have Hown := Lib.hid hown
  have ham : a ≤ m := by omega
  have Ham := Lib.hid ham
  clear ha hm hb hA hA2 hbef hn hX hc hown ham
  go_enter Tryz.func245, Tryz.ntmps245
  go_wp2_with fail
  go_loopw [14, 15] (fun iv jv wr => ∃ (i j : Nat), iv = .int .i64 (i : Int) ∧ jv = .int .i64 (j : Int) ∧ a ≤ i ∧ i ≤ j ∧ j ≤ m ∧ (i = a ∨ L (A.getD (i - 1 - a) 0) y) ∧ (j = m ∨ L y (A.getD (j - a) 0)) ∧ ∃ k, wr = w.drewN k) (fun iv jv _ => (intOf jv).toNat - (intOf iv).toNat)
  case atStart => exact ⟨a, m, rfl, rfl, Nat.le_refl _, Ham.out, Nat.le_refl _, Or.inl rfl, Or.inl rfl, 0, rfl⟩
  case round =>
    obtain ⟨i, j, rfl, rfl, hi, hij, hj, h1, h2, hd⟩ := hrel
    have Hi := Lib.hid hi; have Hij := Lib.hid hij; have Hj := Lib.hid hj; have H1 := Lib.hid h1; have H2 := Lib.hid h2; have Hd := Lib.hid hd
    clear hi hij hj h1 h2 hd
    by_cases hlt : i < j
    · have l1 : (i : Int) < (j : Int) := by omega
      obtain ⟨h, hh⟩ : ∃ h, h = (i + j) / 2 := ⟨_, rfl⟩
      have hh1 : i ≤ h ∧ h < j := by omega
      have eh : ((i : Int) + (j : Int)) / 2 = (h : Int) := by omega
      have hjn : (j : Int) ≤ 1099511627776 := by have := Hj.out; have := Hm.out; have := Hb.out; omega
      obtain ⟨q, hq⟩ : ∃ q, h = a + q := ⟨h - a, by have := Hi.out; omega⟩
      have hqB : q < A.length := by have := Hj.out; have := Hm.out; have := Ha.out; omega
      obtain ⟨x, hy⟩ : ∃ y, A.getD q 0 = y := ⟨_, rfl⟩
      have hyB : A[q]? = some x := by rw [← hy]; simp [List.getD, List.getElem?_eq_getElem hqB]
      have g1 : (P ++ (A ++ (y :: S)))[h]? = some x := by
        rw [hq, Ha.out, List.getElem?_append_right (by omega), show P.length + q - P.length = q by omega, List.getElem?_append_left hqB]; exact hyB
      have g2 : (P ++ (A ++ (y :: S)))[m]? = some y := by rw [← List.append_assoc]; exact St.get_app (by rw [List.length_append]; exact Hm.out)
      have Ho := Lib.hid (show wr.ownsRow base 3 1 (.slice (some ⟨g, 0, none⟩) n cap) n ((P ++ (A ++ (y :: S))).map VI) by obtain ⟨k, rfl⟩ := Hd.out; exact own_below Hown.out (below_drewN (Below.refl _ _) _) (Nat.le_refl _))
      obtain ⟨c1, f1⟩ := own_get Ho.out Hn.out g1
      obtain ⟨c2, f2⟩ := own_get Ho.out Hn.out g2
      have hcc := HC.out wr y x (by obtain ⟨k, rfl⟩ := Hd.out; exact Upd.drewN g _ _) (HX.out y (by simp)) (HX.out x (by simp [List.mem_of_getElem? hyB]))
      have Hdn := Lib.hid (show ∀ q, ∃ k, wr.drewN q = w.drewN k from fun q => by obtain ⟨d, rfl⟩ := Hd.out; exact ⟨_, World.drewN_drewN _ _ _⟩)
      have hxy := Hbef.out x (List.mem_of_getElem? hyB)
      have Hyes := Lib.hid (hL.yes x y hxy)
      have Hno := Lib.hid (hL.no x y hxy)
      have hb1 : (h : Int) < (n : Int) := by have := Hj.out; have := Hm.out; have := Hb.out; omega
      have hb2 : (m : Int) < (n : Int) := by have := Hm.out; have := Hb.out; omega
      have Hq := Lib.hid hq; have Hy := Lib.hid hy; have Hh := Lib.hid hh1
      have Hlt := Lib.hid hlt
      clear hq hy hh1 hyB g1 g2 hqB hh hxy hlt
      go_wp2_with fail
      by_cases hcv : c y x < 0
      · go_big_quiet (first | (go_at_call 98; refine Calls.quiet_of (hcc _)))
        go_wp2_with fail
        exact ⟨⟨i, h, rfl, rfl, Hi.out, Hh.out.1, by have := Hh.out; have := Hj.out; omega, H1.out, Or.inr (by rw [show h - a = q by have := Hq.out; omega, Hy.out]; exact Hyes.out (by omega)), Hdn.out _⟩, by simp [intOf]; have := Hh.out; omega⟩
      · go_big_quiet (first | (go_at_call 98; refine Calls.quiet_of (hcc _)))
        go_wp2_with fail
        exact ⟨⟨h + 1, j, by congr 1, rfl, by have := Hi.out; have := Hh.out; omega, by have := Hh.out; omega, Hj.out, Or.inr (by rw [show h + 1 - 1 - a = q by have := Hq.out; omega, Hy.out]; exact Hno.out (by omega)), H2.out, Hdn.out _⟩, by simp [intOf]; have := Hh.out; omega⟩
    · obtain rfl : i = j := by have := Hij.out; omega
      obtain ⟨q, hq⟩ : ∃ q, i = a + q := ⟨i - a, by have := Hi.out; omega⟩
      have hqB : q ≤ A.length := by have := Hj.out; have := Hm.out; have := Ha.out; omega
      have hins := St.ins_one hL HA.out hqB (x := y) (by
        rcases H1.out with e | e
        · exact Or.inl (by omega)
        · rcases Nat.eq_zero_or_pos q with e0 | e0
          · exact Or.inl e0
          · rw [show i - 1 - a = q - 1 by omega] at e; exact Or.inr e) (by
        rcases H2.out with e | e
        · exact Or.inl (by have := Hm.out; have := Ha.out; omega)
        · rw [show i - a = q by omega] at e; exact Or.inr e)
      have Hins := Lib.hid (show (A.take q ++ y :: A.drop q).Perm (A ++ [y]) ∧ (A.take q ++ y :: A.drop q).Pairwise L from ⟨hins.1.trans (List.perm_append_comm (l₁ := [y])), hins.2⟩)
      have Ho := Lib.hid (show wr.ownsRow base 3 1 (.slice (some ⟨g, 0, none⟩) n cap) n ((P ++ (A ++ (y :: S))).map VI) by obtain ⟨k, rfl⟩ := Hd.out; exact own_below Hown.out (below_drewN (Below.refl _ _) _) (Nat.le_refl _))
      have Hu := Lib.hid (show Upd g w wr by obtain ⟨k, rfl⟩ := Hd.out; exact Upd.drewN g _ _)
      have HqB := Lib.hid hqB
      have hqn : m + 1 ≤ n := by have := Hm.out; have := Hb.out; omega
      have HlA := Lib.hid (show m = a + A.length by rw [Hm.out, Ha.out])
      have Hq := Lib.hid hq
      clear hlt hq hqB hins Hd H1 H2 HC
      generalize wr = w1 at *
      go_wp2_with fail
      go_loopw [17] (fun kv wq => ∃ t : Nat, kv = .int .i64 ((a + t : Nat) : Int) ∧ q ≤ t ∧ t ≤ A.length ∧ wq.ownsRow base 3 1 (.slice (some ⟨g, 0, none⟩) n cap) n ((P ++ (A.take t ++ (y :: (A.drop t ++ S)))).map VI) ∧ Upd g w wq) (fun kv _ => (intOf kv).toNat - (a + q))
      case atStart => exact ⟨A.length, by rw [← HlA.out], HqB.out, Nat.le_refl _, by simpa using Ho.out, Hu.out⟩
      case round =>
        obtain ⟨t, rfl, ht, htA, ho, hu⟩ := hrel
        have Ho2 := Lib.hid ho; have Hu2 := Lib.hid hu
        clear ho hu
        by_cases htq : q < t
        · obtain ⟨s, rfl⟩ : ∃ s, t = s + 1 := ⟨t - 1, by omega⟩
          obtain ⟨h1, h2, h3⟩ := St.down_one (P := P) (A := A) (S := S) (y := y) (s := s) (by omega) (k := a + s) (by rw [Ha.out])
          have hl2 : (P ++ (A.take (s + 1) ++ (y :: (A.drop (s + 1) ++ S)))).length = n := by have := Ho2.out.1; rw [List.length_map] at this; omega
          obtain ⟨c1, f1⟩ := own_get Ho2.out hl2 h1
          obtain ⟨c2, f2⟩ := own_get Ho2.out hl2 h2
          generalize hyy : A.getD s 0 = x at *
          have H3 := Lib.hid h3
          obtain ⟨z, hz⟩ : ∃ z, z = a + s := ⟨_, rfl⟩
          rw [show a + (s + 1) = z + 1 by omega]
          rw [← hz] at c1 c2 f1 f2 H3
          have hz1 : (i : Int) < ((z + 1 : Nat) : Int) := by have := Hq.out; omega
          have hz2 : (z : Int) + 1 < (n : Int) := by have := HlA.out; omega
          have hz3 : (z : Int) < (n : Int) := by omega
          have p0 : (0 : Int) ≤ (z : Int) + 1 := by omega
          have e0 : ((z : Int) + 1).toNat = z + 1 := by omega
          have ez : ((z + 1 : Nat) : Int) - 1 = (z : Int) := by omega
          have Hz := Lib.hid hz; have Htq := Lib.hid htq; have HtA := Lib.hid htA
          clear hz h1 h2 h3 hl2 hyy htq ht htA
          generalize wr = wq at *
          obtain ⟨j1, hj1⟩ : ∃ j1, j1 = z + 1 := ⟨_, rfl⟩
          rw [← hj1] at c1 f1 e0 H3 hz1 ez ⊢
          have hz4 : (j1 : Int) < (n : Int) := by omega
          have hc2 : ∀ u, (wq.setCell ⟨g, j1, none⟩ u).cell? ⟨g, z, none⟩ = some (.int .i64 x) := fun u => (World.cell?_setCell_other _ _ _ _ (by intro h; injection h with _ h; omega)).trans c2
          have J1 := Lib.hid hj1
          clear hj1 hz2 p0 e0
          go_wp2_with fail
          go_big_region
          have k1 := (Ho2.out.stored j1 (VI x)).1
          have k2 := (k1.stored z (VI y)).1
          rw [← List.map_set, ← List.map_set, H3.out] at k2
          have K3 := Lib.hid (own_below k2 (below_drewN (Below.refl _ _) 1) (Nat.le_refl _))
          have K4 := Lib.hid (((Hu2.out.trans (Upd.setCell wq j1 (VI x))).trans (Upd.setCell _ z (VI y))).trans (Upd.drewN g _ 1))
          clear k1 k2
          go_wp2_with fail
          exact ⟨⟨s, by congr 1; have := Hz.out; omega, by have := Htq.out; omega, by have := HtA.out; omega, K3.out, K4.out⟩, by simp [intOf]; have := Htq.out; have := Hz.out; have := J1.out; omega⟩
        · obtain rfl : t = q := by omega
          have hz1 : ¬ (i : Int) < ((a + t : Nat) : Int) := by have := Hq.out; omega
          go_wp2_with fail
          go_end0
          exact ⟨rfl, _, Hins.out.1, Hins.out.2, by have := Ho2.out; simpa using this, Hu2.out⟩
end Go.Proofs.YtmeoafodcniliaaGreatDoor.C24
