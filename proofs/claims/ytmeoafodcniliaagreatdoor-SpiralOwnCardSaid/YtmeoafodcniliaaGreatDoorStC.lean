/- slices.symMergeCmpFunc over ints, with a closure that only reads: one element on the left -/
import Derived.Test.YtmeoafodcniliaaGreatDoorStB
namespace Go.Proofs.YtmeoafodcniliaaGreatDoor.C24
open Go.RowKit
set_option linter.unusedSimpArgs false
set_option linter.unusedVariables false
theorem Reads.upd {g : Nat} {X : List Int} {c : Int → Int → Int} {cb : Array Value} {w w' : World} (h : Reads g X c cb w) (hu : Upd g w w') : Reads g X c cb w' := fun w2 x y hu2 => h w2 x y (hu.trans hu2)
/-- What a merge leaves. -/
def MergeSaid (g n cap base : Nat) (L : Int → Int → Prop) (P A B S : List Int) (w : World) (e : Ending) (w' : World) : Prop :=
  e = .returned (.tuple #[]) ∧ ∃ R, R.Perm (A ++ B) ∧ R.Pairwise L ∧ w'.ownsRow base 3 1 (.slice (some ⟨g, 0, none⟩) n cap) n ((P ++ (R ++ S)).map VI) ∧ Upd g w w'
theorem own_get {g n cap base : Nat} {Y : List Int} {w : World} (h : w.ownsRow base 3 1 (.slice (some ⟨g, 0, none⟩) n cap) n (Y.map VI)) (hn : Y.length = n) {k : Nat} {z : Int} (hz : Y[k]? = some z) : w.cell? ⟨g, k, none⟩ = some (.int .i64 z) ∧ w.frozen? ⟨g, k, none⟩ = false := by
  have hk : k < n := by rw [← hn]; exact (List.getElem?_eq_some_iff.1 hz).1
  have c := h.cellAt k (by omega)
  rw [List.getElem?_map, hz] at c
  exact ⟨c, h.frozenAt k⟩
set_option maxHeartbeats 8000000 in
set_option maxRecDepth 20000 in
theorem symL_calls (c : Int → Int → Int) (L : Int → Int → Prop) (hL : St.Ord c L) (X : List Int) (g n cap base a m b : Nat) (P B S : List Int) (x : Int) (cb : Array Value) (w : World) (ha : a = P.length) (hm : m = P.length + 1) (hb : b = P.length + 1 + B.length) (hB : B.Pairwise L) (hbef : ∀ y ∈ B, x < y)
    (hn : (P ++ (x :: (B ++ S))).length = n) (hn2 : n ≤ 1099511627776) (hX : ∀ z ∈ x :: B, z ∈ X) (hc : Reads g X c cb w)
    (hown : w.ownsRow base 3 1 (.slice (some ⟨g, 0, none⟩) n cap) n ((P ++ (x :: (B ++ S))).map VI)) :
    Calls Tryz.prog 245 #[.slice (some ⟨g, 0, none⟩) n cap, .int .i64 (a : Int), .int .i64 (m : Int), .int .i64 (b : Int), .func (.func 98) #[] cb] w (MergeSaid g n cap base L P [x] B S w) := by
  have hk : b ≤ n := by simp at hn; omega
  have e1 : (m : Int) - (a : Int) = 1 := by omega
  have Ha := Lib.hid ha; have Hm := Lib.hid hm; have Hb := Lib.hid hb; have HB := Lib.hid hB; have Hbef := Lib.hid hbef; have Hn := Lib.hid hn; have HX := Lib.hid hX; have HC := Lib.hid hc; have Hown := Lib.hid hown
  clear ha hm hb hB hbef hn hX hc hown
  go_enter Tryz.func245, Tryz.ntmps245
  go_wp2_with fail
  go_loopw [10, 11] (fun iv jv wr => ∃ (i j : Nat), iv = .int .i64 (i : Int) ∧ jv = .int .i64 (j : Int) ∧ m ≤ i ∧ i ≤ j ∧ j ≤ b ∧ (i = m ∨ L (B.getD (i - 1 - m) 0) x) ∧ (j = b ∨ L x (B.getD (j - m) 0)) ∧ ∃ k, wr = w.drewN k) (fun iv jv _ => (intOf jv).toNat - (intOf iv).toNat)
  case atStart => exact ⟨m, b, rfl, rfl, Nat.le_refl _, by have := Hm.out; have := Hb.out; omega, Nat.le_refl _, Or.inl rfl, Or.inl rfl, 0, rfl⟩
  case round =>
    obtain ⟨i, j, rfl, rfl, hi, hij, hj, h1, h2, hd⟩ := hrel
    have Hi := Lib.hid hi; have Hij := Lib.hid hij; have Hj := Lib.hid hj; have H1 := Lib.hid h1; have H2 := Lib.hid h2; have Hd := Lib.hid hd
    clear hi hij hj h1 h2 hd
    by_cases hlt : i < j
    · have l1 : (i : Int) < (j : Int) := by omega
      obtain ⟨h, hh⟩ : ∃ h, h = (i + j) / 2 := ⟨_, rfl⟩
      have hh1 : i ≤ h ∧ h < j := by omega
      have eh : ((i : Int) + (j : Int)) / 2 = (h : Int) := by omega
      have hjn : (j : Int) ≤ 1099511627776 := by have := Hj.out; omega
      obtain ⟨q, hq⟩ : ∃ q, h = m + q := ⟨h - m, by have := Hi.out; omega⟩
      have hqB : q < B.length := by have := Hj.out; have := Hm.out; have := Hb.out; omega
      obtain ⟨y, hy⟩ : ∃ y, B.getD q 0 = y := ⟨_, rfl⟩
      have hyB : B[q]? = some y := by rw [← hy]; simp [List.getD, List.getElem?_eq_getElem hqB]
      have g1 : (P ++ (x :: (B ++ S)))[h]? = some y := by
        rw [hq, Hm.out, List.getElem?_append_right (by omega), show P.length + 1 + q - P.length = q + 1 by omega, List.getElem?_cons_succ, List.getElem?_append_left hqB]; exact hyB
      have g2 : (P ++ (x :: (B ++ S)))[a]? = some x := St.get_app Ha.out
      have Ho := Lib.hid (show wr.ownsRow base 3 1 (.slice (some ⟨g, 0, none⟩) n cap) n ((P ++ (x :: (B ++ S))).map VI) by obtain ⟨k, rfl⟩ := Hd.out; exact own_below Hown.out (below_drewN (Below.refl _ _) _) (Nat.le_refl _))
      obtain ⟨c1, f1⟩ := own_get Ho.out Hn.out g1
      obtain ⟨c2, f2⟩ := own_get Ho.out Hn.out g2
      have hcc := HC.out wr y x (by obtain ⟨k, rfl⟩ := Hd.out; exact Upd.drewN g _ _) (HX.out y (by simp [List.mem_of_getElem? hyB])) (HX.out x (by simp))
      have Hdn := Lib.hid (show ∀ q, ∃ k, wr.drewN q = w.drewN k from fun q => by obtain ⟨d, rfl⟩ := Hd.out; exact ⟨_, World.drewN_drewN _ _ _⟩)
      have hxy := Hbef.out y (List.mem_of_getElem? hyB)
      have Hyes := Lib.hid (hL.yes x y hxy)
      have Hno := Lib.hid (hL.no x y hxy)
      have hb1 : (h : Int) < (n : Int) := by have := Hj.out; omega
      have hb2 : (a : Int) < (n : Int) := by have := Ha.out; have := Hb.out; omega
      have Hq := Lib.hid hq; have Hy := Lib.hid hy; have Hh := Lib.hid hh1
      have Hlt := Lib.hid hlt
      clear hq hy hh1 hyB g1 g2 hqB hh hxy hlt
      go_wp2_with fail
      by_cases hcv : c y x < 0
      · go_big_quiet (first | (go_at_call 98; refine Calls.quiet_of (hcc _)))
        go_wp2_with fail
        exact ⟨⟨h + 1, j, by congr 1, rfl, by have := Hi.out; have := Hh.out; omega, by have := Hh.out; omega, Hj.out, Or.inr (by rw [show h + 1 - 1 - m = q by have := Hq.out; omega, Hy.out]; exact Hyes.out (by omega)), H2.out, Hdn.out _⟩, by simp [intOf]; have := Hh.out; omega⟩
      · go_big_quiet (first | (go_at_call 98; refine Calls.quiet_of (hcc _)))
        go_wp2_with fail
        exact ⟨⟨i, h, rfl, rfl, Hi.out, Hh.out.1, by have := Hh.out; have := Hj.out; omega, H1.out, Or.inr (by rw [show h - m = q by have := Hq.out; omega, Hy.out]; exact Hno.out (by omega)), Hdn.out _⟩, by simp [intOf]; have := Hh.out; omega⟩
    · obtain rfl : i = j := by have := Hij.out; omega
      obtain ⟨q, hq⟩ : ∃ q, i = m + q := ⟨i - m, by have := Hi.out; omega⟩
      have hqB : q ≤ B.length := by have := Hj.out; have := Hm.out; have := Hb.out; omega
      have hins := St.ins_one hL HB.out hqB (x := x) (by
        rcases H1.out with e | e
        · exact Or.inl (by omega)
        · rcases Nat.eq_zero_or_pos q with e0 | e0
          · exact Or.inl e0
          · rw [show i - 1 - m = q - 1 by omega] at e; exact Or.inr e) (by
        rcases H2.out with e | e
        · exact Or.inl (by have := Hm.out; have := Hb.out; omega)
        · rw [show i - m = q by omega] at e; exact Or.inr e)
      have Hins := Lib.hid hins
      have Ho := Lib.hid (show wr.ownsRow base 3 1 (.slice (some ⟨g, 0, none⟩) n cap) n ((P ++ (x :: (B ++ S))).map VI) by obtain ⟨k, rfl⟩ := Hd.out; exact own_below Hown.out (below_drewN (Below.refl _ _) _) (Nat.le_refl _))
      have Hu := Lib.hid (show Upd g w wr by obtain ⟨k, rfl⟩ := Hd.out; exact Upd.drewN g _ _)
      have ei : (i : Int) - 1 = ((a + q : Nat) : Int) := by have := Ha.out; have := Hm.out; omega
      have HqB := Lib.hid hqB
      have hqn : a + q + 1 ≤ n := by have := Ha.out; have := Hb.out; omega
      clear hlt hq hqB hins Hd H1 H2 HC
      generalize wr = w1 at *
      go_wp2_with fail
      go_loopw [13] (fun kv wq => ∃ t : Nat, kv = .int .i64 ((a + t : Nat) : Int) ∧ t ≤ q ∧ wq.ownsRow base 3 1 (.slice (some ⟨g, 0, none⟩) n cap) n ((P ++ (B.take t ++ (x :: (B.drop t ++ S)))).map VI) ∧ Upd g w wq) (fun kv _ => a + q - (intOf kv).toNat)
      case atStart => exact ⟨0, rfl, by omega, by simpa using Ho.out, Hu.out⟩
      case round =>
        obtain ⟨t, rfl, ht, ho, hu⟩ := hrel
        have Ho2 := Lib.hid ho; have Hu2 := Lib.hid hu
        clear ho hu
        by_cases htq : t < q
        · obtain ⟨h1, h2, h3⟩ := St.up_one (P := P) (B := B) (S := S) (x := x) (q := t) (by have := HqB.out; omega) (k := a + t) (by rw [Ha.out])
          have hl2 : (P ++ (B.take t ++ (x :: (B.drop t ++ S)))).length = n := by have := Ho2.out.1; rw [List.length_map] at this; omega
          obtain ⟨c1, f1⟩ := own_get Ho2.out hl2 h1
          obtain ⟨c2, f2⟩ := own_get Ho2.out hl2 h2
          generalize hyy : B.getD t 0 = y at *
          have H3 := Lib.hid h3
          obtain ⟨z, hz⟩ : ∃ z, z = a + t := ⟨_, rfl⟩
          rw [← hz] at c1 c2 f1 f2 H3 ⊢
          have hz1 : (z : Int) < ((a + q : Nat) : Int) := by omega
          have hz2 : (z : Int) + 1 < (n : Int) := by omega
          have hz3 : (z : Int) < (n : Int) := by omega
          have p0 : (0 : Int) ≤ (z : Int) + 1 := by omega
          have e0 : ((z : Int) + 1).toNat = z + 1 := by omega
          have Hz := Lib.hid hz; have Htq := Lib.hid htq
          clear hz h1 h2 h3 hl2 hyy htq ht
          generalize wr = wq at *
          have hc2 : ∀ u, (wq.setCell ⟨g, z, none⟩ u).cell? ⟨g, z + 1, none⟩ = some (.int .i64 y) := fun u => (World.cell?_setCell_other _ _ _ _ (by intro h; injection h with _ h; omega)).trans c2
          go_wp2_with fail
          go_big_region
          have k1 := (Ho2.out.stored z (VI y)).1
          have k2 := (k1.stored (z + 1) (VI x)).1
          rw [← List.map_set, ← List.map_set, H3.out] at k2
          have K3 := Lib.hid (own_below k2 (below_drewN (Below.refl _ _) 1) (Nat.le_refl _))
          have K4 := Lib.hid (((Hu2.out.trans (Upd.setCell wq z (VI y))).trans (Upd.setCell _ (z + 1) (VI x))).trans (Upd.drewN g _ 1))
          clear k1 k2
          go_wp2_with fail
          exact ⟨⟨t + 1, by congr 1; have := Hz.out; omega, by have := Htq.out; omega, K3.out, K4.out⟩, by simp [intOf]; have := Htq.out; have := Hz.out; omega⟩
        · obtain rfl : t = q := by omega
          go_wp2_with fail
          go_end0
          exact ⟨rfl, _, Hins.out.1, Hins.out.2, by have := Ho2.out; simpa using this, Hu2.out⟩
end Go.Proofs.YtmeoafodcniliaaGreatDoor.C24
