/- slices.stableCmpFunc, SortStableFunc over ints, with a closure that only reads -/
import Derived.Test.YtmeoafodcniliaaGreatDoorStE
namespace Go.Proofs.YtmeoafodcniliaaGreatDoor.C24
open Go.RowKit
set_option linter.unusedSimpArgs false
set_option linter.unusedVariables false
namespace St
section
variable {L : Int → Int → Prop}
theorem chop_two {bs : Nat} (hb : 1 ≤ bs) {E : List (List Int)} (h : Chop bs E) (hl : 2 * bs ≤ E.flatten.length) : ∃ A B E3, E = A :: B :: E3 ∧ A.length = bs ∧ B.length = bs ∧ Chop bs E3 := by
  match E, h, hl with
  | [], _, hl => simp at hl; omega
  | [A], h, hl => have := h.2; simp at hl; omega
  | [A, B], h, hl => have h1 : A.length = bs := h.1; have h2 := h.2.2; simp at hl; exact ⟨A, B, [], rfl, h1, by omega, trivial⟩
  | A :: B :: C :: E3, h, hl => exact ⟨A, B, C :: E3, rfl, h.1, h.2.1, h.2.2⟩
theorem chop_rest {bs : Nat} (hb : 1 ≤ bs) {E : List (List Int)} (h : Chop bs E) (hl : E.flatten.length < 2 * bs) : (E = [] ∧ E.flatten.length = 0) ∨ (∃ A, E = [A] ∧ 1 ≤ A.length ∧ A.length ≤ bs) ∨ (∃ A B, E = [A, B] ∧ A.length = bs ∧ 1 ≤ B.length ∧ B.length < bs) := by
  match E, h, hl with
  | [], _, hl => exact Or.inl ⟨rfl, rfl⟩
  | [A], h, hl => exact Or.inr (Or.inl ⟨A, rfl, h.1, h.2⟩)
  | [A, B], h, hl => have h1 : A.length = bs := h.1; have h2 := h.2.1; simp at hl; exact Or.inr (Or.inr ⟨A, B, rfl, h1, h2, by omega⟩)
  | A :: B :: C :: E3, h, hl =>
    exfalso
    have h1 : A.length = bs := h.1
    have h2 : B.length = bs := h.2.1
    simp at hl; omega
theorem bls_snoc {D : List (List Int)} {V : List Int} (h : Bls L D) (hV : V.Pairwise L) (hb : ∀ x ∈ D.flatten, ∀ y ∈ V, x < y) : Bls L (D ++ [V]) := by
  refine ⟨List.pairwise_append.2 ⟨h.1, List.pairwise_singleton _ _, fun X hX Y hY x hx y hy => ?_⟩, fun X hX => ?_⟩
  · simp at hY; subst hY; exact hb x (List.mem_flatten.2 ⟨X, hX, hx⟩) y hy
  · rcases List.mem_append.1 hX with e | e
    · exact h.2 X e
    · simp at e; subst e; exact hV
theorem flat_snoc (D : List (List Int)) (V : List Int) : (D ++ [V]).flatten = D.flatten ++ V := by simp
theorem bls_one {A : List Int} (h : Bls L [A]) : A.Pairwise L := h.2 A (by simp)
end
end St
theorem Reads.sub {g : Nat} {X Y : List Int} {c : Int → Int → Int} {cb : Array Value} {w : World} (h : Reads g X c cb w) (hs : ∀ z ∈ Y, z ∈ X) : Reads g Y c cb w := fun w' x y hu hx hy => h w' x y hu (hs x hx) (hs y hy)
/-- The blocks of a row that is being sorted. -/
structure SoSt (L : Int → Int → Prop) (g n cap base : Nat) (M : List Int) (w0 : World) (bs : Nat) (D E : List (List Int)) (w : World) : Prop where
  len : ∀ A ∈ D, A.length = 2 * bs
  chop : St.Chop bs E
  bls : St.Bls L (D ++ E)
  perm : (D.flatten ++ E.flatten).Perm M
  own : w.ownsRow base 3 1 (.slice (some ⟨g, 0, none⟩) n cap) n ((D.flatten ++ E.flatten).map VI)
  upd : Upd g w0 w
set_option maxHeartbeats 8000000 in
set_option maxRecDepth 20000 in
theorem stable_calls (c : Int → Int → Int) (L : Int → Int → Prop) (hL : St.Ord c L) (M : List Int) (g n cap base : Nat) (cb : Array Value) (hn2 : n ≤ 1099511627776) (w : World) (hM : M.Pairwise (· < ·)) (hn : M.length = n) (hc : Reads g M c cb w)
    (hown : w.ownsRow base 3 1 (.slice (some ⟨g, 0, none⟩) n cap) n (M.map VI)) :
    Calls Tryz.prog 184 #[.slice (some ⟨g, 0, none⟩) n cap, .int .i64 (n : Int), .func (.func 98) #[] cb] w fun e w' =>
      e = .returned (.tuple #[]) ∧ ∃ R : List Int, R.Perm M ∧ R.Pairwise L ∧ w'.ownsRow base 3 1 (.slice (some ⟨g, 0, none⟩) n cap) n (R.map VI) ∧ Upd g w w' := by
  have HM := Lib.hid hM; have Hn := Lib.hid hn; have HC := Lib.hid hc; have Hown := Lib.hid hown
  clear hM hn hc hown
  go_enter Tryz.func184, Tryz.ntmps184
  go_wp2_with fail
  go_loopw [7, 8] (fun av bv wr => ∃ (a b : Nat) (D : List (List Int)) (M2 : List Int), av = .int .i64 (a : Int) ∧ bv = .int .i64 (b : Int) ∧ b = a + 20 ∧ a = D.flatten.length ∧ (∀ A ∈ D, A.length = 20) ∧ St.Bls L D ∧ (∀ x ∈ D.flatten, ∀ y ∈ M2, x < y) ∧ M2.Pairwise (· < ·) ∧ (D.flatten ++ M2).Perm M ∧ wr.ownsRow base 3 1 (.slice (some ⟨g, 0, none⟩) n cap) n ((D.flatten ++ M2).map VI) ∧ Upd g w wr) (fun av _ _ => n - (intOf av).toNat)
  case atStart => exact ⟨0, 20, [], M, rfl, rfl, rfl, rfl, (by simp), ⟨List.Pairwise.nil, by simp⟩, (by simp), HM.out, by simp, by simpa using Hown.out, Upd.refl _ _⟩
  case round =>
    obtain ⟨a, b, D, M2, rfl, rfl, hb, ha, hD, hbl, hlt, hM2, hp, ho, hu⟩ := hrel
    have Hb := Lib.hid hb; have Ha := Lib.hid ha; have HD := Lib.hid hD; have Hbl := Lib.hid hbl; have Hlt := Lib.hid hlt; have HM2 := Lib.hid hM2; have Hp := Lib.hid hp; have Ho := Lib.hid ho; have Hu := Lib.hid hu
    have hln : a + M2.length = n := by have := hp.length_eq; rw [List.length_append, Hn.out] at this; omega
    have Hln := Lib.hid hln
    have bn : (b : Int) ≤ 1099511627796 := by omega
    clear hb ha hD hbl hlt hM2 hp ho hu hln
    by_cases hbn : b ≤ n
    · have l1 : (b : Int) ≤ (n : Int) := by omega
      obtain ⟨M3, M4, rfl, hl3⟩ : ∃ A B, M2 = A ++ B ∧ A.length = 20 := ⟨M2.take 20, M2.drop 20, (List.take_append_drop _ _).symm, by have := Hln.out; have := Hb.out; simp; omega⟩
      obtain ⟨hm3, hm4, hm34⟩ := List.pairwise_append.1 HM2.out
      obtain ⟨V, v1, v2, v3⟩ := St.ins_block hL D.flatten M3 M4 hm3
      have HV1 := Lib.hid v1; have HV2 := Lib.hid v2; have HV3 := Lib.hid v3; have Hl3 := Lib.hid hl3; have Hm4 := Lib.hid hm4; have Hm34 := Lib.hid hm34; have Hbn := Lib.hid hbn
      clear v1 v2 v3 hl3 hm3 hm4 hm34 hbn
      go_wp2_with fail
      refine (ins_calls g n cap base a b (D.flatten ++ (M3 ++ M4)) c cb wr (by have := Hp.out.length_eq; rw [this]; exact Hn.out) (by have := Hb.out; omega) Hbn.out hn2 Ho.out ((HC.out.upd Hu.out).sub (fun z hz => Hp.out.mem_iff.1 hz))).mono ?_
      rintro e w2 ⟨rfl, ho2, hu2⟩
      rw [show b - (a + 1) = D.flatten.length + M3.length - (D.flatten.length + 1) by have := Hb.out; have := Ha.out; have := Hl3.out; omega, Ha.out, HV1.out] at ho2
      have HR := Lib.hid (show (∀ A ∈ D ++ [V], A.length = 20) ∧ St.Bls L (D ++ [V]) ∧ (∀ x ∈ (D ++ [V]).flatten, ∀ y ∈ M4, x < y) ∧ ((D ++ [V]).flatten ++ M4).Perm M ∧ w2.ownsRow base 3 1 (.slice (some ⟨g, 0, none⟩) n cap) n (((D ++ [V]).flatten ++ M4).map VI) ∧ Upd g w w2 from by
        have ef : (D ++ [V]).flatten = D.flatten ++ V := by simp
        refine ⟨fun A hA => ?_, St.bls_snoc Hbl.out HV3.out (fun x hx y hy => Hlt.out x hx y (List.mem_append_left _ (HV2.out.mem_iff.1 hy))), fun x hx y hy => ?_, ?_, ?_, Hu.out.trans hu2⟩
        · rcases List.mem_append.1 hA with h | h
          · exact HD.out A h
          · simp at h; subst h; rw [HV2.out.length_eq]; exact Hl3.out
        · rw [ef] at hx
          rcases List.mem_append.1 hx with h | h
          · exact Hlt.out x h y (List.mem_append_right _ hy)
          · exact Hm34.out x (HV2.out.mem_iff.1 h) y hy
        · rw [ef]
          refine List.Perm.trans ?_ Hp.out
          rw [List.append_assoc]
          exact List.Perm.append_left _ (List.Perm.append_right _ HV2.out)
        · rw [ef]; simpa using ho2)
      have Hal := Lib.hid (show b = (D ++ [V]).flatten.length by have := Hb.out; have := Ha.out; have := Hl3.out; have := HV2.out.length_eq; rw [St.flat_snoc, List.length_append]; omega)
      clear ho2 hu2 HV1 HV2 HV3 Ho Hu
      go_wp2_with fail
      obtain ⟨r1, r2, r3, r4, r5, r6⟩ := HR.out
      exact ⟨⟨b, b + 20, D ++ [V], M4, rfl, by congr 1, rfl, Hal.out, r1, r2, r3, Hm4.out, r4, r5, r6⟩, by simp [intOf]; have := Hb.out; have := Hbn.out; omega⟩
    · have l1 : ¬ (b : Int) ≤ (n : Int) := by omega
      obtain ⟨V, v1, v2, v3⟩ := St.ins_block hL D.flatten M2 [] HM2.out
      have HV1 := Lib.hid v1; have HV2 := Lib.hid v2; have HV3 := Lib.hid v3; have Hbn := Lib.hid hbn
      clear v1 v2 v3 hbn
      go_wp2_with fail
      refine (ins_calls g n cap base a n (D.flatten ++ M2) c cb wr (by have := Hp.out.length_eq; rw [this]; exact Hn.out) (by have := Hln.out; omega) (Nat.le_refl _) hn2 Ho.out ((HC.out.upd Hu.out).sub (fun z hz => Hp.out.mem_iff.1 hz))).mono ?_
      rintro e w2 ⟨rfl, ho2, hu2⟩
      rw [show n - (a + 1) = D.flatten.length + M2.length - (D.flatten.length + 1) by have := Hln.out; have := Ha.out; omega, Ha.out, show D.flatten ++ M2 = D.flatten ++ (M2 ++ []) by simp, HV1.out] at ho2
      have HR := Lib.hid (show ∃ E, SoSt L g n cap base M w 20 [] E w2 from by
        by_cases h0 : M2 = []
        · have hV0 : V = [] := by have := HV2.out.length_eq; rw [h0] at this; exact List.eq_nil_of_length_eq_zero this
          refine ⟨D, (by simp), ?_, by simpa using Hbl.out, ?_, ?_, Hu.out.trans hu2⟩
          · have := St.chop_app (bs := 20) (D := D) (E := []) HD.out (by omega) trivial; simpa using this
          · have := Hp.out; rw [h0] at this; simpa using this
          · rw [hV0] at ho2; simpa using ho2
        · have hl := HV2.out.length_eq
          have hp0 : 1 ≤ M2.length := by cases h : M2 with | nil => exact absurd h h0 | cons => simp
          have ef : (D ++ [V]).flatten = D.flatten ++ V := by simp
          refine ⟨D ++ [V], (by simp), St.chop_app HD.out (by omega) ⟨by omega, by have := Hln.out; have := Hb.out; have := Hbn.out; omega⟩, ?_, ?_, ?_, Hu.out.trans hu2⟩
          · exact St.bls_snoc Hbl.out HV3.out (fun x hx y hy => Hlt.out x hx y (HV2.out.mem_iff.1 hy))
          · rw [ef]; exact (List.Perm.append_left _ HV2.out).trans Hp.out
          · rw [ef]; simpa using ho2)
      clear ho2 hu2 HV1 HV2 HV3 Ho Hu Hb Ha HD Hbl Hlt HM2 Hp Hln Hbn l1 bn
      go_wp2_with fail
      go_loopw [6] (fun sv wr => ∃ (bs : Nat) (E : List (List Int)), sv = .int .i64 (bs : Int) ∧ 1 ≤ bs ∧ bs ≤ 2199023255552 ∧ SoSt L g n cap base M w bs [] E wr) (fun sv _ => n - (intOf sv).toNat)
      case atStart => obtain ⟨E, hE⟩ := HR.out; exact ⟨20, E, rfl, by omega, by omega, hE⟩
      case round =>
        obtain ⟨bs, E, rfl, hbs, hbs2, hE⟩ := hrel
        have HE := Lib.hid hE
        clear hE HR
        by_cases hlt : bs < n
        · have l1 : (bs : Int) < (n : Int) := by omega
          have l2 : (bs : Int) ≤ 1099511627776 := by omega
          have Hlt := Lib.hid hlt
          generalize wr = w3 at *
          clear hlt
          go_wp2_with fail
          go_loopw [7, 8] (fun av bv wq => ∃ (a b : Nat) (D E : List (List Int)), av = .int .i64 (a : Int) ∧ bv = .int .i64 (b : Int) ∧ a = D.flatten.length ∧ b = a + 2 * bs ∧ SoSt L g n cap base M w bs D E wq) (fun av _ _ => n - (intOf av).toNat)
          case atStart => exact ⟨0, 2 * bs, [], E, rfl, by congr 1, rfl, by omega, HE.out⟩
          case round =>
            obtain ⟨a, b, D, E2, rfl, rfl, ha, hb, hS⟩ := hrel
            have Ha := Lib.hid ha; have Hb := Lib.hid hb; have HS := Lib.hid hS
            have hln : a + E2.flatten.length = n := by have := hS.perm.length_eq; rw [List.length_append, Hn.out] at this; omega
            have Hln := Lib.hid hln
            have bn : (a : Int) ≤ 1099511627776 := by omega
            have bn2 : (b : Int) ≤ 3298534883328 := by omega
            clear ha hb hS hln HE
            by_cases hbn : b ≤ n
            · have l3 : (b : Int) ≤ (n : Int) := by omega
              obtain ⟨A, B, E3, rfl, hA, hB, hch⟩ := St.chop_two hbs HS.out.chop (by have := Hb.out; have := Hln.out; omega)
              obtain ⟨sA, sB, sAB⟩ := HS.out.bls.pair
              obtain ⟨m, hm⟩ : ∃ m, m = a + bs := ⟨_, rfl⟩
              have e1 : (a : Int) + (bs : Int) = (m : Int) := by omega
              have bm : (m : Int) ≤ 3298534883328 := by omega
              have Hm := Lib.hid hm
              clear hm
              have HA := Lib.hid hA; have HB := Lib.hid hB; have Hch := Lib.hid hch; have HsA := Lib.hid sA; have HsB := Lib.hid sB; have HsAB := Lib.hid sAB; have Hbn := Lib.hid hbn
              clear hA hB hch sA sB sAB hbn
              go_wp2_with fail
              refine (sym_calls c L hL M g n cap base cb hn2 (A.length + B.length) D.flatten A B E3.flatten a m b wr (Nat.le_refl _) Ha.out (by have := HA.out; have := Ha.out; have := Hm.out; omega) (by have := HA.out; have := Ha.out; have := HB.out; have := Hb.out; omega) (by have := HA.out; omega) (by have := HB.out; omega) HsA.out HsB.out HsAB.out (by have := HS.out.perm.length_eq; rw [Hn.out] at this; simpa using this) (fun z hz => HS.out.perm.mem_iff.1 (by simp at hz ⊢; rcases hz with h | h <;> simp [h])) (HC.out.upd HS.out.upd) (by have := HS.out.own; simpa using this)).mono ?_
              rintro e w4 ⟨rfl, R, p1, p2, p3, p4⟩
              have hRl : R.length = 2 * bs := by have h := p1.length_eq; have := HA.out; have := HB.out; rw [List.length_append] at h; omega
              have HR := Lib.hid (show SoSt L g n cap base M w bs (D ++ [R]) E3 w4 from by
                have ef : (D ++ [R]).flatten = D.flatten ++ R := by simp
                refine ⟨fun Z hZ => ?_, Hch.out, HS.out.bls.merge p1 p2, ?_, ?_, HS.out.upd.trans p4⟩
                · rcases List.mem_append.1 hZ with h | h
                  · exact HS.out.len Z h
                  · simp at h; subst h; exact hRl
                · rw [ef]
                  refine List.Perm.trans ?_ HS.out.perm
                  rw [List.append_assoc]
                  refine List.Perm.append_left _ ?_
                  refine (List.Perm.append_right _ p1).trans ?_
                  simp
                · rw [ef]; simpa using p3)
              have Hal := Lib.hid (show b = (D ++ [R]).flatten.length by have := Hb.out; have := Ha.out; rw [St.flat_snoc, List.length_append]; omega)
              clear p1 p2 p3 p4 hRl
              go_wp2_with fail
              exact ⟨⟨b, b + 2 * bs, D ++ [R], E3, rfl, by congr 1, Hal.out, rfl, HR.out⟩, by simp [intOf]; have := Hb.out; have := Hbn.out; omega⟩
            · have l3 : ¬ (b : Int) ≤ (n : Int) := by omega
              have hrest := St.chop_rest hbs HS.out.chop (by have := Hb.out; have := Hln.out; omega)
              obtain ⟨m, hm⟩ : ∃ m, m = a + bs := ⟨_, rfl⟩
              have e1 : (a : Int) + (bs : Int) = (m : Int) := by omega
              have Hrest := Lib.hid hrest; have Hm := Lib.hid hm; have Hbn := Lib.hid hbn
              have bm : (m : Int) ≤ 3298534883328 := by omega
              clear hrest hm hbn
              have fin : ∀ (w5 : World) (E4 : List (List Int)), (∀ A ∈ ([] : List (List Int)), A.length = 2 * (2 * bs)) → St.Chop (2 * bs) E4 → St.Bls L E4 → E4.flatten.Perm M → w5.ownsRow base 3 1 (.slice (some ⟨g, 0, none⟩) n cap) n (E4.flatten.map VI) → Upd g w w5 → SoSt L g n cap base M w (2 * bs) [] E4 w5 := fun w5 E4 h1 h2 h3 h4 h5 h6 => ⟨h1, h2, by simpa using h3, by simpa using h4, by simpa using h5, h6⟩
              have Hfin := Lib.hid fin
              clear fin
              by_cases hmn : m < n
              · have l4 : (m : Int) < (n : Int) := by omega
                obtain ⟨A, B, rfl, hA, hB1, hB2⟩ : ∃ A B, E2 = [A, B] ∧ A.length = bs ∧ 1 ≤ B.length ∧ B.length < bs := by
                  rcases Hrest.out with ⟨rfl, h⟩ | ⟨A, rfl, h1, h2⟩ | h
                  · exfalso; have h4 := Hln.out; rw [h] at h4; have := Hm.out; omega
                  · exfalso; have h3 := Hln.out; have := Hm.out; simp at h3; omega
                  · exact h
                obtain ⟨sA, sB, sAB⟩ := HS.out.bls.pair
                have HA := Lib.hid hA; have HB1 := Lib.hid hB1; have HB2 := Lib.hid hB2; have HsA := Lib.hid sA; have HsB := Lib.hid sB; have HsAB := Lib.hid sAB
                clear hA hB1 hB2 sA sB sAB hmn
                go_wp2_with fail
                refine (sym_calls c L hL M g n cap base cb hn2 (A.length + B.length) D.flatten A B [] a m n wr (Nat.le_refl _) Ha.out (by have := HA.out; have := Ha.out; have := Hm.out; omega) (by have h3 := Hln.out; have := Ha.out; simp at h3; omega) (by have := HA.out; omega) HB1.out HsA.out HsB.out HsAB.out (by have := HS.out.perm.length_eq; rw [Hn.out] at this; simpa using this) (fun z hz => HS.out.perm.mem_iff.1 (by simp at hz ⊢; rcases hz with h | h <;> simp [h])) (HC.out.upd HS.out.upd) (by have := HS.out.own; simpa using this)).mono ?_
                rintro e w4 ⟨rfl, R, p1, p2, p3, p4⟩
                have HR := Lib.hid (show SoSt L g n cap base M w (2 * bs) [] (D ++ [R]) w4 from by
                  have ef : (D ++ [R]).flatten = D.flatten ++ R := by simp
                  have hl := p1.length_eq
                  rw [List.length_append] at hl
                  refine Hfin.out w4 _ (by simp) (St.chop_app HS.out.len (by omega) ⟨by have := HB1.out; omega, by have := HA.out; have := HB2.out; omega⟩) (by have := HS.out.bls.merge p1 p2; simpa using this) ?_ ?_ (HS.out.upd.trans p4)
                  · rw [ef]
                    refine List.Perm.trans ?_ HS.out.perm
                    refine List.Perm.append_left _ ?_
                    simpa using p1
                  · rw [ef]; simpa using p3)
                clear p1 p2 p3 p4
                go_wp2_with fail
                exact ⟨⟨2 * bs, D ++ [R], by congr 1; push_cast; omega, by omega, by have := Hlt.out; omega, HR.out⟩, by simp [intOf]; have := Hlt.out; omega⟩
              · have l4 : ¬ (m : Int) < (n : Int) := by omega
                have HR := Lib.hid (show SoSt L g n cap base M w (2 * bs) [] (D ++ E2) wr from by
                  refine Hfin.out wr _ (by simp) ?_ HS.out.bls (by simpa using HS.out.perm) (by have := HS.out.own; simpa using this) HS.out.upd
                  refine St.chop_app HS.out.len (by omega) ?_
                  rcases Hrest.out with ⟨rfl, h⟩ | ⟨A, rfl, h1, h2⟩ | ⟨A, B, rfl, h1, h2, h3⟩
                  · trivial
                  · exact ⟨h1, by omega⟩
                  · exfalso; have h4 := Hln.out; have := Hm.out; simp at h4; omega)
                clear hmn
                go_wp2_with fail
                exact ⟨⟨2 * bs, D ++ E2, by congr 1; push_cast; omega, by omega, by have := Hlt.out; omega, HR.out⟩, by simp [intOf]; have := Hlt.out; omega⟩
        · have l1 : ¬ (bs : Int) < (n : Int) := by omega
          have hone := St.chop_one hbs HE.out.chop (by have := HE.out.perm.length_eq; rw [Hn.out, List.flatten_nil, List.nil_append] at this; omega)
          have HZ := Lib.hid (show ∃ R : List Int, R.Perm M ∧ R.Pairwise L ∧ wr.ownsRow base 3 1 (.slice (some ⟨g, 0, none⟩) n cap) n (R.map VI) ∧ Upd g w wr from by
            refine ⟨E.flatten, by simpa using HE.out.perm, ?_, by have := HE.out.own; simpa using this, HE.out.upd⟩
            rcases hone with rfl | ⟨A, rfl⟩
            · simp
            · have := St.bls_one (L := L) (A := A) (by simpa using HE.out.bls); simpa using this)
          clear hone HE
          go_wp2_with fail
          go_end0
          exact ⟨rfl, HZ.out⟩
end Go.Proofs.YtmeoafodcniliaaGreatDoor.C24
