/- PutList of both -/
import Derived.Test.YtkohakogknodeaaVPut2
namespace Go.Proofs.Ytkohakogknodeaa
open Go.RowKit
set_option linter.unusedSimpArgs false
set_option linter.unusedVariables false
namespace Vi
/-- What PutList lays behind bytes. -/
def putB (bs : List (BitVec 8)) (f : Int) (zs : List Int) : List (BitVec 8) := if putOk f zs = true then bs ++ (form zs.length ++ gapsL f zs) else []
theorem gapsL_len : ∀ (l : List Int) (f : Int), (∀ x ∈ l, x - f < 9223372036854775808) → rise f l = true → (gapsL f l).length ≤ 9 * l.length
  | [], f, _, _ => by simp [gapsL]
  | x :: t, f, hb, hr => by
    simp only [rise, Bool.and_eq_true, decide_eq_true_eq] at hr
    have hx := hb x (by simp)
    have h9 := len_nine (x := (x - f).toNat) (by omega)
    have := gapsL_len t (x + 1) (fun y hy => by have := hb y (by simp [hy]); omega) hr.2
    rw [gapsL, List.length_append, form_length, List.length_cons]; omega
end Vi
theorem i64s_max {zs : List Int} (h : ∀ z ∈ zs, -9223372036854775808 ≤ z ∧ z ≤ 9223372036854775807) {a : Nat} {z : Int} (hz : zs[a]? = some z) : -9223372036854775808 ≤ z ∧ z ≤ 9223372036854775807 := h z (List.mem_of_getElem? hz)
set_option maxHeartbeats 4000000 in
set_option maxRecDepth 20000 in
theorem putList_calls (A : Option Addr) (n cap B : Nat) (bs : List (BitVec 8)) (f : Int) (A' : Option Addr) (k cap' B' : Nat) (zs : List Int) (w : World) (hn : n = bs.length) (hm : n ≤ 1099511627776) (hk : k = zs.length) (hkm : k ≤ 1099511627776) (hkc : k ≤ cap') (hcm : cap' ≤ maxLen)
    (hB : B ≤ w.heap.size) (hB' : B' ≤ w.heap.size) (hr : Rd w B A (bs.map V8)) (hr' : Rd w B' A' (zs.map VI)) (hz : ∀ z ∈ zs, -9223372036854775808 ≤ z ∧ z ≤ 9223372036854775807) (hf : f ≤ 9223372036854775807) :
    Calls Try.prog 29 #[.slice A n cap, .int .i64 f, .slice A' k cap'] w fun e w' => ∃ A2 m cap2, e = .returned (.tuple #[.slice A2 m cap2, .int .i64 (Vi.putE f zs)]) ∧ m = (Vi.putB bs f zs).length ∧
      w'.ownsRow w.heap.size 5 1 (.slice A2 m cap2) m ((Vi.putB bs f zs).map V8) ∧ Below w.heap.size w w' := by
  have Hn := Lib.hid hn; have Hk := Lib.hid hk; have Hr := Lib.hid hr; have Hr' := Lib.hid hr'; have Hz := Lib.hid hz
  unfold maxLen at hcm
  clear hn hk hr hr' hz
  go_enter Try.func29, Try.ntmps29
  rcases (by omega : f < 0 ∨ 0 ≤ f) with hf0 | hf0
  · have hE : Vi.putOk f zs = false := by unfold Vi.putOk; rw [decide_eq_false (by omega)]; rfl
    have HE := Lib.hid hE; clear hE
    go_wp2_with fail
    go_ret2
    refine ⟨none, 0, 0, ?_, ?_, ?_, Below.refl _ _⟩
    · unfold Vi.putE; rw [if_neg (by rw [HE.out]; simp)]; rfl
    · unfold Vi.putB; rw [if_neg (by rw [HE.out]; simp)]; rfl
    · unfold Vi.putB; rw [if_neg (by rw [HE.out]; simp)]; exact ⟨rfl, Or.inl ⟨rfl, rfl⟩⟩
  · have hOk : Vi.putOk f zs = Vi.rise f zs := by unfold Vi.putOk; rw [decide_eq_true hf0]; rfl
    have HOk := Lib.hid hOk; clear hOk
    obtain ⟨C, hC⟩ : ∃ C, C = 9 + k := ⟨_, rfl⟩
    have hk9 : (9 : Int) + (k : Int) = (C : Int) := by omega
    have hCb : C ≤ 1099511627785 := by omega
    clear hC
    have hf1 : ¬ f < 0 := by omega
    go_wp2_with fail
    refine (grown_calls A n cap C B bs w Hn.out (by omega) hB Hr.out).mono ?_
    rintro e w1 ⟨A1, cap1, rfl, hown1, hb1⟩
    have Hown1 := Lib.hid hown1; have Hb1 := Lib.hid hb1
    have hs1 := hb1.size
    clear hown1 hb1 hk9
    go_wp2_with fail
    refine (put_calls A1 n cap1 w.heap.size bs (k : Int) w1 (by omega) Hn.out (by omega) hs1 Hown1.out).mono ?_
    rintro e w2 ⟨A2, n2, cap2, rfl, hn2, hown2, hb2⟩
    rw [Int.toNat_natCast] at hn2 hown2
    have h9 := Vi.len_nine (x := k) (by omega)
    have hn2b : n2 ≤ n + 9 := by rw [hn2, List.length_append, Vi.form_length, ← Hn.out]; omega
    have Hown2 := Lib.hid hown2; have Hb2 := Lib.hid (Hb1.out.trans hb2); have Hn2 := Lib.hid hn2
    clear hown2 hb2 hn2 Hown1 Hb1 h9
    go_wp2_with fail
    go_loopw [8, 23] (fun o i wr => ∃ (a : Nat) (O : List (BitVec 8)) (g : Int), i = .int .i64 (a : Int) ∧ a ≤ k ∧ O.length ≤ n + 9 + 9 * a ∧ O ++ Vi.gapsL g (zs.drop a) = bs ++ (Vi.form zs.length ++ Vi.gapsL f zs) ∧ Vi.rise f zs = Vi.rise g (zs.drop a) ∧
      ((a = 0 ∧ g = f) ∨ ∃ (j : Nat) (y : Int), a = j + 1 ∧ zs[j]? = some y ∧ 0 ≤ y ∧ g = y + 1) ∧ wr.ownsRow w.heap.size 5 1 o O.length (O.map V8) ∧ Below w.heap.size w wr) (fun _ i _ => k - (intOf i).toNat)
    case atStart =>
      refine ⟨0, bs ++ Vi.form k, f, rfl, by omega, by rw [← Hn2.out]; omega, ?_, rfl, Or.inl ⟨rfl, rfl⟩, by rw [← Hn2.out]; exact Hown2.out, Hb2.out⟩
      rw [Hk.out]; simp
    case round =>
      obtain ⟨a, O, g, rfl, ha, hOl, hO, hR, hg, hown, hbl⟩ := hrel
      obtain ⟨A3, cap3, rfl, hc3, hm3, _⟩ := own_form hown
      have HO := Lib.hid hO; have HR := Lib.hid hR; have Hown := Lib.hid hown; have Hbl := Lib.hid hbl
      have hsz := hbl.size
      clear hO hR hown hbl
      by_cases hlt : a < k
      · have q1 : (a : Int) < (k : Int) := by omega
        obtain ⟨x, hx⟩ : ∃ x, zs[a]? = some x := ⟨zs[a]'(by rw [← Hk.out]; omega), List.getElem?_eq_getElem _⟩
        obtain ⟨b, off, rfl, hb, hc⟩ := rd_get (Hr'.out.below Hbl.out hB') hx
        obtain ⟨hx1, hx2⟩ := i64s_max Hz.out hx
        have hd : zs.drop a = x :: zs.drop (a + 1) := by
          rw [List.drop_eq_getElem_cons (List.getElem?_eq_some_iff.1 hx).1, (List.getElem?_eq_some_iff.1 hx).2]
        have Hd := Lib.hid hd; have Hx := Lib.hid hx
        clear hd hx
        rcases hg with ⟨rfl, rfl⟩ | ⟨j, y, rfl, hy, hy0, rfl⟩
        · have hc0 : wr.cell? ⟨b, off, none⟩ = some (.int .i64 x) := by rw [Nat.add_zero] at hc; exact hc
          clear hc
          by_cases hle : g ≤ x
          · go_wp2_with fail
            refine (put_calls A3 O.length cap3 w.heap.size O (x - g) wr (by omega) rfl (by omega) hsz Hown.out).mono ?_
            rintro e w4 ⟨A4, n4, cap4, rfl, hn4, hown4, hb4⟩
            have h9 := Vi.len_nine (x := (x - g).toNat) (by omega)
            have hl4 : (O ++ Vi.form (x - g).toNat).length ≤ n + 9 + 9 * 1 := by rw [List.length_append, Vi.form_length]; omega
            have Hl4 := Lib.hid hl4
            have Hown4 := Lib.hid hown4; have Hb4 := Lib.hid (Hbl.out.trans hb4); have Hn4 := Lib.hid hn4
            have HO4 := Lib.hid (show (O ++ Vi.form (x - g).toNat) ++ Vi.gapsL (x + 1) (zs.drop (0 + 1)) = bs ++ (Vi.form zs.length ++ Vi.gapsL g zs) by rw [← HO.out, Hd.out, Vi.gapsL, List.append_assoc])
            have HR4 := Lib.hid (show Vi.rise g zs = Vi.rise (x + 1) (zs.drop (0 + 1)) by rw [HR.out, Hd.out, Vi.rise, decide_eq_true hle, Bool.true_and])
            clear hown4 hb4 hn4 hl4 h9 Hown
            go_wp2_with fail
            exact ⟨⟨0 + 1, O ++ Vi.form (x - g).toNat, x + 1, rfl, by omega, Hl4.out, HO4.out, HR4.out, Or.inr ⟨0, x, rfl, Hx.out, by omega, rfl⟩, by rw [← Hn4.out]; exact Hown4.out, Hb4.out⟩, by simp [intOf]; omega⟩
          · have hE : Vi.putOk g zs = false := by rw [HOk.out, HR.out, Hd.out, Vi.rise, decide_eq_false hle]; rfl
            have HE := Lib.hid hE; clear hE
            go_wp2_with fail
            go_ret2
            refine ⟨none, 0, 0, ?_, ?_, ?_, Hbl.out⟩
            · unfold Vi.putE; rw [if_neg (by rw [HE.out]; simp)]; rfl
            · unfold Vi.putB; rw [if_neg (by rw [HE.out]; simp)]; rfl
            · unfold Vi.putB; rw [if_neg (by rw [HE.out]; simp)]; exact ⟨rfl, Or.inl ⟨rfl, rfl⟩⟩
        · obtain ⟨b', off', e', _, hcy⟩ := rd_get (Hr'.out.below Hbl.out hB') hy
          injection e' with e'; injection e' with e1 e2; subst e1; subst e2
          obtain ⟨hy1, hy2⟩ := i64s_max Hz.out hy
          have hj1 : ((j : Int) + 1) - 1 = (j : Int) := by omega
          have hjk : (j : Int) < (k : Int) := by omega
          clear hy
          by_cases hle : y < x
          · go_wp2_with fail
            refine (put_calls A3 O.length cap3 w.heap.size O (x - y - 1) wr (by omega) rfl (by omega) hsz Hown.out).mono ?_
            rintro e w4 ⟨A4, n4, cap4, rfl, hn4, hown4, hb4⟩
            have exy : x - y - 1 = x - (y + 1) := by omega
            rw [exy] at hn4 hown4
            have h9 := Vi.len_nine (x := (x - (y + 1)).toNat) (by omega)
            have hl4 : (O ++ Vi.form (x - (y + 1)).toNat).length ≤ n + 9 + 9 * (j + 1 + 1) := by rw [List.length_append, Vi.form_length]; omega
            have Hl4 := Lib.hid hl4
            have Hown4 := Lib.hid hown4; have Hb4 := Lib.hid (Hbl.out.trans hb4); have Hn4 := Lib.hid hn4
            have HO4 := Lib.hid (show (O ++ Vi.form (x - (y + 1)).toNat) ++ Vi.gapsL (x + 1) (zs.drop (j + 1 + 1)) = bs ++ (Vi.form zs.length ++ Vi.gapsL f zs) by rw [← HO.out, Hd.out, Vi.gapsL, List.append_assoc])
            have HR4 := Lib.hid (show Vi.rise f zs = Vi.rise (x + 1) (zs.drop (j + 1 + 1)) by rw [HR.out, Hd.out, Vi.rise, decide_eq_true (show y + 1 ≤ x by omega), Bool.true_and])
            clear hown4 hb4 hn4 hl4 h9 Hown exy hj1
            go_wp2_with fail
            exact ⟨⟨j + 1 + 1, O ++ Vi.form (x - (y + 1)).toNat, x + 1, by congr 1, by omega, Hl4.out, HO4.out, HR4.out, Or.inr ⟨j + 1, x, rfl, Hx.out, by omega, rfl⟩, by rw [← Hn4.out]; exact Hown4.out, Hb4.out⟩, by simp [intOf]; omega⟩
          · have hE : Vi.putOk f zs = false := by rw [HOk.out, HR.out, Hd.out, Vi.rise, decide_eq_false (by omega)]; rfl
            have HE := Lib.hid hE; clear hE
            go_wp2_with fail
            go_ret2
            refine ⟨none, 0, 0, ?_, ?_, ?_, Hbl.out⟩
            · unfold Vi.putE; rw [if_neg (by rw [HE.out]; simp)]; rfl
            · unfold Vi.putB; rw [if_neg (by rw [HE.out]; simp)]; rfl
            · unfold Vi.putB; rw [if_neg (by rw [HE.out]; simp)]; exact ⟨rfl, Or.inl ⟨rfl, rfl⟩⟩
      · obtain rfl : a = k := by omega
        have hd : zs.drop a = [] := List.drop_eq_nil_of_le (by rw [Hk.out]; exact Nat.le_refl _)
        have hO2 := HO.out; have hR2 := HR.out
        rw [hd, Vi.gapsL, List.append_nil] at hO2
        rw [hd, Vi.rise] at hR2
        have hE : Vi.putOk f zs = true := by rw [HOk.out, hR2]
        have HE := Lib.hid hE; have HO2 := Lib.hid hO2
        clear hE hO2 hR2 hd hg
        go_wp2_with fail
        go_ret2
        have e : Vi.putB bs f zs = O := by unfold Vi.putB; rw [if_pos HE.out]; exact HO2.out.symm
        refine ⟨A3, O.length, cap3, ?_, ?_, ?_, Hbl.out⟩
        · unfold Vi.putE; rw [if_pos HE.out]; rfl
        · rw [e]
        · rw [e]; exact Hown.out
set_option maxHeartbeats 4000000 in
set_option maxRecDepth 20000 in
theorem rputList_calls (A : Option Addr) (n cap B : Nat) (bs : List (BitVec 8)) (f : Int) (A' : Option Addr) (k cap' B' : Nat) (zs : List Int) (w : World) (hn : n = bs.length) (hm : n ≤ 1099511627776) (hnil : A = none → n = 0 ∧ cap = 0) (hk : k = zs.length) (hkm : k ≤ 1099511627776) (hkc : k ≤ cap') (hcm : cap' ≤ maxLen)
    (hB : B ≤ w.heap.size) (hB' : B' ≤ w.heap.size) (hr : Rd w B A (bs.map V8)) (hr' : Rd w B' A' (zs.map VI)) (hz : ∀ z ∈ zs, -9223372036854775808 ≤ z ∧ z ≤ 9223372036854775807) (hf : f ≤ 9223372036854775807) :
    Calls Try.prog 38 #[.slice A n cap, .int .i64 f, .slice A' k cap'] w fun e w' => ∃ A2 m cap2, e = .returned (.tuple #[.slice A2 m cap2, .int .i64 (Vi.putE f zs)]) ∧ m = (Vi.putB bs f zs).length ∧
      w'.ownsRow w.heap.size 5 1 (.slice A2 m cap2) m ((Vi.putB bs f zs).map V8) ∧ Below w.heap.size w w' := by
  have Hn := Lib.hid hn; have Hk := Lib.hid hk; have Hr := Lib.hid hr; have Hr' := Lib.hid hr'; have Hz := Lib.hid hz; have Hnil := Lib.hid hnil
  unfold maxLen at hcm
  clear hn hk hr hr' hz hnil
  go_enter Try.func38, Try.ntmps38
  rcases (by omega : f < 0 ∨ 0 ≤ f) with hf0 | hf0
  · have hE : Vi.putOk f zs = false := by unfold Vi.putOk; rw [decide_eq_false (by omega)]; rfl
    have HE := Lib.hid hE; clear hE
    go_wp2_with fail
    go_ret2
    refine ⟨none, 0, 0, ?_, ?_, ?_, Below.refl _ _⟩
    · unfold Vi.putE; rw [if_neg (by rw [HE.out]; simp)]; rfl
    · unfold Vi.putB; rw [if_neg (by rw [HE.out]; simp)]; rfl
    · unfold Vi.putB; rw [if_neg (by rw [HE.out]; simp)]; exact ⟨rfl, Or.inl ⟨rfl, rfl⟩⟩
  · have hOk : Vi.putOk f zs = Vi.rise f zs := by unfold Vi.putOk; rw [decide_eq_true hf0]; rfl
    have HOk := Lib.hid hOk; clear hOk
    have hf1 : ¬ f < 0 := by omega
    go_wp2_with fail
    refine (rPut_calls A n cap B bs (k : Int) w (by omega) Hn.out (by omega) Hnil.out hB Hr.out).mono ?_
    rintro e w2 ⟨A2, n2, cap2, rfl, hn2, hown2, hb2⟩
    rw [Int.toNat_natCast] at hn2 hown2
    have h9 := Vi.len_nine (x := k) (by omega)
    have hn2b : n2 ≤ n + 9 := by rw [hn2, List.length_append, Vi.form_length, ← Hn.out]; omega
    have Hown2 := Lib.hid hown2; have Hb2 := Lib.hid hb2; have Hn2 := Lib.hid hn2
    clear hown2 hb2 hn2 h9
    go_wp2_with fail
    go_loopw [1, 8, 9] (fun g' o i wr => ∃ (a : Nat) (O : List (BitVec 8)) (g h : Int), i = .int .i64 (a : Int) ∧ g' = .int .i64 h ∧ (a < k → h = g) ∧ a ≤ k ∧ O.length ≤ n + 9 + 9 * a ∧ O ++ Vi.gapsL g (zs.drop a) = bs ++ (Vi.form zs.length ++ Vi.gapsL f zs) ∧ Vi.rise f zs = Vi.rise g (zs.drop a) ∧
      0 ≤ g ∧ wr.ownsRow w.heap.size 5 1 o O.length (O.map V8) ∧ Below w.heap.size w wr) (fun _ _ i _ => k - (intOf i).toNat)
    case atStart =>
      refine ⟨0, bs ++ Vi.form k, f, f, rfl, rfl, fun _ => rfl, by omega, by rw [← Hn2.out]; omega, ?_, rfl, hf0, by rw [← Hn2.out]; exact Hown2.out, Hb2.out⟩
      rw [Hk.out]; simp
    case round =>
      obtain ⟨a, O, g, h, rfl, rfl, hgh, ha, hOl, hO, hR, hg, hown, hbl⟩ := hrel
      obtain ⟨A3, cap3, rfl, hc3, hm3, _⟩ := own_form hown
      have HO := Lib.hid hO; have HR := Lib.hid hR; have Hown := Lib.hid hown; have Hbl := Lib.hid hbl
      have hsz := hbl.size
      clear hO hR hown hbl
      by_cases hlt : a < k
      · have q1 : (a : Int) < (k : Int) := by omega
        obtain rfl := hgh hlt
        obtain ⟨x, hx⟩ : ∃ x, zs[a]? = some x := ⟨zs[a]'(by rw [← Hk.out]; omega), List.getElem?_eq_getElem _⟩
        obtain ⟨b, off, rfl, hb, hc⟩ := rd_get (Hr'.out.below Hbl.out hB') hx
        obtain ⟨hx1, hx2⟩ := i64s_max Hz.out hx
        have hd : zs.drop a = x :: zs.drop (a + 1) := by
          rw [List.drop_eq_getElem_cons (List.getElem?_eq_some_iff.1 hx).1, (List.getElem?_eq_some_iff.1 hx).2]
        have Hd := Lib.hid hd; have Hx := Lib.hid hx
        clear hd hx hgh
        by_cases hle : h ≤ x
        · have hle2 : ¬ x < h := by omega
          go_wp2_with fail
          refine (rPut_calls A3 O.length cap3 wr.heap.size O (x - h) wr (by omega) rfl (by omega) (own_nil Hown.out) (Nat.le_refl _) (own_rd Hown.out)).mono ?_
          rintro e w4 ⟨A4, n4, cap4, rfl, hn4, hown4, hb4⟩
          have h9 := Vi.len_nine (x := (x - h).toNat) (by omega)
          have hl4 : (O ++ Vi.form (x - h).toNat).length ≤ n + 9 + 9 * (a + 1) := by rw [List.length_append, Vi.form_length]; omega
          have Hl4 := Lib.hid hl4
          have Hown4 := Lib.hid (own_base hown4 hsz); have Hb4 := Lib.hid (Hbl.out.trans (hb4.mono hsz)); have Hn4 := Lib.hid hn4
          have HO4 := Lib.hid (show (O ++ Vi.form (x - h).toNat) ++ Vi.gapsL (x + 1) (zs.drop (a + 1)) = bs ++ (Vi.form zs.length ++ Vi.gapsL f zs) by rw [← HO.out, Hd.out, Vi.gapsL, List.append_assoc])
          have HR4 := Lib.hid (show Vi.rise f zs = Vi.rise (x + 1) (zs.drop (a + 1)) by rw [HR.out, Hd.out, Vi.rise, decide_eq_true hle, Bool.true_and])
          obtain ⟨b2, off2, e2, _, hcx⟩ := rd_get (Hr'.out.below Hb4.out hB') Hx.out
          injection e2 with e2; injection e2 with e3 e4; subst e3; subst e4
          clear hown4 hb4 hn4 hl4 h9 Hown hc
          by_cases hlast : a + 1 < k
          · have q2 : (a : Int) + 1 < (k : Int) := by omega
            obtain ⟨y, hy⟩ : ∃ y, zs[a + 1]? = some y := ⟨zs[a + 1]'(by rw [← Hk.out]; omega), List.getElem?_eq_getElem _⟩
            obtain ⟨b3, off3, e5, _, hcy⟩ := rd_get (Hr'.out.below Hb4.out hB') hy
            injection e5 with e5; injection e5 with e6 e7; subst e6; subst e7
            obtain ⟨hy1, hy2⟩ := i64s_max Hz.out hy
            have Hd2 := Lib.hid (show zs.drop (a + 1) = y :: zs.drop (a + 1 + 1) by
              rw [List.drop_eq_getElem_cons (List.getElem?_eq_some_iff.1 hy).1, (List.getElem?_eq_some_iff.1 hy).2])
            clear hy
            go_wp2_with fail
            go_quiet (fail)
            have hb5 := below_drewN Hb4.out nq
            have hown5 : (w4.drewN nq).ownsRow w.heap.size 5 1 (.slice A4 n4 cap4) n4 ((O ++ Vi.form (x - h).toNat).map V8) := Hown4.out
            have hcx5 : (w4.drewN nq).cell? ⟨b, off + a, none⟩ = some (.int .i64 x) := hcx
            clear hcx hcy Hown4 Hb4
            generalize w4.drewN nq = w5 at *
            have Hown4 := Lib.hid hown5; have Hb4 := Lib.hid hb5
            clear hown5 hb5
            by_cases hyx : y ≤ x
            · have hE : Vi.putOk f zs = false := by rw [HOk.out, HR4.out, Hd2.out, Vi.rise, decide_eq_false (by omega)]; rfl
              have HE := Lib.hid hE; clear hE
              go_wp2_with fail
              go_ret2
              refine ⟨none, 0, 0, ?_, ?_, ?_, Hb4.out⟩
              · unfold Vi.putE; rw [if_neg (by rw [HE.out]; simp)]; rfl
              · unfold Vi.putB; rw [if_neg (by rw [HE.out]; simp)]; rfl
              · unfold Vi.putB; rw [if_neg (by rw [HE.out]; simp)]; exact ⟨rfl, Or.inl ⟨rfl, rfl⟩⟩
            · have hyx2 : x < y := by omega
              go_wp2_with fail
              exact ⟨⟨a + 1, O ++ Vi.form (x - h).toNat, x + 1, x + 1, by congr 1, rfl, fun _ => rfl, by omega, Hl4.out, HO4.out, HR4.out, by omega, by rw [← Hn4.out]; exact Hown4.out, Hb4.out⟩, by simp [intOf]; omega⟩
          · have q2 : ¬ (a : Int) + 1 < (k : Int) := by omega
            go_wp2_with fail
            exact ⟨⟨a + 1, O ++ Vi.form (x - h).toNat, x + 1, _, by congr 1, rfl, fun hh => absurd hh hlast, by omega, Hl4.out, HO4.out, HR4.out, by omega, by rw [← Hn4.out]; exact Hown4.out, Hb4.out⟩, by simp [intOf]; omega⟩
        · have hle2 : x < h := by omega
          have hE : Vi.putOk f zs = false := by rw [HOk.out, HR.out, Hd.out, Vi.rise, decide_eq_false hle]; rfl
          have HE := Lib.hid hE; clear hE
          go_wp2_with fail
          go_ret2
          refine ⟨none, 0, 0, ?_, ?_, ?_, Hbl.out⟩
          · unfold Vi.putE; rw [if_neg (by rw [HE.out]; simp)]; rfl
          · unfold Vi.putB; rw [if_neg (by rw [HE.out]; simp)]; rfl
          · unfold Vi.putB; rw [if_neg (by rw [HE.out]; simp)]; exact ⟨rfl, Or.inl ⟨rfl, rfl⟩⟩
      · obtain rfl : a = k := by omega
        have hd : zs.drop a = [] := List.drop_eq_nil_of_le (by rw [Hk.out]; exact Nat.le_refl _)
        have hO2 := HO.out; have hR2 := HR.out
        rw [hd, Vi.gapsL, List.append_nil] at hO2
        rw [hd, Vi.rise] at hR2
        have hE : Vi.putOk f zs = true := by rw [HOk.out, hR2]
        have HE := Lib.hid hE; have HO2 := Lib.hid hO2
        clear hE hO2 hR2 hd hgh
        go_wp2_with fail
        go_ret2
        have e : Vi.putB bs f zs = O := by unfold Vi.putB; rw [if_pos HE.out]; exact HO2.out.symm
        refine ⟨A3, O.length, cap3, ?_, ?_, ?_, Hbl.out⟩
        · unfold Vi.putE; rw [if_pos HE.out]; rfl
        · rw [e]
        · rw [e]; exact Hown.out
end Go.Proofs.Ytkohakogknodeaa
