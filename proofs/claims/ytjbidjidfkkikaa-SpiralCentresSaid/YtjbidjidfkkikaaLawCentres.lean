/- SpiralCentres: the walk -/
import Derived.Test.YtjbidjidfkkikaaSpU
import Derived.Test.YtjbidjidfkkikaaLift
import Derived.Deep.Grids
import Derived.SizedLaws
namespace Go.Proofs.Ytjbidjidfkkikaa
open Go.ChangeShapes Go.WideShapes Go.ChangeAt Go.RowKit
set_option linter.unusedSimpArgs false
set_option linter.unusedVariables false
theorem Sp.cs_same (f : Nat → Int) (K K' : Nat → Bool) : ∀ n, (∀ i, i < n → K i = K' i) → Sp.cs f K n = Sp.cs f K' n
  | 0, _ => rfl
  | n + 1, h => by
    show (if K n then _ else _) = (if K' n then _ else _)
    rw [h n (by omega), Sp.cs_same f K K' n fun i hi => h i (by omega)]
theorem Sp.cs_two (f : Nat → Int) (ks : List Bool) (m : Nat) : Sp.cs f (fun i => ks.getD i false && decide (i < m)) ks.length = Sp.cs f (fun i => ks.getD i false) m := by
  rw [← Sp.cs_same f (fun i => ks.getD i false && decide (i < m)) (fun i => ks.getD i false) m (fun i hi => by simp [hi])]
  rcases Nat.le_total ks.length m with h | h
  · obtain ⟨d, rfl⟩ : ∃ d, m = ks.length + d := ⟨m - ks.length, by omega⟩
    refine (Sp.cs_up f _ ks.length ?_ d).symm
    intro i hi
    simp [List.getD, List.getElem?_eq_none hi]
  · obtain ⟨d, hd⟩ : ∃ d, ks.length = m + d := ⟨ks.length - m, by omega⟩
    rw [hd]
    refine Sp.cs_up f _ m ?_ d
    intro i hi
    simp; omega
theorem tmod_big (s : Int) : ∃ S, Int.tmod s 4294967296 = S ∧ -4294967296 ≤ S ∧ S ≤ 4294967296 := by
  refine ⟨_, rfl, ?_, ?_⟩
  · have := Int.tmod_lt_of_pos (-s) (show (0 : Int) < 4294967296 by decide)
    rw [Int.neg_tmod] at this; omega
  · have := Int.tmod_lt_of_pos s (show (0 : Int) < 4294967296 by decide); omega
/-- A slice of bools that came in. -/
def InB (W : World) (A : Option Addr) (n cap : Nat) (zs : List Bool) : Prop :=
  n = zs.length ∧ n ≤ cap ∧ cap ≤ maxLen ∧ (A = none → n = 0 ∧ cap = 0) ∧ Rd W W.heap.size A (zs.map VB)
theorem open_bs {H : Type} {enc : TypeId × Value → H} {W : World} {A : Option Addr} {n cap : Nat} {d : DataW H} {p : List MemPlace} {base : Nat} {held : Bool}
    (h0 : DataW.Trod enc Try.prog W base (fun _ => true) held 51 (.slice A n cap) d p) : ∃ zs, InB W A n cap zs := by
  obtain ⟨fuel, hf⟩ := h0
  rcases Go.Deep.open_bools descBools descBool (by kernel_rfl) hf with ⟨hcs, _⟩ | ⟨x, l, c, Z, hcs, _, hl, hm, _, hcell⟩
  · simp [Value.cells] at hcs
    obtain ⟨rfl, rfl, rfl⟩ := hcs
    exact ⟨[], rfl, Nat.le_refl _, by unfold maxLen; omega, fun _ => ⟨rfl, rfl⟩, Rd.nil _ _ _⟩
  · simp [Value.cells] at hcs
    obtain ⟨rfl, rfl, rfl⟩ := hcs
    refine ⟨(List.range n).map Z, by simp, hl, hm, (by intro h; cases h), ?_⟩
    intro k v hv
    have hk : k < n := by
      have := (List.getElem?_eq_some_iff.1 hv).1
      simpa using this
    have hc := hcell k (by omega)
    obtain ⟨b, off, spot⟩ := x
    have hspot : spot = none := by
      have h1 := hcell 0 (by omega)
      simpa [Addr.add] using World.cell?_spot h1
    subst hspot
    rw [Addr.add_lit] at hc
    refine ⟨b, off, rfl, block_lt_of_cell hc, ?_⟩
    rw [hc, ← hv]
    simp [List.getElem?_map, List.getElem?_range hk]
/-- What a slice takes at most. -/
theorem slice_reach {H : Type} {enc : TypeId × Value → H} {P : Program} {ts : List TypeId} {ds : List (DataW H)} (hsz : (DataW.weightsEach P ts ds).all (· ≤ reachBytes) = true) {j : Nat} {t e : TypeId} {d : DataW H} (ht : ts[j]? = some t) (hd : ds[j]? = some d) (hu : P.underlying t = some (.slice e))
    {W : World} {base : Nat} {sp : Nat → Bool} {held : Bool} {A : Option Addr} {n cap : Nat} {p : List MemPlace} (h0 : DataW.Trod enc P W base sp held t (.slice A n cap) d p) : n * P.bytesOf e ≤ reachBytes := by
  obtain ⟨fuel, hf⟩ := h0
  rcases DataW.trod_slice hu hf with ⟨hcs, hx⟩ | ⟨a, len, c, elems, rest, k, _, hcs, hx, _, _, _, hlen, _⟩
  · simp [Value.cells] at hcs
    obtain ⟨rfl, rfl, rfl⟩ := hcs
    simp
  · simp [Value.cells] at hcs
    obtain ⟨rfl, rfl, rfl⟩ := hcs
    have hd2 : d = .slice (elems.map (·.1)) (rest.map (·.1)) := by injection hx
    have := sized_slice hsz ht (by rw [hd, hd2]) hu
    simp only [List.length_map] at this
    rw [hlen] at this
    exact Nat.le_trans (Nat.mul_le_mul_right _ (by omega)) this
set_option maxHeartbeats 8000000 in
set_option maxRecDepth 20000 in
theorem law_centres (A1 : Option Addr) (k1 cap1 : Nat) (xs : List Int) (A2 : Option Addr) (k2 cap2 : Nat) (ys : List Int) (A3 : Option Addr) (k3 cap3 : Nat) (ks : List Bool) (n : Int) (w : World) (ha1 : InI w A1 k1 cap1 xs) (ha2 : InI w A2 k2 cap2 ys) (ha3 : InB w A3 k3 cap3 ks) (hz3 : k3 * 1 ≤ reachBytes) (hw : (Lit.int .i64 n).wf = true) :
    Calls Try.prog 12 #[.slice A1 k1 cap1, .slice A2 k2 cap2, .slice A3 k3 cap3, .int .i64 n] w fun e w' => e = .returned (.bool true) ∧ Below w.heap.size w w' := by
  obtain ⟨hn1, hc1, hm1, -, hr1, -⟩ := ha1
  obtain ⟨hn2, hc2, hm2, -, hr2, -⟩ := ha2
  obtain ⟨hn3, hc3, hm3, -, hr3⟩ := ha3
  have hnb := bounds_i64 hw
  have hk3 : k3 ≤ 140737488351232 := by unfold reachBytes at hz3; omega
  unfold maxLen at hm1 hm2 hm3
  obtain ⟨i0, hi, hz0, hz1, hz2⟩ := info_parts infoC
  have Hi := Lib.hid hi
  have Hn1 := Lib.hid hn1; have Hr1 := Lib.hid hr1; have Hn2 := Lib.hid hn2; have Hr2 := Lib.hid hr2; have Hn3 := Lib.hid hn3; have Hr3 := Lib.hid hr3
  clear hw hz3 hn1 hr1 hn2 hr2 hn3 hr3 hi
  go_enter Try.func12, Try.ntmps12
  go_wp2_with fail
  refine (first_calls w).mono ?_
  rintro e w1 ⟨rfl, hb1⟩
  have hs1 := hb1.size
  have Hb1 := Lib.hid hb1
  clear hb1
  by_cases hbig : 3000 < k1
  · have hbig2 : (3000 : Int) < (k1 : Int) := by omega
    go_wp2_with fail
    go_ret
    exact ⟨rfl, Hb1.out⟩
  have hbig2 : ¬ (3000 : Int) < (k1 : Int) := by omega
  obtain ⟨f, hf⟩ : ∃ f : Nat → Int, f = fun i => Int.tmod (xs.getD i 0) 4294967296 := ⟨_, rfl⟩
  obtain ⟨g, hg⟩ : ∃ g : Nat → Int, g = fun i => Int.tmod (ys.getD i 0) 4294967296 := ⟨_, rfl⟩
  have Hf := Lib.hid hf; have Hg := Lib.hid hg
  have Hfb := Lib.hid (show ∀ i, -4294967296 ≤ f i ∧ f i ≤ 4294967296 by intro i; rw [hf]; obtain ⟨S, h1, h2, h3⟩ := tmod_big (xs.getD i 0); simp only [h1]; exact ⟨h2, h3⟩)
  have Hgb := Lib.hid (show ∀ i, -4294967296 ≤ g i ∧ g i ≤ 4294967296 by intro i; rw [hg]; obtain ⟨S, h1, h2, h3⟩ := tmod_big (ys.getD i 0); simp only [h1]; exact ⟨h2, h3⟩)
  obtain ⟨m, hm⟩ : ∃ m, m = min k1 k2 := ⟨_, rfl⟩
  have hm3000 : m ≤ 3000 := by omega
  have Hm := Lib.hid hm
  obtain ⟨K, hK⟩ : ∃ K : Nat → Bool, K = fun i => ks.getD i false := ⟨_, rfl⟩
  have HK := Lib.hid hK
  have HBf := Lib.hid (Sp.cs_le f (fun i => K i && decide (i < m)) m 4294967296 (by decide) (fun i h => by simp at h; exact h.2) Hfb.out)
  have HBg := Lib.hid (Sp.cs_le g (fun i => K i && decide (i < m)) m 4294967296 (by decide) (fun i h => by simp at h; exact h.2) Hgb.out)
  have HBc := Lib.hid (Sp.cs_le (fun _ => 1) (fun i => K i && decide (i < m)) m 1 (by decide) (fun i h => by simp at h; exact h.2) (fun _ => by decide))
  have Hsame := Lib.hid (fun (F : Nat → Int) (a : Nat) (ha : a ≤ m) => Sp.cs_same F (fun i => K i && decide (i < m)) K a (fun i hi => by simp; omega))
  clear hf hg hm hK hbig
  go_wp2_with fail
  go_loopw [10, 11, 12, 13, 14] (fun l x y c i wr => ∃ (a : Nat) (X Y C : Int), i = .int .i64 (a : Int) ∧ a ≤ m ∧ wr.ownsRow w1.heap.size 23 1 l a ((Sp.cl f g a).map VC) ∧ x = .int .i64 X ∧ y = .int .i64 Y ∧ c = .int .i64 C ∧ X = Sp.cs f K a ∧ Y = Sp.cs g K a ∧ C = Sp.cs (fun _ => 1) K a ∧ Below w.heap.size w wr ∧ w1.heap.size ≤ wr.heap.size) (fun _ _ _ _ i _ => m - (intOf i).toNat)
  case atStart => exact ⟨0, 0, 0, 0, rfl, by omega, World.ownsRow_nil w1 _ _ _, rfl, rfl, rfl, rfl, rfl, rfl, Hb1.out, Nat.le_refl _⟩
  case round =>
    obtain ⟨a, X, Y, C, rfl, ha, hown, rfl, rfl, rfl, hX, hY, hC, hbl, hsz⟩ := hrel
    obtain ⟨Al, capl, rfl, hcl1, hcl2, _⟩ := own_form hown
    have bX := HBf.out a; have bY := HBg.out a; have bC := HBc.out a
    rw [Hsame.out f a ha, ← hX] at bX
    rw [Hsame.out g a ha, ← hY] at bY
    rw [Hsame.out _ a ha, ← hC] at bC
    have bX' : -12884901888000 ≤ X ∧ X ≤ 12884901888000 := by omega
    have bY' : -12884901888000 ≤ Y ∧ Y ≤ 12884901888000 := by omega
    have bC' : -3000 ≤ C ∧ C ≤ 3000 := by omega
    obtain ⟨bX1, bX2⟩ := bX'
    obtain ⟨bY1, bY2⟩ := bY'
    obtain ⟨bC1, bC2⟩ := bC'
    have HX := Lib.hid hX; have HY := Lib.hid hY; have HC := Lib.hid hC; have Hown := Lib.hid hown; have Hbl := Lib.hid hbl
    clear hX hY hC hown hbl bX bY bC
    by_cases hlt : a < m
    · have q1 : (a : Int) < (k1 : Int) := by have := Hm.out; omega
      have q2 : (a : Int) < (k2 : Int) := by have := Hm.out; omega
      obtain ⟨z1, hz1'⟩ : ∃ z, xs[a]? = some z := ⟨xs[a]'(by rw [← Hn1.out]; omega), List.getElem?_eq_getElem _⟩
      obtain ⟨z2, hz2'⟩ : ∃ z, ys[a]? = some z := ⟨ys[a]'(by rw [← Hn2.out]; omega), List.getElem?_eq_getElem _⟩
      obtain ⟨b1, off1, rfl, hb1, hcell1⟩ := rd_get (Hr1.out.below Hbl.out (Nat.le_refl _)) hz1'
      obtain ⟨b2, off2, rfl, hb2, hcell2⟩ := rd_get (Hr2.out.below Hbl.out (Nat.le_refl _)) hz2'
      obtain ⟨u, hu, hu1, hu2⟩ := tmod_big z1
      obtain ⟨v, hv, hv1, hv2⟩ := tmod_big z2
      have Hfu := Lib.hid (show f a = u by rw [Hf.out]; simp [List.getD, hz1', hu])
      have Hgv := Lib.hid (show g a = v by rw [Hg.out]; simp [List.getD, hz2', hv])
      clear hz1' hz2'
      have st : ∀ F : Nat → Int, Sp.cs F K (a + 1) = if K a then Sp.cs F K a + F a else Sp.cs F K a := fun F => rfl
      have St := Lib.hid st
      clear st
      have hext : Sp.cl f g (a + 1) = Sp.cl f g a ++ [(fv u, fv v)] := by
        unfold Sp.cl; rw [List.range_succ, List.map_append]; simp [Hfu.out, Hgv.out]
      have Hext := Lib.hid hext
      clear hext
      have Hown2 := Lib.hid (own_below Hown.out ((Below.refl wr.heap.size wr).alloc (Nat.le_refl _) (.cells #[.complex .f64 (floatOfInt .f64 u) (floatOfInt .f64 v)] 23)) (Nat.le_refl _))
      have Hrd := Lib.hid (rd_fresh wr _ #[.complex .f64 (floatOfInt .f64 u) (floatOfInt .f64 v)] 23 (0, 0) [.complex .f64 (floatOfInt .f64 u) (floatOfInt .f64 v)] rfl rfl)
      have Hbl2 := Lib.hid (Hbl.out.alloc (Hbl.out.size) (.cells #[.complex .f64 (floatOfInt .f64 u) (floatOfInt .f64 v)] 23))
      generalize hbu : floatOfInt .f64 u = bu at *
      generalize hbv : floatOfInt .f64 v = bv at *
      go_wp2_with (at_builtin; refine wpList_append_rd rfl _ _ 40 rfl w1.heap.size 23 i0 _ 16 descCs Hi.out hz0 hz1 hz2 rfl _ a ((Sp.cl f g a).map VC) rfl Hown2.out _ (some ⟨wr.heap.size, 0, none⟩) 1 1 [.complex .f64 bu bv] rfl rfl (by intro h; cases h) Hrd.out (by intro u hu; simp at hu; subst hu; rfl) (by unfold maxLen; omega) (by omega) (by simp; omega) ?_)
      intro v4 w4 hown4 hg4
      rw [show (Sp.cl f g a).map VC ++ [.complex .f64 bu bv] = (Sp.cl f g (a + 1)).map VC by rw [Hext.out, List.map_append, show fv u = bu from hbu, show fv v = bv from hbv]; rfl] at hown4
      obtain ⟨A4, cap4, rfl, _, _, _⟩ := own_form hown4
      have hb4 : Below w.heap.size w w4 := Hbl2.out.grown hg4 (by have := Hbl.out.size; simp; omega) fun k hk => by have := (Hown2.out.lt k hk).1; omega
      have hs4 : w1.heap.size ≤ w4.heap.size := by have := hg4.size; simp at this; omega
      have Hown4 := Lib.hid hown4; have Hb4 := Lib.hid hb4
      clear hown4 hg4 hb4 Hown2 Hrd Hbl2 hbu hbv Hown Hext hcell1 hcell2
      have HKa := Lib.hid (show K a = ks.getD a false by rw [HK.out])
      by_cases hk : a < k3
      · have q3 : (a : Int) < (k3 : Int) := by omega
        obtain ⟨z, hz⟩ : ∃ z, ks[a]? = some z := ⟨ks[a]'(by rw [← Hn3.out]; omega), List.getElem?_eq_getElem _⟩
        obtain ⟨b3, off3, rfl, hb3, hcell3⟩ := rd_getb (Hr3.out.below Hb4.out (Nat.le_refl _)) hz
        have Hz := Lib.hid (show K a = z by rw [HKa.out]; simp [List.getD, hz])
        clear hz
        cases z with
        | false =>
          go_wp2_with fail
          exact ⟨⟨a + 1, X, Y, C, by congr 1, by omega, Hown4.out, rfl, rfl, rfl, by rw [St.out, Hz.out]; exact HX.out, by rw [St.out, Hz.out]; exact HY.out, by rw [St.out, Hz.out]; exact HC.out, Hb4.out, hs4⟩, by simp [intOf]; omega⟩
        | true =>
          go_wp2_with fail
          exact ⟨⟨a + 1, X + u, Y + v, C + 1, by congr 1, by omega, Hown4.out, rfl, rfl, rfl, by rw [St.out, Hz.out, if_pos rfl, ← HX.out, Hfu.out], by rw [St.out, Hz.out, if_pos rfl, ← HY.out, Hgv.out], by rw [St.out, Hz.out, if_pos rfl, ← HC.out], Hb4.out, hs4⟩, by simp [intOf]; omega⟩
      · have q3 : ¬ (a : Int) < (k3 : Int) := by omega
        have Hz := Lib.hid (show K a = false by rw [HKa.out]; simp [List.getD, List.getElem?_eq_none (show ks.length ≤ a by rw [← Hn3.out]; omega)])
        go_wp2_with fail
        exact ⟨⟨a + 1, X, Y, C, by congr 1, by omega, Hown4.out, rfl, rfl, rfl, by rw [St.out, Hz.out]; exact HX.out, by rw [St.out, Hz.out]; exact HY.out, by rw [St.out, Hz.out]; exact HC.out, Hb4.out, hs4⟩, by simp [intOf]; omega⟩
    · obtain rfl : a = m := by omega
      have Hm2 := Hm.out
      have HSide : ∃ R : Int, (∀ w, Calls Try.prog 31 #[.int .i64 n] w fun e w' => e = .returned (.int .i64 R) ∧ w = w') ∧ ∀ w, Calls Try.prog 32 #[.int .i64 n] w fun e w' => e = .returned (.int .i64 R) ∧ w = w' := by
        by_cases h : n ≤ 0
        · exact ⟨0, Side_zero n h, rSide_zero n h⟩
        · obtain ⟨N, rfl⟩ : ∃ N : Nat, n = (N : Int) := ⟨n.toNat, by omega⟩
          exact ⟨_, Side_calls N (by omega) (by omega), rSide_calls N (by omega) (by omega)⟩
      obtain ⟨R, hS1, hS2⟩ := HSide
      have HS1 := Lib.hid hS1; have HS2 := Lib.hid hS2
      clear hS1 hS2
      have hend : ¬ (a : Int) < (k1 : Int) ∨ ((a : Int) < (k1 : Int) ∧ ¬ (a : Int) < (k2 : Int)) := by omega
      clear Hm2
      have tail : True := trivial
      rcases hend with q1 | ⟨q1, q2⟩
      all_goals
        go_wp2_with fail
        refine (bools_calls A3 k3 cap3 w.heap.size ks wr Hn3.out hk3 Hbl.out.size (Hr3.out.below Hbl.out (Nat.le_refl _))).mono ?_
        rintro e w5 ⟨A5, cap5, rfl, hown5, hb5⟩
        have Hb5 := Lib.hid (Hbl.out.trans (hb5.mono Hbl.out.size)); have Hown5 := Lib.hid hown5
        have HownL := Lib.hid (own_below Hown.out hb5 (Nat.le_refl _))
        have hs5 := hb5.size
        clear hown5 hb5
        go_wp2_with fail
        refine (Centre_calls f g Al A5 a capl k3 cap5 _ _ ks w5 hm3000 Hn3.out hk3 Hfb.out Hgb.out (own_rd HownL.out) (own_rd Hown5.out)).mono ?_
        rintro e w6 ⟨⟨P, Q, rfl, hP, hQ⟩, k6, rfl⟩
        rw [Hn3.out, Sp.cs_two] at hP hQ
        have hCC : Sp.cs (fun _ => 1) (fun i => ks.getD i false && decide (i < a)) k3 = C := by rw [HC.out, HK.out, Hn3.out, Sp.cs_two]
        rw [hCC]
        rw [← HK.out, ← HX.out] at hP
        rw [← HK.out, ← HY.out] at hQ
        have o1 := ordN hP (fv_n X (by omega)); have o2 := ordN hQ (fv_n Y (by omega))
        rw [cmp_eq] at o1 o2
        have Hb6 := Lib.hid (below_drewN Hb5.out k6)
        generalize w5.drewN k6 = w6 at *
        clear hP hQ hCC HownL Hown5 Hb5
        go_wp2_with (first
          | (go_at_call 31; refine (HS1.out _).mono ?_; rintro e w' ⟨rfl, rfl⟩)
          | (go_at_call 32; refine (HS2.out _).mono ?_; rintro e w' ⟨rfl, rfl⟩))
        go_ret
        exact ⟨rfl, Hb6.out⟩
end Go.Proofs.Ytjbidjidfkkikaa
