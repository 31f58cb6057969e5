/- pithref1's list, List, Left -/
import Derived.Test.YtkohakogknodeaaVRead2
namespace Go.Proofs.Ytkohakogknodeaa
open Go.RowKit
set_option linter.unusedSimpArgs false
set_option linter.unusedVariables false
/-- What the reference's list answers. -/
def RListAns (at' : Nat) (bs : List (BitVec 8)) (f bel : Int) (w : World) (e : Ending) (w' : World) : Prop :=
  Below w.heap.size w w' ∧ ∃ A2 k cap2 M, e = .returned (.tuple #[.slice A2 k cap2, .int .i64 M, .int .i64 (Vi.rdL f bel (bs.drop at')).2.2]) ∧ k = (Vi.rdL f bel (bs.drop at')).1.length ∧ w'.ownsRow w.heap.size 3 1 (.slice A2 k cap2) k ((Vi.rdL f bel (bs.drop at')).1.map VI) ∧
    ((Vi.rdL f bel (bs.drop at')).2.2 = 0 → M = ((at' + (Vi.rdL f bel (bs.drop at')).2.1 : Nat) : Int))
theorem rlistAns_err {at' : Nat} {bs : List (BitVec 8)} {f bel er : Int} {w w' : World} {e : Ending} (hb : Below w.heap.size w w') (h : Vi.rdL f bel (bs.drop at') = ([], 0, er)) (hne : er ≠ 0)
    (he : e = .returned (.tuple #[.slice none 0 0, .int .i64 0, .int .i64 er])) : RListAns at' bs f bel w e w' := by
  refine ⟨hb, none, 0, 0, 0, by rw [h]; exact he, by rw [h]; rfl, by rw [h]; exact ⟨rfl, Or.inl ⟨rfl, rfl⟩⟩, fun h0 => ?_⟩
  rw [h] at h0; exact absurd h0 hne
set_option maxHeartbeats 4000000 in
set_option maxRecDepth 20000 in
theorem rlist_calls (g : Nat) (A : Option Addr) (n cap at' base : Nat) (bs : List (BitVec 8)) (f bel : Int) (w : World) (hr : RdrIs 70 w base g A n cap bs at' 0) (hm : n ≤ 1099511627776) (hf : f ≤ 9223372036854775807) (hbl : bel ≤ 9223372036854775807) (hbm : -9223372036854775808 ≤ bel) :
    Calls Try.prog 45 #[.pointer (some ⟨g, 0, none⟩), .int .i64 f, .int .i64 bel] w (RListAns at' bs f bel w) := by
  obtain ⟨i0, hi, hz0, hz1, hz2⟩ := info_parts infoInt
  have Hi := Lib.hid hi; clear hi
  have Hr := Lib.hid hr
  have hgl := lt_heap hr.1
  have hat := hr.2.2.2.1
  have c1 : w.cell? ⟨g, 1, none⟩ = some (.int .i64 (at' : Int)) := by rw [cell_heap hr.1]; rfl
  clear hr
  go_enter Try.func45, Try.ntmps45
  rcases (by omega : f < 0 ∨ 0 ≤ f) with hf0 | hf0
  · have hE : Vi.rdL f bel (bs.drop at') = ([], 0, 13) := by unfold Vi.rdL; rw [if_pos hf0]
    have HE := Lib.hid hE; clear hE
    go_wp2_with fail
    go_ret3
    exact rlistAns_err (Below.refl _ _) HE.out (by decide) rfl
  · have hf1 : ¬ f < 0 := by omega
    go_wp2_with fail
    refine (number_calls g A n cap at' at' base bs 0 w Hr.out hat hm).mono ?_
    rintro e w1 ⟨rfl, rfl⟩
    obtain ⟨D, hD⟩ : ∃ D, D = bs.drop at' := ⟨_, rfl⟩
    rw [← hD]
    have HD := Lib.hid hD; clear hD
    have hx := Vi.numX_lt D
    have HDl := Lib.hid (show D.length = n - at' by rw [HD.out, List.length_drop, ← Hr.out.2.2.1])
    by_cases he : Vi.numE D = 0
    · have HX0 := Lib.hid (show Vi.rdL f bel D = if 0 < Vi.numX D ∧ bel - f < (Vi.numX D : Int) then ([], 0, 13) else
          if (Vi.rdG (Vi.numX D) f bel (D.drop (Vi.numN D))).2.2 = 0 then ((Vi.rdG (Vi.numX D) f bel (D.drop (Vi.numN D))).1, Vi.numN D + (Vi.rdG (Vi.numX D) f bel (D.drop (Vi.numN D))).2.1, 0) else ([], 0, (Vi.rdG (Vi.numX D) f bel (D.drop (Vi.numN D))).2.2) by
        rw [Vi.rdL, if_neg (by omega), if_neg (by rw [he]; simp)])
      rw [he]
      have hN := (Vi.numN_le D).1
      obtain ⟨X, hX⟩ : ∃ X, X = Vi.numX D := ⟨_, rfl⟩
      obtain ⟨M, hM⟩ : ∃ M, M = Vi.numN D := ⟨_, rfl⟩
      rw [← hX, ← hM] at HX0
      rw [← hX] at hx
      rw [← hX, ← hM]
      rw [← hM] at hN
      clear hX hM he
      obtain ⟨R, hR⟩ : ∃ R, R = if f < bel then bel - f else 0 := ⟨_, rfl⟩
      have HR := Lib.hid hR
      have hRc : (f < bel ∧ R = bel - f) ∨ (bel ≤ f ∧ R = 0) := by
        rw [hR]; split <;> omega
      clear hR
      have hRb : R ≤ 9223372036854775807 := by omega
      go_upto_if 35 with fail
      go_cut [12] (fun s w' => s = .int .i64 R ∧ w = w')
      case first =>
        by_cases hfb : f < bel
        · go_wp2_with fail
          go_meet
          refine ⟨?_, rfl⟩
          rw [HR.out, if_pos hfb]
        · go_wp2_with fail
          go_meet
          refine ⟨?_, rfl⟩
          rw [HR.out, if_neg (by omega)]
      case rest =>
        obtain ⟨rfl, rfl⟩ := hcut
        clear HR
        by_cases hc : 0 < X ∧ bel - f < (X : Int)
        · rw [if_pos hc] at HX0
          have q1 : R < (X : Int) := by omega
          go_wp2_with fail
          go_ret3
          exact rlistAns_err (Below.refl _ _) (by rw [← HD.out]; exact HX0.out) (by decide) rfl
        · rw [if_neg hc] at HX0
          obtain ⟨E2, hE2⟩ : ∃ E2, E2 = D.drop M := ⟨_, rfl⟩
          rw [← hE2] at HX0
          have HE2 := Lib.hid hE2; clear hE2
          have hfb : X = 0 ∨ (f < bel ∧ (X : Int) ≤ bel - f) := by omega
          have q1 : ¬ R < (X : Int) := by omega
          clear c1
          go_wp2_with fail
          go_loopw [1, 10, 13, 14] (fun F' at2 l i wr => ∃ (a r c : Nat) (L : List Int) (F : Int), i = .int .i64 (a : Int) ∧ F' = .int .i64 F ∧ at2 = .int .i64 ((at' + (M + c) : Nat) : Int) ∧ a + r = X ∧ Vi.Goes X f bel E2 L c r F ∧ 0 ≤ F ∧ (r = 0 ∨ F ≤ bel) ∧ L.length ≤ c ∧ M + c ≤ D.length ∧
            wr.ownsRow w.heap.size 3 1 l L.length (L.map VI) ∧ Below w.heap.size w wr) (fun _ _ _ i _ => X - (intOf i).toNat)
          case atStart =>
            exact ⟨0, X, 0, [], f, rfl, rfl, rfl, by omega, Vi.Goes.start _ _ _ _, hf0, by omega, by simp, by omega, ⟨rfl, Or.inl ⟨rfl, rfl⟩⟩, Below.refl _ _⟩
          case round =>
            obtain ⟨a, r, c, L, F, rfl, rfl, rfl, har, hG, hF0, hFb, hLc, hMc, hown, hbl⟩ := hrel
            obtain ⟨A3, cap3, rfl, hc3, hm3, _⟩ := own_form hown
            have HG := Lib.hid hG; have Hown := Lib.hid hown; have Hbl := Lib.hid hbl
            have Hrd := Lib.hid (RdrIs.below Hr.out hbl)
            have hsz := hbl.size
            have hDn : D.length ≤ n - at' := Nat.le_of_eq HDl.out
            clear hG hown hbl
            cases r with
            | zero =>
              have hdone := HG.out.done
              have Hdone := Lib.hid hdone
              have haX : ¬ (a : Int) < (X : Int) := by omega
              clear hdone har
              have hrdL := HX0.out
              rw [Hdone.out] at hrdL
              have HrdL := Lib.hid (show Vi.rdL f bel D = (L, M + c, 0) from hrdL)
              clear hrdL
              go_wp2_with fail
              go_ret3
              exact ⟨Hbl.out, A3, L.length, cap3, ((at' + (M + c) : Nat) : Int), by rw [← HD.out, HrdL.out]; rfl, by rw [← HD.out, HrdL.out], by rw [← HD.out, HrdL.out]; exact Hown.out, fun _ => by rw [← HD.out, HrdL.out]⟩
            | succ r =>
              have haX : (a : Int) < (X : Int) := by omega
              go_wp2_with fail
              refine (number_calls g A n cap at' (at' + (M + c)) base bs 0 wr Hrd.out (by omega) hm).mono ?_
              rintro e w3 ⟨rfl, rfl⟩
              have hdd : bs.drop (at' + (M + c)) = E2.drop c := by rw [HE2.out, HD.out, List.drop_drop, List.drop_drop]
              rw [hdd]
              clear hdd
              obtain ⟨G, hG⟩ : ∃ G, G = E2.drop c := ⟨_, rfl⟩
              rw [← hG]
              have HGd := Lib.hid hG; clear hG
              have hx3 := Vi.numX_lt G
              have hN3 := Vi.numN_le G
              have hFb2 : F ≤ bel := by omega
              clear hFb
              by_cases he3 : Vi.numE G = 0
              · rw [he3]
                obtain ⟨x, hxx⟩ : ∃ x, x = Vi.numX G := ⟨_, rfl⟩
                by_cases hge : bel - F ≤ (Vi.numX G : Int)
                · have hfl := HG.out.fail2 (by rw [← HGd.out]; exact he3) (by rw [← HGd.out]; exact hge)
                  have hrdL := HX0.out
                  rw [hfl] at hrdL
                  have HrdL := Lib.hid (show Vi.rdL f bel D = ([], 0, 13) from hrdL)
                  clear hrdL hfl
                  rw [← hxx] at hge hx3
                  rw [← hxx]
                  have Hk := Lib.hid he3; have Hxx := Lib.hid hxx
                  clear he3 hxx
                  by_cases hFe : bel ≤ F
                  · go_wp2_with fail
                    go_ret3
                    exact rlistAns_err Hbl.out (by rw [← HD.out]; exact HrdL.out) (by decide) rfl
                  · go_wp2_with fail
                    go_ret3
                    exact rlistAns_err Hbl.out (by rw [← HD.out]; exact HrdL.out) (by decide) rfl
                · have hst := HG.out.step (by rw [← HGd.out]; exact he3) (by rw [← HGd.out]; exact hge)
                  have hpos := Vi.numN_pos he3
                  rw [← HGd.out, ← hxx] at hst
                  rw [← hxx] at hge hx3
                  rw [← hxx]
                  have hGl : G.length = D.length - (M + c) := by rw [HGd.out, HE2.out, List.drop_drop, List.length_drop]
                  obtain ⟨M3, hM3⟩ : ∃ M3, M3 = Vi.numN G := ⟨_, rfl⟩
                  rw [← hM3] at hst hN3 hpos
                  rw [← hM3]
                  obtain ⟨hN3a, hN3b⟩ := hN3
                  have hfit : c + M3 + M ≤ D.length := by omega
                  have Hst := Lib.hid hst
                  have hlt : ¬ bel - F ≤ (x : Int) := hge
                  have hFe : ¬ bel ≤ F := by omega
                  have hat4 : at' + (M + c) + M3 = at' + (M + (c + M3)) := by omega
                  rw [hat4]
                  clear hst he3 hxx hM3 hGl hN3a hge hat4
                  have Hown4 := Lib.hid (own_below Hown.out ((Below.refl wr.heap.size wr).alloc (Nat.le_refl _) (.cells #[.int .i64 (F + (x : Int))] 3)) (Nat.le_refl _))
                  go_wp2_with (at_builtin; refine wpList_append_rd rfl _ _ 29 rfl w.heap.size 3 i0 _ 8 descInts Hi.out hz0 hz1 hz2 rfl _ L.length (L.map VI) rfl Hown4.out _ (some ⟨wr.heap.size, 0, none⟩) 1 1 [.int .i64 (F + (x : Int))] rfl rfl (by intro h; cases h) (rd_fresh _ _ _ _ _ _ rfl rfl) (by intro u hu; simp at hu; subst hu; rfl) (by unfold maxLen; omega) (by omega) (by simp; omega) ?_)
                  intro v4 w4 hown4 hg4
                  have e4 : L.map VI ++ [.int .i64 (F + (x : Int))] = (L ++ [F + (x : Int)]).map VI := by simp
                  rw [e4, show L.length + 1 = (L ++ [F + (x : Int)]).length by simp] at hown4
                  obtain ⟨A5, cap5, rfl, hc5, hm5, _⟩ := own_form hown4
                  have hb4 : Below w.heap.size w w4 := (Hbl.out.alloc (by omega) _).grown hg4 (by simp; omega) fun k hk => (Hown4.out.lt k hk).1
                  have Hb4 := Lib.hid hb4
                  have Hown5 := Lib.hid hown4
                  have hll : (L ++ [F + (x : Int)]).length ≤ c + M3 := by simp; omega
                  have Hll := Lib.hid hll
                  have hF2 : F + ((x : Int) + 1) = F + (x : Int) + 1 := by omega
                  clear hown4 hg4 hb4 e4 Hown4 Hown hll
                  go_wp2_with fail
                  refine ⟨⟨a + 1, r, c + M3, _, F + (x : Int) + 1, by congr 1, by congr 1, by congr 1, by omega, Hst.out, by omega, by omega, Hll.out, by omega, Hown5.out, Hb4.out⟩, by simp [intOf]; omega⟩
              · have hfl := HG.out.fail1 (by rw [← HGd.out]; exact he3)
                rw [← HGd.out] at hfl
                have hrdL := HX0.out
                rw [hfl, if_neg he3] at hrdL
                have HrdL := Lib.hid (show Vi.rdL f bel D = ([], 0, Vi.numE G) from hrdL)
                have hb : (Vi.numE G != 0) = true := by rw [bne_iff_ne]; exact he3
                have Hne := Lib.hid he3
                clear hrdL hfl he3
                go_wp2_with fail
                go_ret3
                exact rlistAns_err Hbl.out (by rw [← HD.out]; exact HrdL.out) Hne.out rfl
    · have HX0 := Lib.hid (show Vi.rdL f bel D = ([], 0, Vi.numE D) by rw [Vi.rdL, if_neg (by omega), if_pos he])
      have hb : (Vi.numE D != 0) = true := by rw [bne_iff_ne]; exact he
      have Hne := Lib.hid he
      clear he
      go_wp2_with fail
      go_ret3
      exact rlistAns_err (Below.refl _ _) (by rw [← HD.out]; exact HX0.out) Hne.out rfl
end Go.Proofs.Ytkohakogknodeaa
