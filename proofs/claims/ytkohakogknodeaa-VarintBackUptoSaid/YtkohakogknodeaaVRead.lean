/- varint's list, List -/
import Derived.Test.YtkohakogknodeaaVNum
namespace Go.Proofs.Ytkohakogknodeaa
open Go.RowKit
set_option linter.unusedSimpArgs false
set_option linter.unusedVariables false
theorem Upd.then_below {g : Nat} {w w3 w4 : World} (h : Upd g w w3) (hb : Below w.heap.size w3 w4) : Upd g w w4 :=
  ⟨hb.os.trans h.os, hb.tape.trans h.tape, hb.output.trans h.output, Nat.le_trans h.size hb.size, fun k hk hne => (hb.block k hk).trans (h.block k hk hne)⟩
theorem RdrIs.below2 {T : TypeId} {w w3 w4 : World} {base h n cap at' at2 : Nat} {A : Option Addr} {bs : List (BitVec 8)} {er er2 : Int} (h0 : RdrIs T w base h A n cap bs at2 er2) (hr : RdrIs T w3 base h A n cap bs at' er) (hb : Below w.heap.size w3 w4) : RdrIs T w4 base h A n cap bs at' er := by
  refine ⟨(hb.block h (lt_heap h0.1)).trans hr.1, ⟨hr.2.1.1, ?_⟩, hr.2.2⟩
  rcases hr.2.1.2 with e | ⟨k, c, cur, e1, e2, e3, e4⟩
  · exact Or.inl e
  · refine Or.inr ⟨k, c, cur, e1, e2, (hb.block k ?_).trans e3, e4⟩
    have := h0.2.1.lt k (by rw [e1]; rfl)
    exact this.2
namespace Vi
/-- r gaps are left to be read, from F on, c bytes behind; L has been read. -/
def Goes (N : Nat) (f bel : Int) (D : List (BitVec 8)) (L : List Int) (c r : Nat) (F : Int) : Prop :=
  (rdG N f bel D).2.2 = (rdG r F bel (D.drop c)).2.2 ∧ ((rdG r F bel (D.drop c)).2.2 = 0 → (rdG N f bel D).1 = L ++ (rdG r F bel (D.drop c)).1 ∧ (rdG N f bel D).2.1 = c + (rdG r F bel (D.drop c)).2.1)
theorem Goes.start (N : Nat) (f bel : Int) (D : List (BitVec 8)) : Goes N f bel D [] 0 N f := ⟨by simp, fun _ => ⟨by simp, by simp⟩⟩
theorem Goes.done {N : Nat} {f bel F : Int} {D : List (BitVec 8)} {L : List Int} {c : Nat} (h : Goes N f bel D L c 0 F) : rdG N f bel D = (L, c, 0) := by
  obtain ⟨h1, h2⟩ := h
  obtain ⟨a, b⟩ := h2 rfl
  refine Prod.ext ?_ (Prod.ext ?_ ?_)
  · rw [a]; simp [rdG]
  · rw [b]; simp [rdG]
  · rw [h1]; rfl
theorem Goes.fail1 {N r : Nat} {f bel F : Int} {D : List (BitVec 8)} {L : List Int} {c : Nat} (h : Goes N f bel D L c (r + 1) F) (he : numE (D.drop c) ≠ 0) : rdG N f bel D = ([], 0, numE (D.drop c)) := by
  have e : (rdG (r + 1) F bel (D.drop c)).2.2 = numE (D.drop c) := by rw [rdG, if_pos he]
  have e2 : (rdG N f bel D).2.2 = numE (D.drop c) := h.1.trans e
  have := rdG_err N f bel D (by rw [e2]; exact he)
  exact Prod.ext this.1 (Prod.ext this.2 e2)
theorem Goes.fail2 {N r : Nat} {f bel F : Int} {D : List (BitVec 8)} {L : List Int} {c : Nat} (h : Goes N f bel D L c (r + 1) F) (he : numE (D.drop c) = 0) (hb : bel - F ≤ (numX (D.drop c) : Int)) : rdG N f bel D = ([], 0, 13) := by
  have e : (rdG (r + 1) F bel (D.drop c)).2.2 = 13 := by rw [rdG, if_neg (by rw [he]; simp), if_pos hb]
  have e2 : (rdG N f bel D).2.2 = 13 := h.1.trans e
  have := rdG_err N f bel D (by rw [e2]; decide)
  exact Prod.ext this.1 (Prod.ext this.2 e2)
theorem Goes.step {N r : Nat} {f bel F : Int} {D : List (BitVec 8)} {L : List Int} {c : Nat} (h : Goes N f bel D L c (r + 1) F) (he : numE (D.drop c) = 0) (hb : ¬ bel - F ≤ (numX (D.drop c) : Int)) :
    Goes N f bel D (L ++ [F + (numX (D.drop c) : Int)]) (c + numN (D.drop c)) r (F + (numX (D.drop c) : Int) + 1) := by
  obtain ⟨h1, h2⟩ := h
  rw [rdG, if_neg (by rw [he]; simp), if_neg hb, List.drop_drop] at h1 h2
  unfold Goes
  generalize rdG r (F + (numX (D.drop c) : Int) + 1) bel (D.drop (c + numN (D.drop c))) = R at *
  by_cases hz : R.2.2 = 0
  · rw [if_pos hz] at h1 h2
    refine ⟨by rw [h1, hz], fun _ => ?_⟩
    obtain ⟨a, b⟩ := h2 rfl
    exact ⟨by rw [a]; simp, by rw [b]; show c + (_ + _) = _; omega⟩
  · rw [if_neg hz] at h1
    exact ⟨h1, fun h => absurd h hz⟩
def jL (bs : List (BitVec 8)) (at' : Nat) (er f bel : Int) : List Int := if er = 0 then (rdL f bel (bs.drop at')).1 else []
def jAt (bs : List (BitVec 8)) (at' : Nat) (er f bel : Int) : Nat := if er = 0 then at' + (rdL f bel (bs.drop at')).2.1 else at'
def jE (bs : List (BitVec 8)) (at' : Nat) (er f bel : Int) : Int := if er = 0 then (rdL f bel (bs.drop at')).2.2 else er
theorem jAt_le (bs : List (BitVec 8)) (at' : Nat) (er f bel : Int) (h : at' ≤ bs.length) : jAt bs at' er f bel ≤ bs.length := by
  unfold jAt; split
  · have := (rdL_len f bel (bs.drop at')).1; rw [List.length_drop] at this; omega
  · exact h
theorem iX_zero (bs : List (BitVec 8)) (at' : Nat) : iX bs at' 0 = numX (bs.drop at') ∧ iAt bs at' 0 = at' + numN (bs.drop at') ∧ iE bs at' 0 = numE (bs.drop at') := by
  unfold iX iAt iE; exact ⟨if_pos rfl, if_pos rfl, if_pos rfl⟩
end Vi
/-- What list leaves: as it should be, or an error and the reader anyhow. -/
def ListAns (T : TypeId) (g : Nat) (A : Option Addr) (n cap at' base : Nat) (bs : List (BitVec 8)) (f bel : Int) (w : World) (e : Ending) (w' : World) : Prop :=
  Upd g w w' ∧ ∃ A2 k cap2, e = .returned (.tuple #[.slice A2 k cap2, .int .i64 (Vi.rdL f bel (bs.drop at')).2.2]) ∧ k = (Vi.rdL f bel (bs.drop at')).1.length ∧ w'.ownsRow w.heap.size 3 1 (.slice A2 k cap2) k ((Vi.rdL f bel (bs.drop at')).1.map VI) ∧
    ∃ at2 er2, RdrIs T w' base g A n cap bs at2 er2 ∧ ((Vi.rdL f bel (bs.drop at')).2.2 = 0 → at2 = at' + (Vi.rdL f bel (bs.drop at')).2.1 ∧ er2 = 0)
theorem listAns_err {T : TypeId} {g : Nat} {A : Option Addr} {n cap at' base : Nat} {bs : List (BitVec 8)} {f bel er : Int} {w w' : World} {e : Ending} {at2 : Nat} {er2 : Int} (hu : Upd g w w') (hr : RdrIs T w' base g A n cap bs at2 er2) (h : Vi.rdL f bel (bs.drop at') = ([], 0, er)) (hne : er ≠ 0)
    (he : e = .returned (.tuple #[.slice none 0 0, .int .i64 er])) : ListAns T g A n cap at' base bs f bel w e w' := by
  refine ⟨hu, none, 0, 0, by rw [h]; exact he, by rw [h]; rfl, by rw [h]; exact ⟨rfl, Or.inl ⟨rfl, rfl⟩⟩, at2, er2, hr, fun h0 => ?_⟩
  rw [h] at h0; exact absurd h0 hne
set_option maxHeartbeats 4000000 in
set_option maxRecDepth 20000 in
theorem list_calls (g : Nat) (A : Option Addr) (n cap at' base : Nat) (bs : List (BitVec 8)) (f bel : Int) (w : World) (hr : RdrIs 68 w base g A n cap bs at' 0) (hm : n ≤ 1099511627776) (hf : f ≤ 9223372036854775807) (hbl : bel ≤ 9223372036854775807) (hbm : -9223372036854775808 ≤ bel) :
    Calls Try.prog 43 #[.pointer (some ⟨g, 0, none⟩), .int .i64 f, .int .i64 bel] w (ListAns 68 g A n cap at' base bs f bel w) := by
  obtain ⟨i0, hi, hz0, hz1, hz2⟩ := info_parts infoInt
  have Hi := Lib.hid hi; clear hi
  have Hr := Lib.hid hr
  have hgl := lt_heap hr.1
  clear hr
  go_enter Try.func43, Try.ntmps43
  rcases (by omega : f < 0 ∨ 0 ≤ f) with hf0 | hf0
  · have hE : Vi.rdL f bel (bs.drop at') = ([], 0, 13) := by unfold Vi.rdL; rw [if_pos hf0]
    have HE := Lib.hid hE; clear hE
    go_wp2_with fail
    go_ret2
    exact listAns_err (Upd.refl _ _) Hr.out HE.out (by decide) rfl
  · have hf1 : ¬ f < 0 := by omega
    go_wp2_with fail
    refine (int_calls g A n cap at' base bs 0 w Hr.out hm).mono ?_
    rintro e w1 ⟨rfl, hu1, hr1⟩
    obtain ⟨s1, s2, s3⟩ := Vi.iX_zero bs at'
    rw [s2, s3] at hr1
    rw [s1]
    clear s1 s2 s3
    obtain ⟨D, hD⟩ : ∃ D, D = bs.drop at' := ⟨_, rfl⟩
    rw [← hD] at hr1 ⊢
    have HD := Lib.hid hD; clear hD
    have hx := Vi.numX_lt D
    have c2 : w1.cell? ⟨g, 2, none⟩ = some (.int .i64 (Vi.numE D)) := by rw [cell_heap hr1.1]; rfl
    have hs1 := hu1.size
    have Hu1 := Lib.hid hu1; have Hr1 := Lib.hid hr1
    clear hu1 hr1
    by_cases he : Vi.numE D = 0
    · have HX0 := Lib.hid (show Vi.rdL f bel D = if 0 < Vi.numX D ∧ bel - f < (Vi.numX D : Int) then ([], 0, 13) else
          if (Vi.rdG (Vi.numX D) f bel (D.drop (Vi.numN D))).2.2 = 0 then ((Vi.rdG (Vi.numX D) f bel (D.drop (Vi.numN D))).1, Vi.numN D + (Vi.rdG (Vi.numX D) f bel (D.drop (Vi.numN D))).2.1, 0) else ([], 0, (Vi.rdG (Vi.numX D) f bel (D.drop (Vi.numN D))).2.2) by
        rw [Vi.rdL, if_neg (by omega), if_neg (by rw [he]; simp)])
      rw [he] at c2 Hr1
      have hN := (Vi.numN_le D).1
      obtain ⟨X, hX⟩ : ∃ X, X = Vi.numX D := ⟨_, rfl⟩
      obtain ⟨M, hM⟩ : ∃ M, M = Vi.numN D := ⟨_, rfl⟩
      rw [← hX, ← hM] at HX0
      rw [← hX] at hx ⊢
      rw [← hM] at Hr1 hN
      clear hX hM he
      have hcond : (0 < X ∧ bel - f < (X : Int)) ∨ ¬ (0 < X ∧ bel - f < (X : Int)) := by omega
      rcases hcond with hc | hc
      · rw [if_pos hc] at HX0
        have q1 : (0 : Int) < (X : Int) := by omega
        rcases (by omega : bel ≤ f ∨ f < bel) with hb | hb
        · go_wp2_with fail
          go_ret2
          exact listAns_err Hu1.out Hr1.out (by rw [← HD.out]; exact HX0.out) (by decide) rfl
        · have q2 : ¬ bel ≤ f := by omega
          have q3 : bel - f < (X : Int) := hc.2
          go_wp2_with fail
          go_ret2
          exact listAns_err Hu1.out Hr1.out (by rw [← HD.out]; exact HX0.out) (by decide) rfl
      · rw [if_neg hc] at HX0
        obtain ⟨E2, hE2⟩ : ∃ E2, E2 = D.drop M := ⟨_, rfl⟩
        rw [← hE2] at HX0
        have HE2 := Lib.hid hE2; clear hE2
        have hfb : X = 0 ∨ (f < bel ∧ (X : Int) ≤ bel - f) := by omega
        go_upto_region 6 with fail
        go_cut [37] (fun s w' => s = .bool false ∧ w1 = w')
        case first =>
          rcases hfb with h0 | ⟨h1, h2⟩
          · subst h0
            go_wp2_with fail
            go_meet
            exact ⟨rfl, rfl⟩
          · have q1 : ¬ bel ≤ f := by omega
            have q2 : ¬ bel - f < (X : Int) := by omega
            by_cases hz : 0 < X
            · have q3 : (0 : Int) < (X : Int) := by omega
              go_wp2_with fail
              go_meet
              exact ⟨rfl, rfl⟩
            · have q3 : ¬ (0 : Int) < (X : Int) := by omega
              go_wp2_with fail
              go_meet
              exact ⟨rfl, rfl⟩
        case rest =>
          obtain ⟨rfl, rfl⟩ := hcut
          clear c2
          go_wp2_with fail
          go_loopw [1, 9, 39] (fun F' l i wr => ∃ (a r c : Nat) (L : List Int) (F : Int), i = .int .i64 (a : Int) ∧ F' = .int .i64 F ∧ a + r = X ∧ Vi.Goes X f bel E2 L c r F ∧ 0 ≤ F ∧ (r = 0 ∨ F ≤ bel) ∧ L.length ≤ c ∧ M + c ≤ D.length ∧
            RdrIs 68 wr base g A n cap bs (at' + (M + c)) 0 ∧ wr.ownsRow w.heap.size 3 1 l L.length (L.map VI) ∧ Upd g w wr) (fun _ _ i _ => X - (intOf i).toNat)
          case atStart =>
            exact ⟨0, X, 0, [], f, rfl, rfl, by omega, Vi.Goes.start _ _ _ _, hf0, by omega, by simp, by omega, Hr1.out, ⟨rfl, Or.inl ⟨rfl, rfl⟩⟩, Hu1.out⟩
          case round =>
            obtain ⟨a, r, c, L, F, rfl, rfl, har, hG, hF0, hFb, hLc, hMc, hrd, hown, hu⟩ := hrel
            obtain ⟨A3, cap3, rfl, hc3, hm3, _⟩ := own_form hown
            have HG := Lib.hid hG; have Hrd := Lib.hid hrd; have Hown := Lib.hid hown; have Hu := Lib.hid hu
            have hsz := hu.size
            have hDn : D.length ≤ n := by rw [HD.out, List.length_drop, ← hrd.2.2.1]; omega
            clear hG hrd hown hu
            cases r with
            | zero =>
              have hdone := HG.out.done
              have Hdone := Lib.hid hdone
              have haX : ¬ (a : Int) < (X : Int) := by omega
              have hL64 : L.length ≤ 1099511627776 := by omega
              clear hdone har
              have hmk := make0_int L.length (by omega)
              have Hmade := Lib.hid (World.ownsRow_made (base := wr.heap.size) (e := 3) (size := 1) wr (zerosI L.length) L.length (Nat.le_refl _) (by unfold maxLen; omega) (by rw [zerosI_size]; omega))
              have Hown2 := Lib.hid (own_below Hown.out ((Below.refl wr.heap.size wr).alloc (Nat.le_refl _) (.cells (zerosI L.length) 3)) (Nat.le_refl _))
              have hrdL := HX0.out
              rw [Hdone.out] at hrdL
              have HrdL := Lib.hid (show Vi.rdL f bel D = (L, M + c, 0) from hrdL)
              clear hrdL
              go_wp2_with (at_builtin; refine wpList_append_rd rfl _ _ 29 rfl wr.heap.size 3 i0 _ 8 descInts Hi.out hz0 hz1 hz2 rfl _ 0 [] rfl Hmade.out _ A3 L.length cap3 (L.map VI) rfl (by rw [List.length_map]) (own_nil Hown2.out) (own_rd Hown2.out) (vi_one _) (by unfold maxLen; omega) (by omega) (by simp) ?_)
              intro v4 w4 hown4 hg4
              obtain ⟨A4, cap4, rfl, hc4, hm4, _⟩ := own_form hown4
              have hb4 : Below wr.heap.size wr w4 := ((Below.refl wr.heap.size wr).alloc (Nat.le_refl _) _).grown hg4 (by simp) fun k hk => (Hmade.out.lt k hk).1
              have Hown4 := Lib.hid hown4; have Hb4 := Lib.hid hb4
              clear hown4 hg4 hb4 Hown2 Hmade hmk
              go_wp2_with fail
              go_ret2
              refine ⟨Hu.out.trans (Upd.of_below Hb4.out), A4, L.length, cap4, by rw [← HD.out, HrdL.out]; rfl, by rw [← HD.out, HrdL.out], by rw [← HD.out, HrdL.out]; exact own_base Hown4.out hsz, _, _, Hrd.out.below Hb4.out, fun _ => ⟨by rw [← HD.out, HrdL.out], rfl⟩⟩
            | succ r =>
              have haX : (a : Int) < (X : Int) := by omega
              go_wp2_with fail
              refine (int_calls g A n cap (at' + (M + c)) base bs 0 wr Hrd.out hm).mono ?_
              rintro e w3 ⟨rfl, hu3, hr3⟩
              obtain ⟨s1, s2, s3⟩ := Vi.iX_zero bs (at' + (M + c))
              have hdd : bs.drop (at' + (M + c)) = E2.drop c := by rw [HE2.out, HD.out, List.drop_drop, List.drop_drop]
              rw [hdd] at s1 s2 s3
              rw [s2, s3] at hr3
              rw [s1]
              clear s1 s2 s3 hdd
              obtain ⟨G, hG⟩ : ∃ G, G = E2.drop c := ⟨_, rfl⟩
              rw [← hG] at hr3 ⊢
              have HGd := Lib.hid hG; clear hG
              have hx3 := Vi.numX_lt G
              have hN3 := Vi.numN_le G
              have k2 : w3.cell? ⟨g, 2, none⟩ = some (.int .i64 (Vi.numE G)) := by rw [cell_heap hr3.1]; rfl
              have hs3 := hu3.size
              have Hown3 := Lib.hid (Hown.out.kept hu3 (by
                rcases Hown.out.2 with ⟨h, _⟩ | ⟨b, _, _, h, hb, _⟩
                · injection h with h; subst h; exact Or.inl rfl
                · injection h with h; subst h; right; simp [Value.ownBlock]; omega))
              have Hu3 := Lib.hid (Hu.out.trans hu3); have Hr3 := Lib.hid hr3
              clear hu3 hr3 Hown Hu Hrd
              have hFb2 : F ≤ bel := by omega
              clear hFb
              by_cases he3 : Vi.numE G = 0
              · rw [he3] at k2 Hr3
                obtain ⟨x, hxx⟩ : ∃ x, x = Vi.numX G := ⟨_, rfl⟩
                by_cases hge : bel - F ≤ (Vi.numX G : Int)
                · have hfl := HG.out.fail2 (by rw [← HGd.out]; exact he3) (by rw [← HGd.out]; exact hge)
                  have hrdL := HX0.out
                  rw [hfl] at hrdL
                  have HrdL := Lib.hid (show Vi.rdL f bel D = ([], 0, 13) from hrdL)
                  clear hrdL hfl
                  rw [← hxx] at hge hx3 ⊢
                  have Hk := Lib.hid he3; have Hxx := Lib.hid hxx
                  clear he3 hxx
                  go_wp2_with fail
                  go_ret2
                  exact listAns_err Hu3.out Hr3.out (by rw [← HD.out]; exact HrdL.out) (by decide) rfl
                · have hst := HG.out.step (by rw [← HGd.out]; exact he3) (by rw [← HGd.out]; exact hge)
                  have hpos := Vi.numN_pos he3
                  rw [← HGd.out, ← hxx] at hst
                  rw [← hxx] at hge hx3 ⊢
                  have hGl : G.length = D.length - (M + c) := by rw [HGd.out, HE2.out, List.drop_drop, List.length_drop]
                  obtain ⟨M3, hM3⟩ : ∃ M3, M3 = Vi.numN G := ⟨_, rfl⟩
                  rw [← hM3] at hst hN3 hpos Hr3
                  obtain ⟨hN3a, hN3b⟩ := hN3
                  have hfit : c + M3 + M ≤ D.length := by omega
                  have Hst := Lib.hid hst
                  have hlt : ¬ bel - F ≤ (x : Int) := hge
                  clear hst he3 hxx hM3 hGl hN3a hge
                  have Hown4 := Lib.hid (own_below Hown3.out ((Below.refl w3.heap.size w3).alloc (Nat.le_refl _) (.cells #[.int .i64 (F + (x : Int))] 3)) (Nat.le_refl _))
                  go_wp2_with (at_builtin; refine wpList_append_rd rfl _ _ 29 rfl w.heap.size 3 i0 _ 8 descInts Hi.out hz0 hz1 hz2 rfl _ L.length (L.map VI) rfl Hown4.out _ (some ⟨w3.heap.size, 0, none⟩) 1 1 [.int .i64 (F + (x : Int))] rfl rfl (by intro h; cases h) (rd_fresh _ _ _ _ _ _ rfl rfl) (by intro u hu; simp at hu; subst hu; rfl) (by unfold maxLen; omega) (by omega) (by simp; omega) ?_)
                  intro v4 w4 hown4 hg4
                  have e4 : L.map VI ++ [.int .i64 (F + (x : Int))] = (L ++ [F + (x : Int)]).map VI := by simp
                  rw [e4, show L.length + 1 = (L ++ [F + (x : Int)]).length by simp] at hown4
                  obtain ⟨A5, cap5, rfl, hc5, hm5, _⟩ := own_form hown4
                  have hb4 : Below w.heap.size w3 w4 := ((Below.refl w.heap.size w3).alloc (by omega) _).grown hg4 (by simp; omega) fun k hk => (Hown4.out.lt k hk).1
                  have Hu4 := Lib.hid (Hu3.out.then_below hb4)
                  have Hr4 := Lib.hid (RdrIs.below2 Hr.out Hr3.out hb4)
                  have Hown5 := Lib.hid hown4
                  have hll : (L ++ [F + (x : Int)]).length ≤ c + M3 := by simp; omega
                  have Hll := Lib.hid hll
                  have hat4 : at' + (M + c) + M3 = at' + (M + (c + M3)) := by omega
                  rw [hat4] at Hr4
                  have hF2 : F + ((x : Int) + 1) = F + (x : Int) + 1 := by omega
                  clear hown4 hg4 hb4 e4 Hown4 Hown3 Hr3 Hu3 hll hat4
                  go_wp2_with fail
                  refine ⟨⟨a + 1, r, c + M3, _, F + (x : Int) + 1, by congr 1, by congr 1, by omega, Hst.out, by omega, by omega, Hll.out, by omega, Hr4.out, Hown5.out, Hu4.out⟩, by simp [intOf]; omega⟩
              · have hfl := HG.out.fail1 (by rw [← HGd.out]; exact he3)
                rw [← HGd.out] at hfl
                have hrdL := HX0.out
                rw [hfl, if_neg he3] at hrdL
                have HrdL := Lib.hid (show Vi.rdL f bel D = ([], 0, Vi.numE G) from hrdL)
                have hb : (Vi.numE G != 0) = true := by rw [bne_iff_ne]; exact he3
                have Hne := Lib.hid he3
                clear hrdL hfl he3
                go_wp2_with fail
                go_quiet (fail)
                go_wp2_with fail
                go_ret2
                exact listAns_err (Hu3.out.drewN nq) (RdrIs.below Hr3.out (below_drewN (Below.refl _ _) nq)) (by rw [← HD.out]; exact HrdL.out) Hne.out rfl
    · have HX0 := Lib.hid (show Vi.rdL f bel D = ([], 0, Vi.numE D) by rw [Vi.rdL, if_neg (by omega), if_pos he])
      have hb : (Vi.numE D != 0) = true := by rw [bne_iff_ne]; exact he
      have Hne := Lib.hid he
      clear he
      go_wp2_with fail
      go_quiet (fail)
      go_wp2_with fail
      go_ret2
      exact listAns_err (Hu1.out.drewN nq) (RdrIs.below Hr1.out (below_drewN (Below.refl _ _) nq)) (by rw [← HD.out]; exact HX0.out) Hne.out rfl
end Go.Proofs.Ytkohakogknodeaa
