/- FrameRows: the walk -/
import Derived.Test.YtnbagbenpojpnaaDoorFrSames
namespace Go.Proofs.YtnbagbenpojpnaaDoor
open Go.RowKit
set_option linter.unusedSimpArgs false
set_option linter.unusedVariables false
attribute [local go_sem ↓] loadF storeF
attribute [local go_sem] isLoadOf loadArg isRowAt_ptr rowAt_ptr blkOf_ptr aggOf_agg isAggV_agg isRow_alloc_new pair_cells
/-- A slice of frames that came in. -/
def InF (W : World) (A : Option Addr) (n cap : Nat) (fs : FrA) : Prop := n = fs.length ∧ n ≤ cap ∧ cap ≤ maxLen ∧ (A = none → n = 0 ∧ cap = 0) ∧ FrRd W W.heap.size A fs
theorem rows_len : ∀ (f : Nat) (bs : List (BitVec 8)), (Fr.rows f bs).length ≤ f
  | 0, bs => by simp [Fr.rows]
  | f + 1, bs => by
    cases hg : Fr.good bs with
    | false => rw [Fr.rows_bad hg]; simp
    | true => rw [Fr.rows_good hg, List.length_cons]; have := rows_len f (bs.drop (Fr.nOf bs + 12)); omega
theorem own_cap2 {w : World} {base s : Nat} {t : TypeId} {A : Option Addr} {n cap : Nat} {xs : List Value} (h : w.ownsRow base t s (.slice A n cap) n xs) : n ≤ cap ∧ cap ≤ maxLen := by
  rcases h.2 with ⟨h2, h3⟩ | ⟨g, cap', cur, h2, _, _, h5, h6, _⟩
  · injection h2 with _ _ h2; unfold maxLen; omega
  · injection h2 with _ _ h2; subst h2; exact ⟨h5, h6⟩
set_option maxHeartbeats 4000000 in
theorem law_rows (A : Option Addr) (n cap : Nat) (fs : FrA) (At : Option Addr) (nt ct : Nat) (ts : List (BitVec 8)) (w : World) (ha : InF w A n cap fs) (hat : In8 w At nt ct ts) (ht : TabIn w) :
    Calls Tryd.prog 5 #[.slice A n cap, .slice At nt ct] w fun e w' => e = .returned (.bool true) ∧ Below w.heap.size w w' := by
  obtain ⟨i0, hi, hz0, hz1, hz2⟩ := info_parts infoU8
  have Hi := Lib.hid hi; clear hi
  obtain ⟨hn, hc, hcm, hnil, hr⟩ := ha
  obtain ⟨hnt, hct, hctm, hnilt, hrt⟩ := hat
  have Hn := Lib.hid hn; have Hnil := Lib.hid hnil; have Hr := Lib.hid hr; have Ht := Lib.hid ht
  have Hnt := Lib.hid hnt; have Hnilt := Lib.hid hnilt; have Hrt := Lib.hid hrt
  have Hc := Lib.hid hc; have Hcm := Lib.hid hcm
  clear hn hnil hr ht hnt hnilt hrt hc hcm hct hctm
  go_enter Tryd.func5, Tryd.ntmps5
  go_wp2_with fail
  refine (first_calls w Ht.out).mono ?_
  rintro e w1 ⟨rfl, hf1⟩
  have hs1 := hf1.size
  have Hb1 := Lib.hid hf1
  clear hf1
  go_wp2_with fail
  refine (small_calls A n cap w.heap.size fs w1 Hn.out Hc.out Hcm.out (Hr.out.below Hb1.out (Nat.le_refl _))).mono ?_
  rintro e w' ⟨b, rfl, rfl, hfew⟩
  have Hfew := Lib.hid hfew
  clear hfew
  cases b with
  | false =>
    clear Hfew
    go_wp2_with fail
    go_ret
    exact ⟨rfl, Hb1.out⟩
  | true =>
    by_cases h1 : nt ≤ 65536
    · have hi1 : ¬ (65536 : Int) < (nt : Int) := by omega
      obtain ⟨f1, f2⟩ := Hfew.out rfl
      have hjl := joinE_len fs
      have hn60 : n ≤ 60 := by rw [Hn.out]; exact f1
      have hjl2 : (joinE fs).length ≤ 62160 := by omega
      clear Hfew f1 f2 hjl
      go_wp2_with fail
      refine (joined_calls A n cap w.heap.size fs w1 Hn.out Hc.out Hcm.out hn60 (Hr.out.below Hb1.out (Nat.le_refl _)) hs1).mono ?_
      rintro e w2 ⟨A2, cap2, rfl, hb2, hown2⟩
      have hs2 := hb2.size
      have Hb2 := Lib.hid (Hb1.out.trans (hb2.mono hs1))
      have Hbb2 := Lib.hid hb2
      have Hown2 := Lib.hid hown2
      have Hrt2 := Lib.hid (Hrt.out.below Hb2.out (Nat.le_refl _))
      obtain ⟨X, hX⟩ : ∃ X, X = joinE fs := ⟨_, rfl⟩
      rw [← hX] at Hown2 hjl2 ⊢
      obtain ⟨L, hL⟩ : ∃ L, L = X.length := ⟨_, rfl⟩
      rw [← hL] at Hown2 hjl2 ⊢
      have HL := Lib.hid hL
      clear hb2 hown2 hX hL
      go_wp2_with (at_builtin; refine wpList_append_rd rfl _ _ 22 rfl w1.heap.size 5 i0 _ 1 descU8s Hi.out hz0 hz1 hz2 rfl _ L (X.map V8) rfl Hown2.out _ At nt ct (ts.map V8) rfl (by rw [List.length_map]; exact Hnt.out) Hnilt.out Hrt2.out (v8_one _) (by unfold maxLen; omega) (by omega) (by omega) ?_)
      intro v4 w4 hown4 hg4
      rw [← List.map_append] at hown4
      obtain ⟨A4, cap4, rfl, hc4, hm4, _⟩ := own_form hown4
      have hs4 := hg4.size
      have Hb4 := Lib.hid (Hb2.out.trans ((Below.refl _ _).grown hg4 (show w.heap.size ≤ w2.heap.size by omega) fun k hk => Nat.le_trans hs1 (Hown2.out.lt k hk).1))
      have Hown4 := Lib.hid hown4
      have HY := Lib.hid (show L + nt = (X ++ ts).length by rw [List.length_append, ← HL.out, ← Hnt.out])
      have hM : L + nt ≤ 127696 := by omega
      obtain ⟨Y, hY⟩ : ∃ Y, Y = X ++ ts := ⟨_, rfl⟩
      obtain ⟨M, hMM⟩ : ∃ M, M = L + nt := ⟨_, rfl⟩
      rw [← hY] at Hown4 HY
      rw [← hMM] at Hown4 HY hc4 hM ⊢
      clear hown4 hg4 Hown2 Hrt2 hY hMM Hbb2
      go_wp2_with fail
      refine (row_calls A4 M cap4 w4.heap.size Y w4 HY.out (by omega) (own_rd Hown4.out) (Nat.le_refl _) hc4 hm4 (tabIn_of Ht.out Hb4.out)).mono ?_
      rintro e w5 ⟨hb5, A5, cap5, cells5, rfl, hown5, hsl5⟩
      have hs5 := hb5.size
      have Hb5 := Lib.hid (Hb4.out.trans (hb5.mono (show w.heap.size ≤ w4.heap.size from Hb4.out.size)))
      have Hown45 := Lib.hid (own_below Hown4.out hb5 (Nat.le_refl _))
      have Hrd5 := Lib.hid (FrSl.rd hown5 hsl5)
      obtain ⟨q1, q2⟩ := own_cap2 hown5
      have hrl := rows_len Y.length Y
      have Hrl := Lib.hid (show (Fr.rows Y.length Y).length = (kInt (Fr.rows Y.length Y)).length by simp [kInt])
      obtain ⟨F, hF⟩ : ∃ F, F = kInt (Fr.rows Y.length Y) := ⟨_, rfl⟩
      obtain ⟨N, hN⟩ : ∃ N, N = (Fr.rows Y.length Y).length := ⟨_, rfl⟩
      obtain ⟨at', hat'⟩ : ∃ a, a = Fr.rowsAt Y.length Y := ⟨_, rfl⟩
      obtain ⟨E, hE⟩ : ∃ E : Int, E = (if Fr.rowsAt Y.length Y = Y.length then 0 else 32) := ⟨_, rfl⟩
      have hEr : 0 ≤ E ∧ E ≤ 100 := by rw [hE]; split <;> omega
      have Hans := Lib.hid (show ∀ w e w', RowAns Y w e w' → Below w.heap.size w w' ∧ ∃ A' cap', e = .returned (.tuple #[.slice A' N cap', .int .i64 (at' : Int), .int .i64 E]) ∧ N ≤ cap' ∧ cap' ≤ maxLen ∧ FrRd w' w'.heap.size A' F from by
        rintro w e w' ⟨h1, A', cap', cells, h2, h3, h4⟩
        rw [hF, hN, hat', hE]
        exact ⟨h1, A', cap', h2, (own_cap2 h3).1, (own_cap2 h3).2, FrSl.rd h3 h4⟩)
      rw [← hF] at Hrd5 Hrl
      rw [← hN] at Hrl q1 hrl ⊢
      rw [← hE, ← hat']
      clear hown5 hsl5 hb5 hF hN hat' hE Hown4
      go_wp2_with fail
      refine (rrow_calls A4 M cap4 w5.heap.size Y w5 HY.out (by omega) (own_rd Hown45.out) (Nat.le_refl _) hc4 hm4).mono ?_
      intro e w6 hans
      obtain ⟨hb6, A6, cap6, rfl, r1, r2, r3⟩ := Hans.out _ _ _ hans
      have Hrd6 := Lib.hid r3
      have Hrd56 := Lib.hid (Hrd5.out.below hb6 (Nat.le_refl _))
      have hs6 := hb6.size
      have Hb6 := Lib.hid (Hb5.out.trans (hb6.mono (show w.heap.size ≤ w5.heap.size from Hb5.out.size)))
      clear hans Hans hb6 r3 Hrd5
      go_wp2_with fail
      refine (sames_calls A5 A6 N cap5 cap6 w5.heap.size w6.heap.size F w6 Hrl.out q1 r1 q2 r2 Hrd56.out Hrd6.out hs6 (Nat.le_refl _)).mono ?_
      rintro e w7 ⟨rfl, hb7⟩
      have Hb7 := Lib.hid (Hb6.out.trans (hb7.mono (show w.heap.size ≤ w6.heap.size from Hb6.out.size)))
      clear hb7
      go_wp2_with (go_at_call 16; refine (num_calls _ _ hEr.1 hEr.2).mono ?_; rintro e w' ⟨rfl, rfl⟩)
      go_ret
      exact ⟨by simp, Hb7.out⟩
    · have hi1 : (65536 : Int) < (nt : Int) := by omega
      clear Hfew
      go_wp2_with fail
      go_ret
      exact ⟨rfl, Hb1.out⟩
end Go.Proofs.YtnbagbenpojpnaaDoor
