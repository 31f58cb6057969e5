/- TextFault -/
import Derived.Test.YtgoobadkbndfgaaDoorFaA
import Derived.Test.YtgoobadkbndfgaaDoorLawPrC
import Derived.Test.YtgoobadkbndfgaaDoorLift
import Derived.Deep.DeepCutAuto
namespace Go.Proofs.YtgoobadkbndfgaaDoor
open Go.RowKit Go.ChangeShapes Go.WideShapes Go.ChangeAt
set_option linter.unusedSimpArgs false
set_option linter.unusedVariables false
/-- Of what Parse answers, by the case. -/
theorem parse_fault {T : List (BitVec 8)} {E : Int} {K : Nat} (he : (Tx.all T).e = E) (hk : (Tx.all T).k = K) (h0 : E ≠ 0) : (Tx.all T).eEnd = E ∧ (Tx.all T).fEnd 0 0 = K ∧ (Tx.all T).pEnd = [] := by
  have h1 : (Tx.all T).eEnd = E := by unfold Tx.Run.eEnd; rw [he, if_pos h0]
  refine ⟨h1, ?_, ?_⟩
  · unfold Tx.Run.fEnd; rw [he, if_pos h0, hk]; simp
  · unfold Tx.Run.pEnd; rw [h1, if_neg h0]
theorem parse_quiet {T : List (BitVec 8)} (he : (Tx.all T).e = 0) : (Tx.all T).eEnd = (if (Tx.all T).begun then 0 else 40) ∧ (Tx.all T).fEnd 0 0 = 0 := by
  refine ⟨?_, ?_⟩
  · unfold Tx.Run.eEnd; rw [he, if_neg (by simp)]
  · unfold Tx.Run.fEnd; rw [he, if_neg (by simp)]
theorem build10 (w : World) : (Instr.buildSlice 27 1 #[(0, .int .u8 10)]).run Tryd.prog w = .ok (.slice (some ⟨w.heap.size, 0, none⟩) 1 1) (w.alloc (.cells #[.int .u8 10] 5)) := by kernel_rfl
set_option maxHeartbeats 8000000 in
set_option maxRecDepth 40000 in
theorem law_fault (A : Option Addr) (n cap : Nat) (bs : List (BitVec 8)) (A1 : Option Addr) (n1 cap1 : Nat) (tl : List (BitVec 8)) (w : World) (hn : n = bs.length) (hcap : n ≤ cap) (hcm : cap ≤ maxLen) (hnil : A = none → n = 0 ∧ cap = 0) (hr : Rd w w.heap.size A (bs.map V8))
    (hn1 : n1 = tl.length) (hcap1 : n1 ≤ cap1) (hcm1 : cap1 ≤ maxLen) (hnil1 : A1 = none → n1 = 0 ∧ cap1 = 0) (hr1 : Rd w w.heap.size A1 (tl.map V8)) :
    Calls Tryd.prog 9 #[.slice A n cap, .slice A1 n1 cap1] w fun e w' => e = .returned (.bool true) ∧ Below w.heap.size w w' := by
  have Hn := Lib.hid hn; have Hnil := Lib.hid hnil; have Hr := Lib.hid hr; have Hc := Lib.hid hcm
  have Hn1 := Lib.hid hn1; have Hnil1 := Lib.hid hnil1; have Hr1 := Lib.hid hr1
  unfold maxLen at hcm hcm1
  clear hn hnil hr hn1 hnil1 hr1
  go_enter Tryd.func9, Tryd.ntmps9
  go_wp2_with fail
  refine (first_calls w).mono ?_
  rintro en w1 ⟨rfl, hb1⟩
  have hz1 := hb1.size
  have Hb1 := Lib.hid hb1
  clear hb1
  by_cases hbig : 65536 < n
  · have t2 : (65536 : Int) < (n : Int) := by omega
    go_wp2_with fail
    go_ret
    exact ⟨rfl, Hb1.out⟩
  have t2 : ¬ (65536 : Int) < (n : Int) := by omega
  by_cases hbig1 : 65536 < n1
  · have t3 : (65536 : Int) < (n1 : Int) := by omega
    go_wp2_with fail
    go_ret
    exact ⟨rfl, Hb1.out⟩
  have t3 : ¬ (65536 : Int) < (n1 : Int) := by omega
  have hp1 := Parse_calls A n cap w.heap.size bs w1 Hn.out (by omega) hcap Hnil.out hz1 (Hr.out.below Hb1.out (Nat.le_refl _))
  unfold ParseSaid at hp1
  by_cases he : (Tx.all bs).e = 0
  · obtain ⟨g1, g2⟩ := parse_quiet he
    cases hbg : (Tx.all bs).begun with
    | true =>
      rw [hbg] at g1
      rw [g1, g2] at hp1
      generalize (Tx.all bs).pEnd = PE at *
      simp only [if_true] at hp1
      generalize (Tx.all bs).n = N at *
      have Hp1 := Lib.hid hp1
      clear hp1 g1 g2 he hbg
      go_wp2_with fail
      refine (Hp1.out).mono ?_
      rintro en w2 ⟨Al, capl, rfl, hown2, hb2⟩
      have Hb2 := Lib.hid (Hb1.out.trans (hb2.mono hz1))
      clear hown2 hb2
      go_wp2_with (go_at_call 19; refine (num_calls _ _).mono ?_; rintro en w9 ⟨rfl, rfl⟩)
      go_ret
      exact ⟨rfl, Hb2.out⟩
    | false =>
      rw [hbg] at g1
      have hpe : (Tx.all bs).pEnd = [] := by unfold Tx.Run.pEnd; rw [g1]; rfl
      rw [g1, g2, hpe] at hp1
      simp only [Bool.false_eq_true, if_false] at hp1
      have Hp1 := Lib.hid hp1
      have Hsl := Lib.hid (Tx.spokenN_none (Tx.run_silent 0 _ he hbg) 65537)
      clear hp1 g1 g2 he hbg hpe
      go_wp2_with fail
      refine (Hp1.out).mono ?_
      rintro en w2 ⟨Al, capl, rfl, hown2, hb2⟩
      have hz2 := hb2.size
      have Hb2 := Lib.hid (Hb1.out.trans (hb2.mono hz1))
      have Hsp := Lib.hid (spoken_calls A n cap w.heap.size bs 65537 w2 Hn.out (by omega) hcap Hc.out Hnil.out Hb2.out.size (Hr.out.below Hb2.out (Nat.le_refl _)))
      rw [show (65537 : Int).toNat = 65537 from rfl, Hsl.out] at Hsp
      clear hown2 hb2
      go_wp2_with (go_at_call 19; refine (num_calls _ _).mono ?_; rintro en w9 ⟨rfl, rfl⟩)
      refine (Hsp.out).mono ?_
      rintro en w3 ⟨rfl, hb3⟩
      have Hb3 := Lib.hid (Hb2.out.trans (hb3.mono Hb2.out.size))
      clear hb3
      go_wp2_with fail
      go_ret
      exact ⟨rfl, Hb3.out⟩
  · obtain ⟨E, hE⟩ : ∃ E, E = (Tx.all bs).e := ⟨_, rfl⟩
    obtain ⟨K, hK⟩ : ∃ K, K = (Tx.all bs).k := ⟨_, rfl⟩
    have hE0 : E ≠ 0 := by rw [hE]; exact he
    obtain ⟨g1, g2, g3⟩ := parse_fault hE.symm hK.symm hE0
    have hf := Tx.run_fault_at 0 false (Tx.lines bs) he
    have e1 : (Tx.run 0 false (Tx.lines bs)).k = K := hK.symm
    have e2 : (Tx.run 0 false (Tx.lines bs)).e = E := hE.symm
    rw [e1, e2] at hf
    obtain ⟨k1, k2, k3, k4, bad, k5, k6⟩ := hf
    rw [g1, g2, g3, if_neg hE0] at hp1
    have hll := Tx.lines_length _ bs (Nat.le_refl _)
    rw [← Hn.out] at hll
    have Hp1 := Lib.hid hp1; have HK2 := Lib.hid k2; have HK3 := Lib.hid k3; have HK4 := Lib.hid k4; have HK5 := Lib.hid k5; have HK6 := Lib.hid k6; have HE0 := Lib.hid hE0
    have hKn : K ≤ n := by omega
    have t4 : (E == 0) = false := by simpa using hE0
    have t5 : ((K : Int) == 0) = false := by simp; omega
    clear hp1 g1 g2 g3 he hE hK e1 e2 k2 k3 k4 k5 k6 hE0 hll
    go_wp2_with fail
    refine (Hp1.out).mono ?_
    rintro en w2 ⟨Al, capl, rfl, hown2, hb2⟩
    have hz2 := hb2.size
    have Hb2 := Lib.hid (Hb1.out.trans (hb2.mono hz1))
    have Hr2 := Lib.hid (Hr.out.below Hb2.out (Nat.le_refl _))
    clear hown2 hb2 Hp1
    go_wp2_with (go_at_call 19; refine (num_calls _ _).mono ?_; rintro en w9 ⟨rfl, rfl⟩)
    go_loopw [10, 11] (fun av cv wr => ∃ (a f : Nat) (pre : List (List (BitVec 8))), av = .int .i64 (a : Int) ∧ cv = .int .i64 ((pre.length : Int) + 1) ∧ Tx.At bs f pre ∧ Tx.NoNl bs f a ∧ f ≤ a ∧ a ≤ n ∧ pre.length + 1 ≤ K ∧ (pre.length + 1 = K → f = a) ∧ w2 = wr) (fun av _ _ => n - (intOf av).toNat)
    case atStart => exact ⟨0, 0, [], rfl, rfl, Tx.At.zero _, Tx.NoNl.start _ _, by omega, by omega, by simpa using k1, fun _ => rfl, rfl⟩
    case round =>
      obtain ⟨a, f, pre, rfl, rfl, hat, hno, hfa, han, hpk, hpf, rfl⟩ := hrel
      obtain ⟨p, hp⟩ : ∃ p, p = pre.length := ⟨_, rfl⟩
      rw [← hp] at hpk hpf ⊢
      have Hat := Lib.hid hat; have Hno := Lib.hid hno; have Hpf := Lib.hid hpf; have HP := Lib.hid hp
      clear hat hno hpf hp
      by_cases hgo : a < n ∧ p + 1 < K
      · obtain ⟨h1, h2⟩ := hgo
        have q1 : (a : Int) < (n : Int) := by omega
        have q2 : (p : Int) + 1 < (K : Int) := by omega
        obtain ⟨c, hc⟩ : ∃ c, bs[a]? = some c := ⟨bs[a]'(by rw [← Hn.out]; omega), List.getElem?_eq_getElem _⟩
        obtain ⟨b, off, rfl, hb, hcell⟩ := Hr2.out a (V8 c) (by rw [List.getElem?_map, hc]; rfl)
        have Hcc := Lib.hid hc
        clear hc
        by_cases h10 : n8 c = 10
        · have s1 : ((n8 c : Int) == 10) = true := by simp; omega
          have hnx := Lib.hid (Hat.out.next Hno.out hfa Hcc.out h10)
          clear h10
          go_wp2_with fail
          go_roundw
          case rel => exact ⟨a + 1, a + 1, pre ++ [(bs.drop f).take (a - f)], by congr 1, by rw [List.length_append, ← HP.out]; congr 1, hnx.out, Tx.NoNl.start _ _, by omega, by omega, by rw [List.length_append, ← HP.out]; simp; omega, fun _ => rfl, trivial⟩
          case measure => simp [intOf]; omega
        · have s1 : ((n8 c : Int) == 10) = false := by simp; omega
          have hnx := Lib.hid (Hno.out.more Hcc.out h10)
          clear h10
          go_wp2_with fail
          go_roundw
          case rel => exact ⟨a + 1, f, pre, by congr 1, by rw [← HP.out], Hat.out, hnx.out, by omega, by omega, by have := HP.out; omega, fun h => by have := HP.out; omega, trivial⟩
          case measure => simp [intOf]; omega
      · have hpK : p + 1 = K := by
          by_cases h : a < n
          · omega
          · have h1 := Hat.out.more Hno.out (by rw [← Hn.out]; omega)
            have h2 := HK2.out; have h3 := HP.out
            omega
        have hfa2 : f = a := Hpf.out hpK
        subst hfa2
        have hs : ¬ (f : Int) < (n : Int) ∨ ((f : Int) < (n : Int) ∧ ¬ (p : Int) + 1 < (K : Int)) := by
          by_cases h : f < n
          · right; exact ⟨by omega, by omega⟩
          · left; omega
        have hKp : K = p + 1 := hpK.symm
        subst hKp
        have hKi : ((p + 1 : Nat) : Int) = (p : Int) + 1 := by omega
        clear hgo hpK Hpf
        have HPre := Lib.hid (show (Tx.lines bs).take p = pre by rw [Hat.out.all, HP.out, List.take_left])
        have t6 : (((p : Int) + 1) != ((p : Int) + 1)) = false := by simp
        rcases hs with q1 | ⟨q1, q2⟩
        all_goals
          go_wp2_with fail
          go_loopw [12] (fun ev wr => ∃ e : Nat, ev = .int .i64 (e : Int) ∧ Tx.NoNl bs f e ∧ f ≤ e ∧ e ≤ n ∧ w2 = wr) (fun ev _ => n - (intOf ev).toNat)
          case atStart => exact ⟨f, rfl, Tx.NoNl.start _ _, by omega, by omega, rfl⟩
          case round =>
            obtain ⟨e, rfl, hne, hfe, hen, rfl⟩ := hrel
            have Hne := Lib.hid hne
            clear hne
            have hstop : (e < n ∧ ∃ c, bs[e]? = some c ∧ n8 c ≠ 10) ∨ (e = n ∨ ∃ c, bs[e]? = some c ∧ n8 c = 10) := by
              by_cases h : e < n
              · obtain ⟨c, hc⟩ : ∃ c, bs[e]? = some c := ⟨bs[e]'(by rw [← Hn.out]; omega), List.getElem?_eq_getElem _⟩
                by_cases h10 : n8 c = 10
                · exact Or.inr (Or.inr ⟨c, hc, h10⟩)
                · exact Or.inl ⟨h, c, hc, h10⟩
              · exact Or.inr (Or.inl (by omega))
            rcases hstop with ⟨h1, c, hc, h10⟩ | hstop
            · have r1 : (e : Int) < (n : Int) := by omega
              obtain ⟨b, off, rfl, hb, hcell⟩ := Hr2.out e (V8 c) (by rw [List.getElem?_map, hc]; rfl)
              have s1 : ((n8 c : Int) != 10) = true := by simp; omega
              have hnx := Lib.hid (Hne.out.more hc h10)
              clear hc h10
              go_wp2_with fail
              go_roundw
              case rel => exact ⟨e + 1, by congr 1, hnx.out, by omega, by omega, trivial⟩
              case measure => simp [intOf]; omega
            · have hline := Hat.out.line Hne.out hfe (by rw [← Hn.out]; exact hstop) (by rw [← HP.out]; have := HK2.out; omega)
              rw [← HP.out] at hline
              have hk5 := HK5.out
              rw [show p + 1 - 1 = p by omega, hline] at hk5
              injection hk5 with hk5
              have hef : f < e := by
                rcases Nat.lt_or_ge f e with h | h
                · exact h
                · exfalso
                  have h0 : e - f = 0 := by omega
                  rw [h0, List.take_zero] at hk5
                  exact HK6.out (by rw [← hk5]; rfl)
              have tests : ¬ (e : Int) < (n : Int) ∨ ((e : Int) < (n : Int) ∧ ∃ b off c, A = some ⟨b, off, none⟩ ∧ w2.cell? ⟨b, off + e, none⟩ = some (V8 c) ∧ ((n8 c : Int) != 10) = false) := by
                by_cases h : e < n
                · right
                  refine ⟨by omega, ?_⟩
                  rcases hstop with h1 | ⟨c, hc, h10⟩
                  · omega
                  · obtain ⟨b, off, hA, hb, hcell⟩ := Hr2.out e (V8 c) (by rw [List.getElem?_map, hc]; rfl)
                    exact ⟨b, off, c, hA, hcell, by simp; omega⟩
                · left; omega
              have t7 : ((e : Int) == (f : Int)) = false := by simp; omega
              have hbad := Lib.hid (show (bs.drop f).take (e - f) = bad from hk5)
              have hL1 : Tx.all (bs.take f) = Tx.run 0 false ((Tx.lines bs).take p) := by show Tx.run 0 false (Tx.lines (bs.take f)) = _; rw [Hat.out.head, HPre.out]
              have hL2 : Tx.lines (bs.take e ++ [10#8] ++ tl) = (Tx.lines bs).take (p + 1) ++ Tx.lines tl := by
                rw [Hat.out.cut Hne.out hfe tl, hk5, List.take_add_one, HPre.out, show (Tx.lines bs)[p]? = some bad from HK5.out]; rfl
              have Hall1 := Lib.hid (show (Tx.all (bs.take f)).e = 0 by rw [hL1]; exact HK3.out)
              have Hall2 := Lib.hid (show (Tx.all (bs.take e ++ [10#8] ++ tl)).e = E ∧ (Tx.all (bs.take e ++ [10#8] ++ tl)).k = p + 1 by
                have := HK4.out (Tx.lines tl)
                show (Tx.run 0 false (Tx.lines (bs.take e ++ [10#8] ++ tl))).e = E ∧ (Tx.run 0 false (Tx.lines (bs.take e ++ [10#8] ++ tl))).k = p + 1
                rw [hL2]; exact this)
              have Hsil := Lib.hid (fun hb => Tx.run_silent 0 (Tx.lines (bs.take f)) Hall1.out hb)
              clear hstop hline hk5 hL1 hL2
              rcases tests with r1 | ⟨r1, b, off, c, rfl, hcell, s1⟩
              all_goals
                have hft : (bs.take f).length = f := by simp; have := Hn.out; omega
                have hp2 := Parse_calls _ f cap w.heap.size (bs.take f) w2 hft.symm (by omega) (by omega) (fun h => by first | (cases h; done) | exact ⟨by have := (Hnil.out h).1; omega, (Hnil.out h).2⟩) Hb2.out.size (rd_take f Hr2.out)
                unfold ParseSaid at hp2
                obtain ⟨g1, g2⟩ := parse_quiet Hall1.out
                have hsp2 := fun w3 (hb : Below w.heap.size w w3) => spoken_calls _ f cap w.heap.size (bs.take f) 65537 w3 hft.symm (by omega) (by omega) Hc.out (fun h => by first | (cases h; done) | exact ⟨by have := (Hnil.out h).1; omega, (Hnil.out h).2⟩) hb.size (rd_take f (Hr.out.below hb (Nat.le_refl _)))
                rw [g2] at hp2
                cases hbg : (Tx.all (bs.take f)).begun with
                | true =>
                  rw [hbg] at g1
                  rw [g1] at hp2
                  simp only [if_true] at hp2
                  generalize (Tx.all (bs.take f)).pEnd = PE at *
                  generalize (Tx.all (bs.take f)).n = N at *
                  have Hp2 := Lib.hid hp2
                  clear hp2 hsp2 g1 g2 hbg Hsil
                  go_wp2_with fail
                  refine (Hp2.out).mono ?_
                  rintro en w3 ⟨Al3, capl3, rfl, hown3, hb3⟩
                  have Hb3 := Lib.hid (Hb2.out.trans (hb3.mono Hb2.out.size))
                  clear hown3 hb3 Hp2
                  have het : (bs.take e).length = e := by simp; have := Hn.out; omega
                  have hby := bytes_calls _ e cap w.heap.size (bs.take e) w3 het.symm (by omega) (fun h => by first | (cases h; done) | exact ⟨by have := (Hnil.out h).1; omega, (Hnil.out h).2⟩) Hb3.out.size (rd_take e (Hr.out.below Hb3.out (Nat.le_refl _)))
                  have Hby := Lib.hid hby
                  have Het := Lib.hid het
                  obtain ⟨i8, h8, h80, h81, h82⟩ := info_parts infoU8
                  have H8 := Lib.hid h8
                  have hsz3 := Hb3.out.size
                  clear hby het h8 hft hKi
                  go_wp2_with (first | (go_at_call 19; refine (num_calls _ _).mono ?_; rintro en w9 ⟨rfl, rfl⟩))
                  refine (Hby.out).mono ?_
                  rintro en w4 ⟨A4, cap4, rfl, hown4, hb4⟩
                  have hz4 := hb4.size
                  have hb5 : Below w4.heap.size w4 (w4.alloc (.cells #[.int .u8 10] 5)) := (Below.refl _ _).alloc (Nat.le_refl _) _
                  have Hown5 := Lib.hid (own_base (own_below hown4 hb5 (Nat.le_refl _)) hsz3)
                  have Hb5 := Lib.hid ((Hb3.out.trans (hb4.mono hsz3)).trans (hb5.mono (by omega)))
                  have Hrd5 := Lib.hid (rd_new w4 ([10#8].map V8) #[.int .u8 10] 5 rfl)
                  have hsb5 : w.heap.size ≤ (w4.alloc (.cells #[.int .u8 10] 5)).heap.size := by simp; omega
                  clear hown4 hb4 hb5 Hby
                  clear t4 hz2 hfa k1 hKn t5 hpk t6 q1 t7 r1
                  go_upto_region 27 with (at_builtin; refine wpList_append_rd rfl _ _ 27 rfl w.heap.size 5 i8 _ 1 descU8s H8.out h80 h81 h82 rfl _ e ((bs.take e).map V8) rfl Hown5.out _ (some ⟨w4.heap.size, 0, none⟩) 1 1 ([10#8].map V8) rfl rfl (by intro h; cases h) Hrd5.out (v8_one [10#8]) (by unfold maxLen; omega) (by omega) hsb5 ?_; intro v6 w6 hown6 hg6; obtain ⟨A6, cap6, rfl, hc6a, hc6b, _⟩ := own_form hown6; have Hown6 := Lib.hid hown6; have Hb6 := Lib.hid (Hb5.out.grown hg6 hsb5 fun x hx => (Hown5.out.lt x hx).1); have hsb6 := Hb6.out.size; have Hrd6 := Lib.hid (Hr1.out.below Hb6.out (Nat.le_refl _)); clear hown6 hg6)
                  go_wp2_with (at_builtin; refine wpList_append_rd rfl _ _ 27 rfl w.heap.size 5 i8 _ 1 descU8s H8.out h80 h81 h82 rfl _ (e + 1) ((bs.take e).map V8 ++ [10#8].map V8) rfl Hown6.out w.heap.size A1 n1 cap1 (tl.map V8) rfl (by rw [List.length_map]; exact Hn1.out) Hnil1.out Hrd6.out (v8_one tl) (by unfold maxLen; omega) (by omega) hsb6 ?_; intro v7 w7 hown7 hg7; obtain ⟨A7, cap7, rfl, hc7a, hc7b, _⟩ := own_form hown7; have Hown7 := Lib.hid hown7; have Hb7 := Lib.hid (Hb6.out.grown hg7 hsb6 fun x hx => (Hown6.out.lt x hx).1); clear hown7 hg7)
                  have ho7 := Hown7.out
                  rw [← List.map_append, ← List.map_append] at ho7
                  have hl7 : e + 1 + n1 = (bs.take e ++ [10#8] ++ tl).length := by rw [List.length_append, List.length_append, Het.out, ← Hn1.out]; rfl
                  have hp3 := Parse_calls A7 (e + 1 + n1) cap7 w7.heap.size (bs.take e ++ [10#8] ++ tl) w7 hl7 (by omega) hc7a (own_nil ho7) (Nat.le_refl _) (own_rd ho7)
                  unfold ParseSaid at hp3
                  obtain ⟨y1, y2, y3⟩ := parse_fault Hall2.out.1 Hall2.out.2 HE0.out
                  rw [y1, y2, y3, if_neg HE0.out] at hp3
                  have Hp3 := Lib.hid hp3
                  clear hp3 ho7 hl7 y1 y2 y3
                  go_wp2_with fail
                  refine (Hp3.out).mono ?_
                  rintro en w8 ⟨A8, cap8, rfl, hown8, hb8⟩
                  have Hb8 := Lib.hid (Hb7.out.trans (hb8.mono Hb7.out.size))
                  clear hown8 hb8
                  go_wp2_with (first | (go_at_call 19; refine (num_calls _ _).mono ?_; rintro en w9 ⟨rfl, rfl⟩))
                  go_ret
                  exact ⟨by simp, Hb8.out⟩
                | false =>
                  rw [hbg] at g1
                  have hpe : (Tx.all (bs.take f)).pEnd = [] := by unfold Tx.Run.pEnd; rw [g1]; rfl
                  rw [g1, hpe] at hp2
                  simp only [Bool.false_eq_true, if_false] at hp2
                  have hz := Tx.spokenN_none (Hsil.out hbg) 65537
                  rw [show (65537 : Int).toNat = 65537 from rfl, hz] at hsp2
                  have Hp2 := Lib.hid hp2; have Hsp2 := Lib.hid hsp2
                  clear hp2 hsp2 g1 g2 hbg Hsil hpe hz
                  go_wp2_with fail
                  refine (Hp2.out).mono ?_
                  rintro en w3a ⟨Al3, capl3, rfl, hown3, hb3⟩
                  have Hb3a := Lib.hid (Hb2.out.trans (hb3.mono Hb2.out.size))
                  clear hown3 hb3 Hp2
                  go_wp2_with (first | (go_at_call 19; refine (num_calls _ _).mono ?_; rintro en w9 ⟨rfl, rfl⟩))
                  refine (Hsp2.out w3a Hb3a.out).mono ?_
                  rintro en w3 ⟨rfl, hb3⟩
                  have Hb3 := Lib.hid (Hb3a.out.trans (hb3.mono Hb3a.out.size))
                  clear hb3 Hsp2
                  have het : (bs.take e).length = e := by simp; have := Hn.out; omega
                  have hby := bytes_calls _ e cap w.heap.size (bs.take e) w3 het.symm (by omega) (fun h => by first | (cases h; done) | exact ⟨by have := (Hnil.out h).1; omega, (Hnil.out h).2⟩) Hb3.out.size (rd_take e (Hr.out.below Hb3.out (Nat.le_refl _)))
                  have Hby := Lib.hid hby
                  have Het := Lib.hid het
                  obtain ⟨i8, h8, h80, h81, h82⟩ := info_parts infoU8
                  have H8 := Lib.hid h8
                  have hsz3 := Hb3.out.size
                  clear hby het h8 hft hKi
                  go_wp2_with (first | (go_at_call 19; refine (num_calls _ _).mono ?_; rintro en w9 ⟨rfl, rfl⟩))
                  refine (Hby.out).mono ?_
                  rintro en w4 ⟨A4, cap4, rfl, hown4, hb4⟩
                  have hz4 := hb4.size
                  have hb5 : Below w4.heap.size w4 (w4.alloc (.cells #[.int .u8 10] 5)) := (Below.refl _ _).alloc (Nat.le_refl _) _
                  have Hown5 := Lib.hid (own_base (own_below hown4 hb5 (Nat.le_refl _)) hsz3)
                  have Hb5 := Lib.hid ((Hb3.out.trans (hb4.mono hsz3)).trans (hb5.mono (by omega)))
                  have Hrd5 := Lib.hid (rd_new w4 ([10#8].map V8) #[.int .u8 10] 5 rfl)
                  have hsb5 : w.heap.size ≤ (w4.alloc (.cells #[.int .u8 10] 5)).heap.size := by simp; omega
                  clear hown4 hb4 hb5 Hby
                  clear t4 hz2 hfa k1 hKn t5 hpk t6 q1 t7 r1
                  go_upto_region 27 with (at_builtin; refine wpList_append_rd rfl _ _ 27 rfl w.heap.size 5 i8 _ 1 descU8s H8.out h80 h81 h82 rfl _ e ((bs.take e).map V8) rfl Hown5.out _ (some ⟨w4.heap.size, 0, none⟩) 1 1 ([10#8].map V8) rfl rfl (by intro h; cases h) Hrd5.out (v8_one [10#8]) (by unfold maxLen; omega) (by omega) hsb5 ?_; intro v6 w6 hown6 hg6; obtain ⟨A6, cap6, rfl, hc6a, hc6b, _⟩ := own_form hown6; have Hown6 := Lib.hid hown6; have Hb6 := Lib.hid (Hb5.out.grown hg6 hsb5 fun x hx => (Hown5.out.lt x hx).1); have hsb6 := Hb6.out.size; have Hrd6 := Lib.hid (Hr1.out.below Hb6.out (Nat.le_refl _)); clear hown6 hg6)
                  go_wp2_with (at_builtin; refine wpList_append_rd rfl _ _ 27 rfl w.heap.size 5 i8 _ 1 descU8s H8.out h80 h81 h82 rfl _ (e + 1) ((bs.take e).map V8 ++ [10#8].map V8) rfl Hown6.out w.heap.size A1 n1 cap1 (tl.map V8) rfl (by rw [List.length_map]; exact Hn1.out) Hnil1.out Hrd6.out (v8_one tl) (by unfold maxLen; omega) (by omega) hsb6 ?_; intro v7 w7 hown7 hg7; obtain ⟨A7, cap7, rfl, hc7a, hc7b, _⟩ := own_form hown7; have Hown7 := Lib.hid hown7; have Hb7 := Lib.hid (Hb6.out.grown hg7 hsb6 fun x hx => (Hown6.out.lt x hx).1); clear hown7 hg7)
                  have ho7 := Hown7.out
                  rw [← List.map_append, ← List.map_append] at ho7
                  have hl7 : e + 1 + n1 = (bs.take e ++ [10#8] ++ tl).length := by rw [List.length_append, List.length_append, Het.out, ← Hn1.out]; rfl
                  have hp3 := Parse_calls A7 (e + 1 + n1) cap7 w7.heap.size (bs.take e ++ [10#8] ++ tl) w7 hl7 (by omega) hc7a (own_nil ho7) (Nat.le_refl _) (own_rd ho7)
                  unfold ParseSaid at hp3
                  obtain ⟨y1, y2, y3⟩ := parse_fault Hall2.out.1 Hall2.out.2 HE0.out
                  rw [y1, y2, y3, if_neg HE0.out] at hp3
                  have Hp3 := Lib.hid hp3
                  clear hp3 ho7 hl7 y1 y2 y3
                  go_wp2_with fail
                  refine (Hp3.out).mono ?_
                  rintro en w8 ⟨A8, cap8, rfl, hown8, hb8⟩
                  have Hb8 := Lib.hid (Hb7.out.trans (hb8.mono Hb7.out.size))
                  clear hown8 hb8
                  go_wp2_with (first | (go_at_call 19; refine (num_calls _ _).mono ?_; rintro en w9 ⟨rfl, rfl⟩))
                  go_ret
                  exact ⟨by simp, Hb8.out⟩
theorem fault_row (A : Option Addr) (n cap : Nat) (bs : List (BitVec 8)) (A1 : Option Addr) (n1 cap1 : Nat) (tl : List (BitVec 8)) (w : World) (h : In8 w A n cap bs) (h1 : In8 w A1 n1 cap1 tl) (ht : True) :
    Calls Tryd.prog 9 #[.slice A n cap, .slice A1 n1 cap1] w fun e w' => e = .returned (.bool true) ∧ Below w.heap.size w w' :=
  law_fault A n cap bs A1 n1 cap1 tl w h.1 h.2.1 h.2.2.1 h.2.2.2.1 h.2.2.2.2 h1.1 h1.2.1 h1.2.2.1 h1.2.2.2.1 h1.2.2.2.2
end Go.Proofs.YtgoobadkbndfgaaDoor
