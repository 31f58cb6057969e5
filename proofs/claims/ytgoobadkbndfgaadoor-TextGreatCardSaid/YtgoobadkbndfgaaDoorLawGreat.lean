/- TextGreat (under way) -/
import Derived.Test.YtgoobadkbndfgaaDoorTxAc
import Derived.Test.YtgoobadkbndfgaaDoorLawPrC
import Derived.Test.YtgoobadkbndfgaaDoorStepA
import Derived.Test.YtgoobadkbndfgaaDoorLiftL
import Derived.Deep.DeepCutAuto
namespace Go.Proofs.YtgoobadkbndfgaaDoor
open Go.RowKit Go.ChangeShapes Go.WideShapes Go.ChangeAt
set_option linter.unusedSimpArgs false
set_option linter.unusedVariables false
theorem rd_past {w : World} {B bk off : Nat} {bs : List (BitVec 8)} (T : Nat) (h : Rd w B (some ⟨bk, off, none⟩) (bs.map V8)) : Rd w B (some ⟨bk, off + T, none⟩) ((bs.drop T).map V8) := by
  intro j v hv
  rw [List.getElem?_map, List.getElem?_drop] at hv
  obtain ⟨b, o, hae, hb, hcell⟩ := h (T + j) v (by rw [List.getElem?_map]; exact hv)
  injection hae with hae; injection hae with e1 e2; subst e1 e2
  exact ⟨bk, off + T, rfl, hb, by rw [Nat.add_assoc]; exact hcell⟩
set_option maxHeartbeats 8000000 in
set_option maxRecDepth 20000 in
theorem law_great (n v : Int) (w : World) (hn0 : -9223372036854775808 ≤ n) (hn1 : n ≤ 9223372036854775807) (hv0 : -9223372036854775808 ≤ v) (hv1 : v ≤ 9223372036854775807) (ht : Pow w.heap.size w) :
    Calls Tryd.prog 11 #[.int .i64 n, .int .i64 v] w fun e w' => e = .returned (.bool true) ∧ Below w.heap.size w w' := by
  have Ht := Lib.hid ht
  clear ht
  go_enter Tryd.func11, Tryd.ntmps11
  go_wp2_with fail
  refine (first_calls w).mono ?_
  rintro en w1 ⟨rfl, hb1⟩
  have hz1 := hb1.size
  have Hb1 := Lib.hid hb1
  clear hb1
  by_cases g1 : n < 1
  · go_wp2_with fail
    go_ret
    exact ⟨rfl, Hb1.out⟩
  · by_cases g2 : 16777216 < n
    · go_wp2_with fail
      go_ret
      exact ⟨rfl, Hb1.out⟩
    · by_cases g3 : v < 0
      · go_wp2_with fail
        go_ret
        exact ⟨rfl, Hb1.out⟩
      · have hR : Tx.printF n [] = (Tx.rowF Tx.vertices [n], 0) := by unfold Tx.printF; rw [if_neg (by omega)]; rfl
        have hpr := Print_calls n none 0 0 w1.heap.size [] w1 hn0 hn1 rfl (by omega) (Nat.le_refl _) (Rd.nil _ _ _) (by simp) (Pow.mono' (Ht.out.on Hb1.out) hz1)
        rw [hR] at hpr
        have Hpr := Lib.hid hpr
        have hbl : 0 < (Tx.rowF Tx.vertices [n]).length := by rw [Tx.rowF_first]; simp; omega
        have hbl2 : (Tx.rowF Tx.vertices [n]).length ≤ 100 := by
          have hd := Lib.itoa_length_le n hn0 hn1
          rw [← Tx.digs_length] at hd
          rw [Tx.rowF_first]
          have : Tx.vertices.length = 8 := rfl
          simp; omega
        obtain ⟨b, hb⟩ : ∃ b, b = Tx.rowF Tx.vertices [n] := ⟨_, rfl⟩
        rw [← hb] at Hpr hbl hbl2
        have Hbe := Lib.hid hb
        clear hpr hR hb
        go_wp2_with fail
        refine (Hpr.out).mono ?_
        rintro en w2 ⟨A2, cap2, rfl, hown2, hb2⟩
        have hz2 := hb2.size
        have hb3 : Below w2.heap.size w2 (w2.alloc (.cells #[.int .i64 0, .int .i64 v, .bool false] 26)) := (Below.refl _ _).alloc (Nat.le_refl _) _
        have Hown3 := Lib.hid (own_below hown2 hb3 (Nat.le_refl _))
        have Hb3 := Lib.hid (Hb1.out.trans ((hb2.mono hz1).trans (hb3.mono (by omega))))
        have hz3 : (w2.alloc (.cells #[.int .i64 0, .int .i64 v, .bool false] 26)).heap.size = w2.heap.size + 1 := by simp
        have hpc := PrintChanges_calls (some ⟨w2.heap.size, 0, none⟩) 1 1 (w2.heap.size + 1) [⟨0, v, false, 0⟩] (w2.alloc (.cells #[.int .i64 0, .int .i64 v, .bool false] 26)) rfl (by omega) (by rw [hz3]; omega) (rd_new w2 [.int .i64 0, .int .i64 v, .bool false] _ _ rfl) (by intro p hp; simp at hp; subst hp; dsimp only; omega) (Pow.mono' (Ht.out.on Hb3.out) Hb3.out.size)
        by_cases hbig : 2147483647 < v
        · have hp : Tx.pcF [] [⟨0, v, false, 0⟩] = ([], 42) := Tx.pcF_bad _ _ ⟨_, List.mem_cons_self, by unfold Tx.badC; dsimp only; omega⟩
          rw [hp] at hpc
          have Hpc := Lib.hid hpc
          have q1 : ((b.length : Int) == 0) = false := by
            rw [beq_eq_false_iff_ne]; omega
          clear hpc hp hown2 hb2 hb3
          go_wp2_with fail
          refine (Hpc.out).mono ?_
          rintro en w5 ⟨A5, cap5, rfl, hown5, hb5⟩
          have Hb5 := Lib.hid (Hb3.out.trans (hb5.mono Hb3.out.size))
          clear hown5 hb5 Hpc
          go_wp2_with (go_at_call 19; refine (num_calls _ _).mono ?_; rintro en wC ⟨rfl, rfl⟩)
          go_ret
          exact ⟨by simp, Hb5.out⟩
        · have hgood : ∀ c ∈ ([⟨0, v, false, 0⟩] : List Tx.Ch), ¬ Tx.badC c := by intro c hc; simp at hc; subst hc; unfold Tx.badC; dsimp only; omega
          have hp : Tx.pcF [] [⟨0, v, false, 0⟩] = ([43#8, 32#8] ++ (Tx.digs 0 ++ [32#8] ++ Tx.digs v ++ [10#8]), 0) := by
            rw [Tx.pcF_ok _ _ hgood]; simp [Tx.textC, Tx.lineC, Tx.sign]
          have hpi := (Tx.back_pieces [⟨0, v, false, 0⟩] (by rw [hp])).1
          rw [hp] at hpc hpi
          have Hpc := Lib.hid hpc
          obtain ⟨c, hc⟩ : ∃ c, c = [43#8, 32#8] ++ (Tx.digs 0 ++ [32#8] ++ Tx.digs v ++ [10#8]) := ⟨_, rfl⟩
          rw [← hc] at Hpc hpi
          have hd0 : (Tx.digs 0).length = 1 := by decide +kernel
          have hdv := Lib.itoa_length_le v hv0 hv1
          rw [← Tx.digs_length] at hdv
          have hdv1 : 0 < (Tx.digs v).length := List.length_pos_iff.2 (Tx.digs_clean v (by omega)).1
          have hcl : c.length = 5 + (Tx.digs v).length := by rw [hc]; simp; omega
          have hcl2 : c.length ≤ 100 := by omega
          have Hc := Lib.hid hc
          have q1 : ((b.length : Int) == 0) = false := by
            rw [beq_eq_false_iff_ne]; omega
          have q2 : ¬ (c.length : Int) < 5 := by omega
          clear hpc hp hown2 hb2 hb3 hc hcl hd0 hdv hdv1
          go_wp2_with fail
          refine (Hpc.out).mono ?_
          rintro en w5 ⟨A5, cap5, rfl, hown5, hb5⟩
          dsimp only at hown5 ⊢
          have hz5 := hb5.size
          rw [hz3] at hz5
          have Hb5 := Lib.hid (Hb3.out.trans (hb5.mono Hb3.out.size))
          have Hb35 := Lib.hid hb5
          have Hown5 := Lib.hid hown5
          clear hb5 hown5 Hpc
          have Hch := Lib.hid (Changes_calls A5 c.length cap5 w5.heap.size c n w5 rfl (by omega) (own_cap Hown5.out).1 (own_cap Hown5.out).2 (own_nil Hown5.out) (Nat.le_refl _) (own_rd Hown5.out))
          rw [hpi] at Hch
          have hgx : ∃ E : Int, (Tx.chRun n ([⟨0, v, false, 0⟩].map Tx.lineC ++ [[]])).e = E ∧ E = (if n ≤ v then 42 else 0) := by
            refine ⟨_, rfl, ?_⟩
            by_cases h : n ≤ v
            · rw [if_pos h]
              exact (Tx.chRun_first n [⟨0, v, false, 0⟩] 0 _ hgood rfl (Or.inr h) (fun j c hj => by omega)).1
            · rw [if_neg h]
              exact (Tx.chRun_all n [⟨0, v, false, 0⟩] hgood (fun c hc => by simp at hc; subst hc; dsimp only; omega)).1
          obtain ⟨E, hE, hE2⟩ := hgx
          unfold ChangesSaid at Hch
          rw [hE] at Hch
          obtain ⟨L, hL⟩ : ∃ x, x = (Tx.chRun n ([⟨0, v, false, 0⟩].map Tx.lineC ++ [[]])).line := ⟨_, rfl⟩
          rw [← hL] at Hch
          clear hL hE hpi hgood
          go_upto_if 80 with (go_at_call 19; refine (num_calls _ _).mono ?_; rintro en wC ⟨rfl, rfl⟩)
          go_cut [10] (fun s w' => s = .int .i64 E ∧ w5 = w')
          case first =>
            by_cases h : n ≤ v
            · rw [if_pos h] at hE2
              subst hE2
              go_wp2_with fail
              go_meet
              exact ⟨rfl, rfl⟩
            · rw [if_neg h] at hE2
              subst hE2
              go_wp2_with fail
              go_meet
              exact ⟨rfl, rfl⟩
          case rest =>
            obtain ⟨rfl, rfl⟩ := hcut
            have HE2 := Lib.hid hE2
            clear hE2
            go_wp2_with fail
            refine (Hch.out).mono ?_
            rintro en w6 ⟨A6, cap6, rfl, hown6, hb6⟩
            have hz6 := hb6.size
            have Hb6 := Lib.hid (Hb5.out.trans (hb6.mono Hb5.out.size))
            have hrb := ((own_rd Hown3.out).below Hb35.out (Nat.le_refl _)).below hb6 (by omega)
            have hrc := (own_rd Hown5.out).below hb6 (Nat.le_refl _)
            have Hrb := Lib.hid hrb; have Hrc := Lib.hid hrc
            clear hrb hrc hb6 hown6 Hch
            go_wp2_with fail
            have hst : (True ∧ True) ∧ True ∧ Below w6.heap.size w6 w6 := ⟨⟨trivial, trivial⟩, trivial, Below.refl _ _⟩
            have hcc : c.length ≤ cap5 := (own_cap Hown5.out).1
            have hi1 : (c.length : Int) ≤ (cap5 : Int) := by omega
            have hi2 : (2 : Int) ≤ (c.length : Int) := by omega
            have hi3 : (2 : Int) ≤ (cap5 : Int) := by omega
            have hi4 : ¬ cap5 = 2 := by omega
            have hi5 : (cap5 : Int) ≤ 9223372036854775807 := by have := (own_cap Hown5.out).2; unfold maxLen at this; omega
            obtain ⟨bk, hbk⟩ : ∃ g, A5 = some ⟨g, 0, none⟩ := by
              rcases Hown5.out.2 with ⟨h3, h4⟩ | ⟨g, _, _, h3, _⟩
              · omega
              · injection h3 with h3; exact ⟨g, h3⟩
            subst hbk
            obtain ⟨i8, h8, h80, h81, h82⟩ := info_parts infoU8
            have H8 := Lib.hid h8
            clear h8
            have hrd2 := rd_past 2 Hrc.out
            rw [Nat.zero_add] at hrd2
            have Hrd2 := Lib.hid (hrd2.more hz6)
            have hl2 : c.length - 2 = ((c.drop 2).map V8).length := by rw [List.length_map, List.length_drop]
            have Hl2 := Lib.hid hl2
            clear hrd2 hl2
            go_region_held3 (fun w' => (True ∧ True) ∧ True ∧ Below w6.heap.size w6 w')
              ((rename (_ ∧ _) ∧ _ ∧ Below _ _ _ => hS; first
                | exact hS
                | exact ⟨hS.1, hS.2.1, hS.2.2.trans (Below.refl _ _).drew⟩
                | exact ⟨hS.1, hS.2.1, hS.2.2.trans (Below.mono (by assumption) hS.2.2.size)⟩))
              ((first | (go_at_call 26; rename (_ ∧ _) ∧ _ ∧ Below _ _ _ => hS; refine (bytes_calls A2 b.length cap2 w6.heap.size b _ rfl (by omega) (fun hx => (own_nil Hown3.out hx)) hS.2.2.size ((Hrb.out.more (by omega)).below hS.2.2 (Nat.le_refl _))).mono ?_; rintro e w' ⟨A', cap', rfl, hown, hb⟩; have Hob := Lib.hid (own_base hown hS.2.2.size); have Hbb := Lib.hid (hS.2.2.trans (hb.mono hS.2.2.size)); have hS9 : (True ∧ True) ∧ True ∧ Below w6.heap.size w6 w' := ⟨⟨trivial, trivial⟩, trivial, Hbb.out⟩; clear hown hb) | (rename (_ ∧ _) ∧ _ ∧ Below _ _ _ => hS; refine step_append_rd rfl (.tmp 89) (.tmp 91) 27 rfl w6.heap.size 5 i8 (.int .u8 0) 1 descU8s H8.out h80 h81 h82 rfl (.slice A' b.length cap') b.length (b.map V8) rfl Hob.out w6.heap.size (some ⟨bk, 2, none⟩) (c.length - 2) (cap5 - 2) ((c.drop 2).map V8) rfl Hl2.out (by intro h; cases h) (Hrd2.out.below hS.2.2 (Nat.le_refl _)) (v8_one _) (by unfold maxLen; omega) (by omega) hS.2.2.size ?_; intro v9 w9 hown9 hg9; have hS9 : (True ∧ True) ∧ True ∧ Below w6.heap.size w6 w9 := ⟨⟨trivial, trivial⟩, trivial, hS.2.2.grown hg9.out hS.2.2.size (fun x hx => (Hob.out.lt x hx).1)⟩)))
            clear hst
            have hS := hS9
            obtain ⟨A9, cap9, rfl, hc9a, hc9b, _⟩ := own_form hown9.out
            have ho9 := hown9.out
            rw [← List.map_append] at ho9
            have hl9 : b.length + (c.length - 2) = (b ++ c.drop 2).length := by rw [List.length_append, List.length_drop]
            have hb9 := Hb6.out.trans (hS.2.2.mono Hb6.out.size)
            have hp9 := Parse_calls A9 (b.length + (c.length - 2)) cap9 w9.heap.size (b ++ c.drop 2) w9 hl9 (by omega) hc9a (own_nil ho9) (Nat.le_refl _) (own_rd ho9)
            unfold ParseSaid at hp9
            have hd0v : Tx.digs 0 = [48#8] := by decide +kernel
            have hcd2 : c.drop 2 = (Tx.digs 0 ++ [32#8] ++ Tx.digs v) ++ [10#8] := by rw [Hc.out]; rfl
            have hcd4 : c.drop 4 = Tx.digs v ++ [10#8] := by rw [Hc.out, hd0v]; rfl
            have hnl1 : Tx.noNl (Tx.digs 0 ++ [32#8] ++ Tx.digs v) := Tx.noNl_append (Tx.noNl_append (Tx.digs_noNl 0 (by omega)) Tx.noNl_blank) (Tx.digs_noNl v (by omega))
            have hall1 : (Tx.all (b ++ c.drop 2)).eEnd = E ∧ (Tx.all (b ++ c.drop 2)).fEnd 0 0 = (if n ≤ v then 2 else 0) := by
              rw [Hbe.out, hcd2, Tx.all_one n _ (by omega) (by omega) hnl1, Tx.scan_zero_v n v (by omega) (by omega) (by omega), HE2.out]
              by_cases h : n ≤ v
              · simp [h, Tx.Run.eEnd, Tx.Run.fEnd]
              · simp [h, Tx.Run.eEnd, Tx.Run.fEnd]
            rw [hall1.1, hall1.2] at hp9
            generalize (Tx.all (b ++ c.drop 2)).pEnd = PE9 at *
            generalize (if E = 0 then (Tx.all (b ++ c.drop 2)).n else 0) = M9 at *
            obtain ⟨F9, hF9⟩ : ∃ F, F = (if n ≤ v then (2 : Int) else 0) := ⟨_, rfl⟩
            rw [← hF9] at hp9
            have hall2 : (Tx.all (b ++ [48#8, 32#8, 48#8] ++ c.drop 4)).e = 40 ∧ (Tx.all (b ++ [48#8, 32#8, 48#8] ++ c.drop 4)).k = 2 := by
              have hl2 : [48#8, 32#8, 48#8] ++ c.drop 4 = (Tx.digs 0 ++ [32#8] ++ (48#8 :: Tx.digs v)) ++ [10#8] := by rw [hcd4, hd0v]; rfl
              have hnl2 : Tx.noNl (Tx.digs 0 ++ [32#8] ++ (48#8 :: Tx.digs v)) := Tx.noNl_append (Tx.noNl_append (Tx.digs_noNl 0 (by omega)) Tx.noNl_blank) (Tx.noNl_append (a := [48#8]) (by intro c hc; simp at hc; subst hc; decide) (Tx.digs_noNl v (by omega)))
              rw [List.append_assoc, hl2, Hbe.out, Tx.all_one n _ (by omega) (by omega) hnl2, Tx.scan_zero_zero n v (by omega)]
              exact ⟨rfl, rfl⟩
            have Hp9 := Lib.hid hp9; have HF9 := Lib.hid hF9; have Hall2 := Lib.hid hall2; have Hb9 := Lib.hid hb9; have HS9 := Lib.hid hS.2.2
            have hcd4l : (c.drop 4).length = c.length - 4 := by rw [List.length_drop]
            have Hcd4l := Lib.hid hcd4l
            have hi6 : (4 : Int) ≤ (c.length : Int) := by omega
            have hi7 : (4 : Int) ≤ (cap5 : Int) := by omega
            have hi8 : ¬ cap5 = 4 := by omega
            clear hp9 hF9 hall1 hall2 hb9 hS hS9 hown9 hg9 ho9 hl9 hd0v hcd2 hcd4 hnl1 hcd4l
            have hz9 := HS9.out.size
            (try simp only [Exit.then])
            go_wp2_with fail
            refine (Hp9.out).mono ?_
            rintro en wA ⟨AA, capA, rfl, hownA, hbA⟩
            have hzA := hbA.size
            have HSA := Lib.hid (HS9.out.trans (hbA.mono hz9))
            have HbA := Lib.hid (Hb9.out.trans (hbA.mono Hb9.out.size))
            clear hownA hbA
            go_wp2_with fail
            refine (bytes_calls A2 b.length cap2 w6.heap.size b wA rfl (by omega) (fun hx => (own_nil Hown3.out hx)) HSA.out.size ((Hrb.out.more (by omega)).below HSA.out (Nat.le_refl _))).mono ?_
            rintro en wB ⟨AB, capB, rfl, hownB, hbB⟩
            have hzB := hbB.size
            have hbC : Below wB.heap.size wB (wB.alloc (.cells #[.int .u8 48, .int .u8 32, .int .u8 48] 5)) := (Below.refl _ _).alloc (Nat.le_refl _) _
            have hsA := HSA.out.size
            have HownC := Lib.hid (own_base (own_below hownB hbC (Nat.le_refl _)) hsA)
            have HSC := Lib.hid ((HSA.out.trans (hbB.mono hsA)).trans (hbC.mono (by omega)))
            have HbC := Lib.hid ((HbA.out.trans (hbB.mono HbA.out.size)).trans (hbC.mono (by have := HbA.out.size; omega)))
            have HrdC := Lib.hid (rd_new wB ([48#8, 32#8, 48#8].map V8) #[.int .u8 48, .int .u8 32, .int .u8 48] 5 rfl)
            have hsC := HSC.out.size
            have hrd4 := rd_past 4 Hrc.out
            rw [Nat.zero_add] at hrd4
            have Hrd4 := Lib.hid (hrd4.more hz6)
            have hl4 : c.length - 4 = ((c.drop 4).map V8).length := by rw [List.length_map, List.length_drop]
            have Hl4 := Lib.hid hl4
            clear hownB hbB hbC hrd4 hl4
            go_upto_region 19 with (at_builtin; refine wpList_append_rd rfl _ _ 27 rfl w6.heap.size 5 i8 _ 1 descU8s H8.out h80 h81 h82 rfl _ b.length (b.map V8) rfl HownC.out _ (some ⟨wB.heap.size, 0, none⟩) 3 3 ([48#8, 32#8, 48#8].map V8) rfl rfl (by intro h; cases h) HrdC.out (v8_one [48#8, 32#8, 48#8]) (by unfold maxLen; omega) (by omega) hsC ?_; intro vD wD hownD hgD; obtain ⟨AD, capD, rfl, hcDa, hcDb, _⟩ := own_form hownD; have HownD := Lib.hid hownD; have HSD := Lib.hid (HSC.out.grown hgD hsC fun x hx => (HownC.out.lt x hx).1); have HbD := Lib.hid (HbC.out.grown hgD HbC.out.size fun x hx => by have := (HownC.out.lt x hx).1; have := Hb6.out.size; omega); have hsD := HSD.out.size; have HrdD := Lib.hid (Hrd4.out.below HSD.out (Nat.le_refl _)); clear hownD hgD)
            go_wp2_with (at_builtin; refine wpList_append_rd rfl _ _ 27 rfl w6.heap.size 5 i8 _ 1 descU8s H8.out h80 h81 h82 rfl _ (b.length + 3) (b.map V8 ++ [48#8, 32#8, 48#8].map V8) rfl HownD.out w6.heap.size (some ⟨bk, 4, none⟩) (c.length - 4) (cap5 - 4) ((c.drop 4).map V8) rfl Hl4.out (by intro h; cases h) HrdD.out (v8_one _) (by unfold maxLen; omega) (by omega) hsD ?_; intro vE wE hownE hgE; obtain ⟨AE, capE, rfl, hcEa, hcEb, _⟩ := own_form hownE; have HownE := Lib.hid hownE; have HbE := Lib.hid (HbD.out.grown hgE HbD.out.size fun x hx => by have := (HownD.out.lt x hx).1; have := Hb6.out.size; omega); clear hownE hgE)
            have hoE := HownE.out
            rw [← List.map_append, ← List.map_append] at hoE
            have hlE : b.length + 3 + (c.length - 4) = (b ++ [48#8, 32#8, 48#8] ++ c.drop 4).length := by rw [List.length_append, List.length_append, List.length_drop]; rfl
            have hpE := Parse_calls AE (b.length + 3 + (c.length - 4)) capE wE.heap.size (b ++ [48#8, 32#8, 48#8] ++ c.drop 4) wE hlE (by omega) hcEa (own_nil hoE) (Nat.le_refl _) (own_rd hoE)
            unfold ParseSaid at hpE
            have y1 : (Tx.all (b ++ [48#8, 32#8, 48#8] ++ c.drop 4)).eEnd = 40 := by unfold Tx.Run.eEnd; rw [Hall2.out.1]; rfl
            have y2 : (Tx.all (b ++ [48#8, 32#8, 48#8] ++ c.drop 4)).fEnd 0 0 = 2 := by unfold Tx.Run.fEnd; rw [Hall2.out.1, Hall2.out.2]; rfl
            rw [y1, y2] at hpE
            generalize (Tx.all (b ++ [48#8, 32#8, 48#8] ++ c.drop 4)).pEnd = PEE at *
            generalize (if (40 : Int) = 0 then (Tx.all (b ++ [48#8, 32#8, 48#8] ++ c.drop 4)).n else 0) = ME at *
            have HpE := Lib.hid hpE
            clear hpE hoE hlE y1 y2 Hall2
            go_wp2_with fail
            refine (HpE.out).mono ?_
            rintro en wF ⟨AF, capF, rfl, hownF, hbF⟩
            have HbF := Lib.hid (HbE.out.trans (hbF.mono HbE.out.size))
            clear hownF hbF HpE
            have hE2 := HE2.out; have hF9 := HF9.out
            by_cases h : n ≤ v
            · rw [if_pos h] at hE2 hF9
              subst hE2 hF9
              clear h
              go_wp2_with (go_at_call 19; refine (num_calls _ _).mono ?_; rintro en w99 ⟨rfl, rfl⟩)
              go_ret
              exact ⟨rfl, HbF.out⟩
            · rw [if_neg h] at hE2 hF9
              subst hE2 hF9
              clear h
              go_wp2_with (go_at_call 19; refine (num_calls _ _).mono ?_; rintro en w99 ⟨rfl, rfl⟩)
              go_ret
              exact ⟨rfl, HbF.out⟩
theorem great_row (n v : Int) (w : World) (hn : (Lit.int .i64 n).wf = true) (hv : (Lit.int .i64 v).wf = true) (ht : Pow w.heap.size w) :
    Calls Tryd.prog 11 #[.int .i64 n, .int .i64 v] w fun e w' => e = .returned (.bool true) ∧ Below w.heap.size w w' :=
  law_great n v w (bounds_i64 hn).1 (bounds_i64 hn).2 (bounds_i64 hv).1 (bounds_i64 hv).2 ht
end Go.Proofs.YtgoobadkbndfgaaDoor
