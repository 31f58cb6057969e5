/- pithref1's number and Int -/
import Derived.Test.YtkohakogknodeaaVRdr
namespace Go.Proofs.Ytkohakogknodeaa
open Go.RowKit
set_option linter.unusedSimpArgs false
set_option linter.unusedVariables false
theorem n8_ge {c : BitVec 8} (h : 128 ≤ c.toNat) : (128 : Int) ≤ (n8 c : Int) := by unfold n8; omega
theorem n8_nge {c : BitVec 8} (h : c.toNat < 128) : ¬ (128 : Int) ≤ (n8 c : Int) := by unfold n8; omega
theorem rdr_set2 {T : TypeId} {W : World} {base g n cap at2 : Nat} {A : Option Addr} {bs : List (BitVec 8)} {a0 e0 : Value} {v1 er2 : Int} (hg : W.heap[g]? = some (.cells #[.slice A n cap, a0, e0] T (0, 0))) (hT : T ≠ 5)
    (ho : W.ownsRow base 5 1 (.slice A n cap) n (bs.map V8)) (hn : n = bs.length) (h2 : at2 ≤ n) (hb : base ≤ g) (hv : v1 = (at2 : Int)) :
    Upd g W ((W.setCell ⟨g, 2, none⟩ (.int .i64 er2)).setCell ⟨g, 1, none⟩ (.int .i64 v1)) ∧ RdrIs T ((W.setCell ⟨g, 2, none⟩ (.int .i64 er2)).setCell ⟨g, 1, none⟩ (.int .i64 v1)) base g A n cap bs at2 er2 := by
  have u : Upd g W ((W.setCell ⟨g, 2, none⟩ (.int .i64 er2)).setCell ⟨g, 1, none⟩ (.int .i64 v1)) := (Upd.setCell W 2 _).trans (Upd.setCell _ 1 _)
  refine ⟨u, ?_, own_type (cs := []) ho hg hT u, hn, h2, hb⟩
  have h1 := heap_set hg 2 (.int .i64 er2)
  have h2 := heap_set h1 1 (.int .i64 v1)
  rw [h2, hv]; rfl
set_option maxHeartbeats 4000000 in
set_option maxRecDepth 20000 in
theorem number_calls (g : Nat) (A : Option Addr) (n cap at0 at' base : Nat) (bs : List (BitVec 8)) (er : Int) (w : World) (hr : RdrIs 70 w base g A n cap bs at0 er) (hat : at' ≤ n) (hm : n ≤ 1099511627776) :
    Calls Try.prog 44 #[.pointer (some ⟨g, 0, none⟩), .int .i64 (at' : Int)] w fun e w' => e = .returned (.tuple #[.int .i64 (Vi.numX (bs.drop at') : Int), .int .i64 ((at' + Vi.numN (bs.drop at') : Nat) : Int), .int .i64 (Vi.numE (bs.drop at'))]) ∧ w = w' := by
  obtain ⟨hg, hown, hn, _, hbg⟩ := hr
  have c0 : w.cell? ⟨g, 0, none⟩ = some (.slice A n cap) := by rw [cell_heap hg]; rfl
  obtain ⟨o1, o2⟩ := own_cap hown
  have Hown := Lib.hid hown; have Hn := Lib.hid hn
  unfold maxLen at o2
  obtain ⟨D, hD⟩ : ∃ D, D = bs.drop at' := ⟨_, rfl⟩
  have HDl := Lib.hid (show D.length = n - at' by rw [hD, List.length_drop, ← hn])
  rw [← hD]
  have Hget := Lib.hid (show ∀ k c, D[k]? = some c → ∃ blk, A = some ⟨blk, 0, none⟩ ∧ w.cell? ⟨blk, at' + k, none⟩ = some (V8 c) from fun k c hk => by
    rw [hD, List.getElem?_drop] at hk
    obtain ⟨b, off, e, _, hc⟩ := own_rd hown (at' + k) (V8 c) (by rw [List.getElem?_map, hk]; rfl)
    rcases hown.2 with ⟨h, _⟩ | ⟨b2, _, _, h, _⟩
    · injection h with h; rw [h] at e; cases e
    · injection h with h; rw [h] at e; injection e with e; injection e with e1 e2; subst e1; subst e2
      exact ⟨b2, h, by rw [Nat.zero_add] at hc; exact hc⟩)
  clear hg hown hn hD
  go_enter Try.func44, Try.ntmps44
  by_cases hhead : D.head? = some 128#8
  · obtain ⟨c, hc⟩ : ∃ c, D[0]? = some c := ⟨128#8, by rw [← List.head?_eq_getElem?]; exact hhead⟩
    have hc128 : c = 128#8 := by rw [← List.head?_eq_getElem?, hhead] at hc; injection hc with hc; exact hc.symm
    obtain ⟨blk, rfl, hcell⟩ := Hget.out 0 c hc
    rw [Nat.add_zero] at hcell
    have hlt : (at' : Int) < (n : Int) := by
      have := (List.getElem?_eq_some_iff.1 hc).1; rw [HDl.out] at this; omega
    have hb : ((n8 c : Int) == 128) = true := by rw [hc128]; rfl
    obtain ⟨e1, e2, e3⟩ := Vi.num_min hhead
    have E1 := Lib.hid e1; have E2 := Lib.hid e2; have E3 := Lib.hid e3
    clear e1 e2 e3 hhead hc hc128
    go_wp2_with fail
    go_ret3
    exact ⟨by rw [E1.out, E2.out, E3.out]; rfl, rfl⟩
  · have Hhead := Lib.hid hhead
    clear hhead
    go_upto_region 1 with fail
    go_cut [26] (fun s w' => s = .bool false ∧ w = w')
    case first =>
      by_cases hlt : at' < n
      · have q1 : (at' : Int) < (n : Int) := by omega
        obtain ⟨c, hc⟩ : ∃ c, D[0]? = some c := ⟨D[0]'(by rw [HDl.out]; omega), List.getElem?_eq_getElem _⟩
        obtain ⟨blk, rfl, hcell⟩ := Hget.out 0 c hc
        rw [Nat.add_zero] at hcell
        have hb : ((n8 c : Int) == 128) = false := by
          rw [beq_eq_false_iff_ne]; intro h; apply Hhead.out; rw [List.head?_eq_getElem?, hc]; congr 1; exact n8_inj (by show n8 c = 128; omega)
        clear hc
        go_wp2_with fail
        go_meet
        exact ⟨rfl, rfl⟩
      · have q1 : ¬ (at' : Int) < (n : Int) := by omega
        go_wp2_with fail
        go_meet
        exact ⟨rfl, rfl⟩
    case rest =>
      obtain ⟨rfl, rfl⟩ := hcut
      go_upto_block 0 with fail
      go_cut [7] (fun s w' => ∃ k : Nat, s = .int .i64 (k : Int) ∧ k ≤ 9 ∧ at' + k ≤ n ∧ Vi.Lead D k ∧ (k = 9 ∨ at' + k = n ∨ ∃ c, D[k]? = some c ∧ c.toNat < 128) ∧ w = w')
      case first =>
        go_wp2_with fail
        go_loopw [7] (fun s wr => ∃ k : Nat, s = .int .i64 (k : Int) ∧ k ≤ 9 ∧ at' + k ≤ n ∧ Vi.Lead D k ∧ w = wr) (fun s _ => 9 - (intOf s).toNat)
        case atStart => exact ⟨0, rfl, by omega, by omega, Vi.Lead.zero _, rfl⟩
        case round =>
          obtain ⟨k, rfl, hk, hak, hL, rfl⟩ := hrel
          have HL := Lib.hid hL; clear hL
          by_cases hk9 : k < 9
          · have q1 : (k : Int) < 9 := by omega
            by_cases hlt : at' + k < n
            · have q2 : (at' : Int) + (k : Int) < (n : Int) := by omega
              obtain ⟨c, hc⟩ : ∃ c, D[k]? = some c := ⟨D[k]'(by rw [HDl.out]; omega), List.getElem?_eq_getElem _⟩
              obtain ⟨blk, rfl, hcell⟩ := Hget.out k c hc
              by_cases hb : 128 ≤ c.toNat
              · have q3 := n8_ge hb
                have HL2 := Lib.hid (HL.out.step hc hb)
                clear hc hb
                go_wp2_with fail
                exact ⟨⟨k + 1, by congr 1, by omega, by omega, HL2.out, trivial⟩, by simp [intOf]; omega⟩
              · have q3 := n8_nge (show c.toNat < 128 by omega)
                have Hc := Lib.hid hc
                clear hc
                go_wp2_with fail
                go_meet
                exact ⟨k, rfl, hk, hak, HL.out, Or.inr (Or.inr ⟨c, Hc.out, by omega⟩), rfl⟩
            · have q2 : ¬ (at' : Int) + (k : Int) < (n : Int) := by omega
              go_wp2_with fail
              go_meet
              exact ⟨k, rfl, hk, hak, HL.out, Or.inr (Or.inl (by omega)), rfl⟩
          · have q1 : ¬ (k : Int) < 9 := by omega
            go_wp2_with fail
            go_meet
            exact ⟨k, rfl, hk, hak, HL.out, Or.inl (by omega), rfl⟩
      case rest =>
        obtain ⟨k, rfl, hk, hak, hL, hend, rfl⟩ := hcut
        have HL := Lib.hid hL; clear hL
        by_cases hk9 : k = 9
        · subst hk9
          obtain ⟨e1, e2, e3⟩ := Vi.Lead.wide HL.out Hhead.out
          have E1 := Lib.hid e1; have E2 := Lib.hid e2; have E3 := Lib.hid e3
          clear e1 e2 e3 hend
          go_wp2_with fail
          go_ret3
          exact ⟨by rw [E1.out, E2.out, E3.out]; rfl, rfl⟩
        · have q1 : ((k : Int) == 9) = false := by rw [beq_eq_false_iff_ne]; omega
          by_cases hz : at' + k = n
          · have hkl : k = D.length := by rw [HDl.out]; omega
            obtain ⟨e1, e2, e3⟩ := Vi.Lead.short (bs := D) (by rw [← hkl]; exact HL.out) (by rw [← hkl]; omega) Hhead.out
            have E1 := Lib.hid e1; have E2 := Lib.hid e2; have E3 := Lib.hid e3
            have q2 : ((at' : Int) + (k : Int) == (n : Int)) = true := by rw [beq_iff_eq]; omega
            clear e1 e2 e3 hend hkl hz
            go_wp2_with fail
            go_ret3
            exact ⟨by rw [E1.out, E2.out, E3.out]; rfl, rfl⟩
          · have q2 : ((at' : Int) + (k : Int) == (n : Int)) = false := by rw [beq_eq_false_iff_ne]; omega
            obtain ⟨c, hc, hcb⟩ : ∃ c, D[k]? = some c ∧ c.toNat < 128 := by
              rcases hend with h | h | h
              · exact absurd h hk9
              · exact absurd h hz
              · exact h
            obtain ⟨e1, e2, e3⟩ := Vi.Lead.end_ HL.out (by omega) Hhead.out hc hcb
            have E1 := Lib.hid e1; have E2 := Lib.hid e2; have E3 := Lib.hid e3
            have hkD : k < n - at' := by have := (List.getElem?_eq_some_iff.1 hc).1; rw [HDl.out] at this; exact this
            have hk8 : k ≤ 8 := by omega
            clear e1 e2 e3 hend hc hcb hk9 hz
            go_wp2_with fail
            go_loopw [8, 9] (fun x i wr => ∃ (a X : Nat), i = .int .i64 (a : Int) ∧ x = .int .i64 (X : Int) ∧ a ≤ k + 1 ∧ X = Vi.val (D.take a) ∧ w = wr) (fun _ i _ => k + 1 - (intOf i).toNat)
            case atStart => exact ⟨0, 0, rfl, rfl, by omega, by simp [Vi.val, Vi.valA], rfl⟩
            case round =>
              obtain ⟨a, X, rfl, rfl, ha, hX, rfl⟩ := hrel
              have HX := Lib.hid hX; clear hX
              by_cases hlt : a ≤ k
              · have q3 : (a : Int) ≤ (k : Int) := by omega
                obtain ⟨d, hd⟩ : ∃ c, D[a]? = some c := ⟨D[a]'(by rw [HDl.out]; omega), List.getElem?_eq_getElem _⟩
                obtain ⟨blk, rfl, hcell⟩ := Hget.out a d hd
                have hX56 : X < 72057594037927936 := by rw [HX.out]; exact Vi.val_take_lt D a (by omega)
                obtain ⟨Y, hY⟩ : ∃ Y, Y = X * 128 + d.toNat % 128 := ⟨_, rfl⟩
                have HY := Lib.hid (show Y = Vi.val (D.take (a + 1)) by rw [hY, HX.out, ← Vi.val_take_succ D a d hd])
                have hai : (at' : Int) + (a : Int) < (n : Int) := by omega
                have HYe := Lib.hid hY
                clear hd hY
                go_wp2_with fail
                refine ⟨⟨a + 1, Y, by congr 1, ?_, by omega, HY.out, trivial⟩, by simp [intOf]; omega⟩
                rw [HYe.out]; unfold n8; congr 1
              · have q3 : ¬ (a : Int) ≤ (k : Int) := by omega
                obtain rfl : a = k + 1 := by omega
                go_wp2_with fail
                go_ret3
                exact ⟨by rw [E1.out, E2.out, E3.out, ← HX.out]; rfl, rfl⟩
set_option maxHeartbeats 4000000 in
theorem rint_calls (g : Nat) (A : Option Addr) (n cap at' base : Nat) (bs : List (BitVec 8)) (er : Int) (w : World) (hr : RdrIs 70 w base g A n cap bs at' er) (hm : n ≤ 1099511627776) :
    Calls Try.prog 39 #[.pointer (some ⟨g, 0, none⟩)] w fun e w' => e = .returned (.int .i64 (Vi.iX bs at' er : Int)) ∧ Upd g w w' ∧ RdrIs 70 w' base g A n cap bs (Vi.iAt bs at' er) (Vi.iE bs at' er) := by
  have Hnum := Lib.hid (number_calls g A n cap at' at' base bs er w hr hr.2.2.2.1 hm)
  obtain ⟨hg, hown, hn, hat, hbg⟩ := hr
  have c0 : w.cell? ⟨g, 0, none⟩ = some (.slice A n cap) := by rw [cell_heap hg]; rfl
  have c1 : w.cell? ⟨g, 1, none⟩ = some (.int .i64 (at' : Int)) := by rw [cell_heap hg]; rfl
  have c2 : w.cell? ⟨g, 2, none⟩ = some (.int .i64 er) := by rw [cell_heap hg]; rfl
  have z1 : w.frozen? ⟨g, 1, none⟩ = false := by simp [World.frozen?, hg]
  have z2 : w.frozen? ⟨g, 2, none⟩ = false := by simp [World.frozen?, hg]
  have Hg := Lib.hid hg; have Hown := Lib.hid hown; have Hn := Lib.hid hn
  clear hg hown hn
  go_enter Try.func39, Try.ntmps39
  by_cases he : er = 0
  · subst he
    go_wp2_with fail
    refine Hnum.out.mono ?_
    rintro e w' ⟨rfl, rfl⟩
    have Hs := Lib.hid (show Vi.iX bs at' 0 = Vi.numX (bs.drop at') ∧ Vi.iAt bs at' 0 = at' + Vi.numN (bs.drop at') ∧ Vi.iE bs at' 0 = Vi.numE (bs.drop at') by unfold Vi.iX Vi.iAt Vi.iE; exact ⟨if_pos rfl, if_pos rfl, if_pos rfl⟩)
    clear Hnum
    generalize Vi.numX (bs.drop at') = X at *
    generalize Vi.numE (bs.drop at') = E at *
    obtain ⟨M, hM⟩ : ∃ M, M = at' + Vi.numN (bs.drop at') := ⟨_, rfl⟩
    rw [← hM] at Hs ⊢
    clear hM
    go_wp2_with fail
    go_ret
    obtain ⟨s1, s2, s3⟩ := Hs.out
    have hAt := Vi.iAt_le bs at' 0 (by rw [← Hn.out]; omega)
    obtain ⟨u1, u2⟩ := rdr_set2 (at2 := Vi.iAt bs at' 0) (v1 := (M : Int)) (er2 := E) Hg.out (by decide) Hown.out Hn.out (by rw [← Hn.out] at hAt; exact hAt) hbg (by rw [s2])
    exact ⟨by rw [s1]; rfl, u1, by rw [s3]; exact u2⟩
  · have hs : Vi.iX bs at' er = 0 ∧ Vi.iAt bs at' er = at' ∧ Vi.iE bs at' er = er := by unfold Vi.iX Vi.iAt Vi.iE; exact ⟨if_neg he, if_neg he, if_neg he⟩
    have Hs := Lib.hid hs
    have hb : (er != 0) = true := by rw [bne_iff_ne]; exact he
    clear hs he Hnum
    go_wp2_with fail
    go_ret
    obtain ⟨s1, s2, s3⟩ := Hs.out
    exact ⟨by rw [s1]; rfl, Upd.refl _ _, by rw [s2, s3]; exact ⟨Hg.out, Hown.out, Hn.out, hat, hbg⟩⟩
end Go.Proofs.Ytkohakogknodeaa
