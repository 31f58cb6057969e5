/- VarintBack: the walk -/
import Derived.Test.YtkohakogknodeaaVBack
import Derived.Test.YtkohakogknodeaaVStep2
namespace Go.Proofs.Ytkohakogknodeaa
open Go.ChangeShapes Go.WideShapes Go.ChangeAt Go.RowKit
set_option linter.unusedSimpArgs false
set_option linter.unusedVariables false
/-- A slice of Items as it reads. -/
def ItRd (w : World) (B : Nat) (A : Option Addr) (qs : List Vi.ItA) : Prop :=
  ∀ (i : Nat) (q : Vi.ItA), qs[i]? = some q → ∃ blk off A' n' cap', A = some ⟨blk, off, none⟩ ∧ blk < B ∧ w.cell? ⟨blk, off + i * 4, none⟩ = some (.int .i64 q.1) ∧ w.cell? ⟨blk, off + i * 4 + 1, none⟩ = some (.int .i64 q.2.1) ∧
    w.cell? ⟨blk, off + i * 4 + 2, none⟩ = some (.bool q.2.2.1) ∧ w.cell? ⟨blk, off + i * 4 + 3, none⟩ = some (.slice A' n' cap') ∧ n' = q.2.2.2.length ∧ Rd w B A' (q.2.2.2.map VI) ∧ q.1 < 9223372036854775808
theorem ItRd.below {w w' : World} {B C : Nat} {A : Option Addr} {qs : List Vi.ItA} (h : ItRd w B A qs) (hb : Below C w w') (hB : B ≤ C) : ItRd w' B A qs := by
  intro i q hi
  obtain ⟨blk, off, A', n', cap', e, h1, c0, c1, c2, c3, h2, h3, h4⟩ := h i q hi
  have hk : ∀ o, w'.cell? ⟨blk, o, none⟩ = w.cell? ⟨blk, o, none⟩ := fun o => hb.cell (p := ⟨blk, o, none⟩) (Nat.lt_of_lt_of_le h1 hB)
  exact ⟨blk, off, A', n', cap', e, h1, (hk _).trans c0, (hk _).trans c1, (hk _).trans c2, (hk _).trans c3, h2, h3.below hb hB, h4⟩
theorem ItRd.take {w : World} {B : Nat} {A : Option Addr} {qs : List Vi.ItA} (h : ItRd w B A qs) (c : Nat) : ItRd w B A (qs.take c) := by
  intro i q hi
  refine h i q ?_
  rw [List.getElem?_take] at hi
  split at hi
  · exact hi
  · cases hi
def InT (w : World) (A : Option Addr) (n cap : Nat) (qs : List Vi.ItA) : Prop := n = qs.length ∧ n ≤ cap ∧ cap ≤ maxLen ∧ (A = none → n = 0 ∧ cap = 0) ∧ ItRd w w.heap.size A qs
theorem quiet_left (g : Nat) (A : Option Addr) (n cap at' base m : Nat) (bs : List (BitVec 8)) (er : Int) (w : World) (hr : RdrIs 68 w base g A n cap bs at' er) (hm : n ≤ 1099511627776) :
    Calls Try.prog 33 #[.pointer (some ⟨g, 0, none⟩)] (w.drewN m) fun e w' => e = .returned (.int .i64 (lft bs at' er)) ∧ ∃ k, w' = w.drewN k :=
  (left_calls g A n cap at' base bs er (w.drewN m) (RdrIs.below hr (below_drewN (Below.refl _ _) m)) hm).mono fun _ _ ⟨he, k, hw⟩ => ⟨he, m + k, by rw [hw, World.drewN_drewN]⟩
/-- A load of an item among reads in any order. -/
def CanItQ (w : World) (v : Value) : Prop := ∃ u p, v = .pointer (some p) ∧ ∀ n, (loadVar 47 p).run Try.prog (w.drewN n) = .ok u (w.drewN n)
section
variable {dst : Option Tmp} {ty : TypeId} {pos : String} {af : Array Edge} {gd : Option (Nat × Bool)} {x : Operand} {a : Act} {w : World} {K : Act → Prop}
theorem quiet_it (h : CanItQ w (a.eval x)) : Oper.quiet Try.prog ⟨dst, .load 47 x, ty, pos, af, gd⟩ a (fun w' => ∃ n, w' = w.drewN n) K = K (a.put dst (itV w (a.eval x))) := by
  obtain ⟨u, p, hv, h⟩ := h
  have h0 : (loadVar 47 p).run Try.prog w = .ok u w := h 0
  rw [hv, itV_eq h0]
  have key : ∀ n, (execOp a.eval ⟨dst, .load 47 x, ty, pos, af, gd⟩).run Try.prog (w.drewN n) = .ok (.value u) (w.drewN n) := by
    intro n
    unfold execOp
    simp only [hv, Instr.loadAt, Instr.sureAddr, Sem.run_bind, Sem.run_pure, Result.andThen_ok, h n]
  refine propext ⟨fun ⟨v, h1, h2⟩ => ?_, fun hk => ⟨u, ?_, hk⟩⟩
  · have := h1 (w.drewN 0) ⟨0, rfl⟩
    unfold Oper.quietAt at this
    rw [key 0] at this
    obtain ⟨_, rfl⟩ := this
    exact h2
  · rintro w' ⟨n, rfl⟩
    unfold Oper.quietAt
    rw [key n]
    exact ⟨rfl, rfl⟩
end
theorem own_types {w w' : World} {b1 b2 n1 n2 : Nat} {t1 t2 : TypeId} {v1 v2 : Value} {xs1 xs2 : List Value} (h1 : w.ownsRow b1 t1 1 v1 n1 xs1) (h2 : w.ownsRow b2 t2 1 v2 n2 xs2) (ht : t1 ≠ t2) (hg : w.grownBy w' v2.ownBlock) : w'.ownsRow b1 t1 1 v1 n1 xs1 := by
  refine h1.kept hg ?_
  rcases h1.2 with ⟨rfl, _⟩ | ⟨g, _, _, rfl, _, hb, _⟩
  · exact Or.inl rfl
  · right
    rcases h2.2 with ⟨rfl, _⟩ | ⟨g2, _, _, rfl, _, hb2, _⟩
    · simp [Value.ownBlock]
    · simp only [Value.ownBlock, ne_eq, Option.some.injEq]
      intro e; subst e; rw [hb] at hb2; injection hb2 with hb2; injection hb2 with _ hb2 _; exact ht hb2
def endsL (qs : List Vi.ItA) (a : Nat) : List Int := (List.range a).map fun j => ((Vi.cumI qs (j + 1) : Nat) : Int)
theorem endsL_succ (qs : List Vi.ItA) (a : Nat) : endsL qs (a + 1) = endsL qs a ++ [((Vi.cumI qs (a + 1) : Nat) : Int)] := by
  unfold endsL; rw [List.range_succ, List.map_append]; rfl
theorem endsL_length (qs : List Vi.ItA) (a : Nat) : (endsL qs a).length = a := by simp [endsL]
theorem endsL_get (qs : List Vi.ItA) (N a : Nat) (h : a < N) : (endsL qs N)[a]? = some ((Vi.cumI qs (a + 1) : Nat) : Int) := by simp [endsL, h]
theorem rem_cut (a : Int) (n : Nat) (hn : n ≤ 9999999) : ∃ r : Nat, r ≤ n ∧ (a.tmod ((n : Int) + 1) + (n : Int) + 1).tmod ((n : Int) + 1) = (r : Int) ∧ a.tmod ((n : Int) + 1) < (n : Int) + 1 ∧ -((n : Int) + 1) < a.tmod ((n : Int) + 1) := by
  have h1 := Int.tmod_lt_of_pos a (show (0 : Int) < (n : Int) + 1 by omega)
  have h2 := Int.lt_tmod_of_pos a (show (0 : Int) < (n : Int) + 1 by omega)
  generalize a.tmod ((n : Int) + 1) = r at *
  have h3 := Int.tmod_nonneg ((n : Int) + 1) (show 0 ≤ r + (n : Int) + 1 by omega)
  have h4 := Int.tmod_lt_of_pos (r + (n : Int) + 1) (show (0 : Int) < (n : Int) + 1 by omega)
  exact ⟨((r + (n : Int) + 1).tmod ((n : Int) + 1)).toNat, by omega, by omega, h1, h2⟩
attribute [local go_sem ↓] load_it
attribute [local go_sem ↓] quiet_it
set_option maxHeartbeats 16000000 in
set_option maxRecDepth 20000 in
theorem law_back (A : Option Addr) (n0 cap : Nat) (qs0 : List Vi.ItA) (cut : Int) (w : World) (ha : InT w A n0 cap qs0) (hcw : (Lit.int .i64 cut).wf = true) :
    Calls Try.prog 8 #[.slice A n0 cap, .int .i64 cut] w fun e w' => e = .returned (.bool true) ∧ Below w.heap.size w w' := by
  obtain ⟨i0, hi, hz0, hz1, hz2⟩ := info_parts infoInt
  have Hi := Lib.hid hi; clear hi
  obtain ⟨hn, hc, hcm, hnil, hr⟩ := ha
  have hcb := bounds_i64 hcw
  unfold maxLen at hcm
  have Hn := Lib.hid hn; have Hr := Lib.hid hr; have Hnil := Lib.hid hnil
  clear hn hr hcw hnil
  go_enter Try.func8, Try.ntmps8
  go_wp2_with fail
  refine (first_calls w).mono ?_
  rintro e w1 ⟨rfl, hb1⟩
  have hs1 := hb1.size
  have Hb1 := Lib.hid hb1
  clear hb1
  go_upto_if 25 with fail
  go_cut [0] (fun s w' => s = .slice A (min n0 300) cap ∧ w1 = w')
  case first =>
    by_cases h3 : n0 ≤ 300
    · have h3' : ¬ (300 : Int) < (n0 : Int) := by omega
      have e3 := Lib.hid (show min n0 300 = n0 by omega)
      go_wp2_with fail
      go_meet
      exact ⟨by rw [e3.out], rfl⟩
    · have h3' : (300 : Int) < (n0 : Int) := by omega
      have e3 := Lib.hid (show min n0 300 = 300 by omega)
      have h4 : (300 : Int) ≤ (cap : Int) := by omega
      obtain ⟨blk, off, rfl⟩ : ∃ blk off, A = some ⟨blk, off, none⟩ := by
        obtain ⟨blk, off, _, _, _, e, _⟩ := Hr.out 0 (qs0[0]'(by rw [← Hn.out]; omega)) (List.getElem?_eq_getElem _)
        exact ⟨blk, off, e⟩
      go_wp2_with fail
      go_meet
      exact ⟨by rw [e3.out], rfl⟩
  case rest =>
    obtain ⟨rfl, rfl⟩ := hcut
    have Hr2 := Lib.hid (Hr.out.take 300)
    have hN1 : min n0 300 = (qs0.take 300).length := by rw [List.length_take, ← Hn.out]; omega
    obtain ⟨qs, hqs⟩ : ∃ q, q = qs0.take 300 := ⟨_, rfl⟩
    obtain ⟨N, hNN⟩ : ∃ N, N = min n0 300 := ⟨_, rfl⟩
    rw [← hqs] at Hr2 hN1
    rw [← hNN] at hN1 ⊢
    have hN300 : N ≤ 300 := by omega
    have hNc : N ≤ cap := by omega
    have HN := Lib.hid hN1
    clear hqs hNN hN1 Hr Hn Hnil hc
    have Hq := Lib.hid (show ∀ q ∈ qs, q.1 < 9223372036854775808 from fun q hq => by
      obtain ⟨i, hi⟩ := List.getElem?_of_mem hq
      obtain ⟨_, _, _, _, _, _, _, _, _, _, _, _, _, h⟩ := Hr2.out i q hi
      exact h)
    go_wp2_with fail
    go_loopw [6, 7, 8] (fun b ends i wr => ∃ (a A1n : Nat), i = .int .i64 (a : Int) ∧ a ≤ N ∧ A1n = (Vi.joinI (qs.take a)).length ∧ A1n ≤ 2709 * a ∧ wr.ownsRow w1.heap.size 5 1 b A1n ((Vi.joinI (qs.take a)).map V8) ∧
      wr.ownsRow w1.heap.size 3 1 ends a ((endsL qs a).map VI) ∧ Below w1.heap.size w1 wr) (fun _ _ i _ => N - (intOf i).toNat)
    case atStart => exact ⟨0, 0, rfl, by omega, by simp [Vi.joinI], by omega, ⟨rfl, Or.inl ⟨rfl, rfl⟩⟩, ⟨rfl, Or.inl ⟨rfl, rfl⟩⟩, Below.refl _ _⟩
    case round =>
      obtain ⟨a, nb, rfl, ha, hnb, hnbm, hownB, hownE, hbl⟩ := hrel
      obtain ⟨A1, cap1, rfl, hc1, hm1, _⟩ := own_form hownB
      obtain ⟨A2, cap2, rfl, hc2, hm2, _⟩ := own_form hownE
      have hsz := hbl.size
      have HownB := Lib.hid hownB; have HownE := Lib.hid hownE; have Hbl := Lib.hid hbl; have Hnb := Lib.hid hnb
      clear hownB hownE hbl hnb
      by_cases hlt : a < N
      · have l1 : (a : Int) < (N : Int) := by omega
        obtain ⟨q, hq⟩ : ∃ q, qs[a]? = some q := ⟨qs[a]'(by rw [← HN.out]; omega), List.getElem?_eq_getElem _⟩
        obtain ⟨blk, off, A', n', cap', rfl, hblk, c0, c1, c2, c3, hn', hr', hqb⟩ := (Hr2.out.below (Hb1.out.trans (Hbl.out.mono hs1)) (Nat.le_refl _)) a q hq
        have Hjs := Lib.hid (Vi.joinI_succ qs a q hq)
        have hBl := Vi.itB_len q hqb
        have HB := Lib.hid (show Vi.itB q = Vi.itB q from rfl)
        have hld := ld_item blk (off + a * 4) q.1 q.2.1 q.2.2.1 A' n' cap' wr c0 c1 c2 c3
        have hcan : CanIt wr (.pointer (some ⟨blk, off + a * 4, none⟩)) := ⟨_, _, rfl, hld⟩
        have hval := itV_eq hld
        have Hok := Lib.hid (Vi.itL_ok q)
        have Hr' := Lib.hid hr'; have Hn' := Lib.hid hn'; have Hq1 := Lib.hid hq
        have hbB : blk < wr.heap.size := by omega
        clear hr' hn' hq hld
        obtain ⟨X, F, M, gs⟩ := q
        simp only at c0 c1 c2 hqb
        go_upto_if 38 with fail
        go_cut [6] (fun s w' => ∃ A3 n3 cap3, s = .slice A3 n3 cap3 ∧ n3 = nb + (Vi.itB (X, F, M, gs)).length ∧ w'.ownsRow w1.heap.size 5 1 (.slice A3 n3 cap3) n3 ((Vi.joinI (qs.take (a + 1))).map V8) ∧ Below wr.heap.size wr w')
        case first =>
          cases M with
          | true =>
            have eB : Vi.itB (X, F, true, gs) = Vi.putL (Vi.numF F) (Vi.numsL (Vi.numF F) (gs.take 300)) := rfl
            have HeB := Lib.hid eB
            clear eB
            go_wp2_with fail
            refine (numbers_calls X F true A' n' cap' w.heap.size gs wr Hn'.out (by omega) Hr'.out).mono ?_
            rintro e w2 ⟨A4, m4, cap4, rfl, hm4, hown4, hb4⟩
            have hs4 := hb4.size
            obtain ⟨k1, k2, k3, k4, k5⟩ := Hok.out
            have hL : Vi.itL (X, F, true, gs) = Vi.numsL (Vi.numF F) (gs.take 300) := rfl
            rw [hL] at k1 k2 k3
            clear hL
            generalize Vi.numF F = f at *
            generalize Vi.numsL f (gs.take 300) = l at *
            obtain ⟨p1, p2⟩ := own_cap hown4
            have hm4b : m4 ≤ 300 := by omega
            have Hm4 := Lib.hid hm4; have Hown4 := Lib.hid hown4; have Hb4 := Lib.hid hb4; have Hk1 := Lib.hid k1; have Hk3 := Lib.hid k3
            have HownB4 := Lib.hid (own_below HownB.out hb4 (Nat.le_refl _))
            clear hm4 hown4 hb4 k1 k2 k3 hcan hval Hok HownB HownE Hr' c0 c1 c2 c3
            go_wp2_with fail
            refine (putList_calls A1 nb cap1 w2.heap.size (Vi.joinI (qs.take a)) f A4 m4 cap4 w2.heap.size l w2 Hnb.out (by omega) Hm4.out (by omega) p1 p2 (Nat.le_refl _) (Nat.le_refl _) (own_rd HownB4.out) (own_rd Hown4.out) (fun z hz => by have := Hk3.out z hz; omega) (by omega)).mono ?_
            rintro e w3 ⟨A3, n3, cap3, rfl, hn3, hown3, hb3⟩
            have ep : Vi.putB (Vi.joinI (qs.take a)) f l = Vi.joinI (qs.take a) ++ Vi.putL f l := by unfold Vi.putB Vi.putL; rw [if_pos Hk1.out, if_pos Hk1.out]
            have ee : Vi.putE f l = 0 := by unfold Vi.putE; rw [if_pos Hk1.out]
            rw [ep] at hn3 hown3
            rw [ee]
            have Hn3 := Lib.hid hn3; have Hown3 := Lib.hid hown3; have Hb3 := Lib.hid (Hb4.out.trans (hb3.mono hs4))
            clear hn3 hown3 hb3 ep ee
            go_wp2_with (go_at_call 30; refine (num_calls 0 _ (by omega) (by omega)).mono ?_; rintro e w' ⟨rfl, rfl⟩)
            go_meet
            rw [Hjs.out, HeB.out]
            refine ⟨A3, n3, cap3, rfl, by rw [Hn3.out, List.length_append, ← Hnb.out], own_base Hown3.out (by omega), Hb3.out⟩
          | false =>
            have eB : Vi.itB (X, F, false, gs) = Vi.form X.toNat := rfl
            have HeB := Lib.hid eB
            clear eB hcan hval
            go_wp2_with fail
            refine (Put_calls A1 nb cap1 wr.heap.size (Vi.joinI (qs.take a)) X wr (by omega) Hnb.out (by omega) (Nat.le_refl _) (own_rd HownB.out)).mono ?_
            rintro e w2 ⟨A3, n3, cap3, rfl, hn3, hown3, hb3⟩
            have Hn3 := Lib.hid hn3; have Hown3 := Lib.hid hown3; have Hb3 := Lib.hid hb3
            clear hn3 hown3 hb3
            go_wp2_with fail
            go_meet
            rw [Hjs.out, HeB.out]
            refine ⟨A3, n3, cap3, rfl, by rw [Hn3.out, List.length_append, ← Hnb.out], own_base Hown3.out hsz, Hb3.out⟩
        case rest =>
          obtain ⟨A3, n3, cap3, rfl, hn3, hown3, hb3⟩ := hcut
          have hs3 := hb3.size
          have hlen := congrArg List.length Hjs.out
          rw [List.length_append, ← Hnb.out] at hlen
          have hcum : (n3 : Int) = ((Vi.cumI qs (a + 1) : Nat) : Int) := by unfold Vi.cumI; omega
          have Hcum := Lib.hid hcum
          have hn3b : n3 ≤ 2709 * (a + 1) := by omega
          have hn3l : n3 = (Vi.joinI (qs.take (a + 1))).length := by omega
          have Hn3 := Lib.hid hn3l; have Hown3 := Lib.hid hown3
          have HownE3 := Lib.hid (own_below HownE.out hb3 (Nat.le_refl _))
          have Hb3 := Lib.hid (Hbl.out.trans (hb3.mono hsz))
          have HownA3 := Lib.hid (own_below Hown3.out ((Below.refl wc.heap.size wc).alloc (Nat.le_refl _) (.cells #[.int .i64 (n3 : Int)] 3)) (Nat.le_refl _))
          have HownE4 := Lib.hid (own_below HownE3.out ((Below.refl wc.heap.size wc).alloc (Nat.le_refl _) (.cells #[.int .i64 (n3 : Int)] 3)) (Nat.le_refl _))
          clear hlen hcum hn3l hn3 hown3 hb3 HownE HownB hcan hval Hok Hr' c0 c1 c2 c3
          go_wp2_with (at_builtin; refine wpList_append_rd rfl _ _ 29 rfl w1.heap.size 3 i0 _ 8 descInts Hi.out hz0 hz1 hz2 rfl _ a ((endsL qs a).map VI) rfl HownE4.out _ (some ⟨wc.heap.size, 0, none⟩) 1 1 [.int .i64 (n3 : Int)] rfl rfl (by intro h; cases h) (rd_fresh _ _ _ _ _ _ rfl rfl) (by intro u hu; simp at hu; subst hu; rfl) (by unfold maxLen; omega) (by omega) (by simp; omega) ?_)
          intro v4 w4 hown4 hg4
          have e4 : (endsL qs a).map VI ++ [.int .i64 (n3 : Int)] = (endsL qs (a + 1)).map VI := by rw [endsL_succ, List.map_append, Hcum.out]; rfl
          rw [e4] at hown4
          have Hown4 := Lib.hid hown4
          have HownA4 := Lib.hid (own_types HownA3.out HownE4.out (by decide) hg4)
          have hb4 : Below w1.heap.size w1 w4 := (Hb3.out.alloc Hb3.out.size _).grown hg4 (by simp; omega) fun k hk => (HownE4.out.lt k hk).1
          have Hb4 := Lib.hid hb4
          clear hown4 hg4 hb4 e4 HownA3 HownE4 HownE3 Hown3
          go_wp2_with fail
          exact ⟨⟨a + 1, n3, by congr 1, by omega, Hn3.out, hn3b, HownA4.out, Hown4.out, Hb4.out⟩, by simp [intOf]; omega⟩
      · obtain rfl : a = N := by omega
        have eT : qs.take a = qs := List.take_of_length_le (by rw [← HN.out]; exact Nat.le_refl _)
        generalize wr = wA at *
        rw [eT] at HownB Hnb
        obtain ⟨R, hR1, hR2, t1, t2⟩ := rem_cut cut nb (by omega)
        have HR2 := Lib.hid hR2
        have q1 : (R : Int) ≤ (cap1 : Int) := by omega
        clear eT
        go_wp2_with fail
        have HD := Lib.hid (show R = ((Vi.joinI qs).take R).length by rw [List.length_take, ← Hnb.out]; omega)
        refine (newReader_calls A1 R cap1 wA.heap.size ((Vi.joinI qs).take R) wA HD.out (by omega) (Nat.le_refl _) (rd_pre R (own_rd HownB.out))).mono ?_
        rintro e w2 ⟨g, A5, cap5, rfl, hr5, hb5⟩
        have hs5 := hb5.size
        have hg5 : wA.heap.size ≤ g := hr5.2.2.2.2
        have Hends := Lib.hid ((own_rd HownE.out).below hb5 (Nat.le_refl _))
        have Hb5 := Lib.hid (Hb1.out.trans ((Hbl.out.trans (hb5.mono hsz)).mono hs1)); have Hr5 := Lib.hid hr5
        clear hb5 hr5 HownE HownB Hbl hR2 t1 t2 q1 HR2 hm1 hm2 hc1
        unfold maxLen at *
        go_wp2_with fail
        go_loopw [15, 16] (fun fr i wr => ∃ (b : Nat), i = .int .i64 (b : Int) ∧ b ≤ a ∧ fr = .int .i64 ((Vi.cumI qs b : Nat) : Int) ∧ Vi.cumI qs b ≤ R ∧ RdrIs 68 wr wA.heap.size g A5 R cap5 ((Vi.joinI qs).take R) (Vi.cumI qs b) 0 ∧ Below wA.heap.size w2 wr) (fun _ i _ => a - (intOf i).toNat)
        case atStart => exact ⟨0, rfl, by omega, by rw [Vi.cumI_zero]; rfl, by rw [Vi.cumI_zero]; omega, by rw [Vi.cumI_zero]; exact Hr5.out, Below.refl _ _⟩
        case round =>
          obtain ⟨b, rfl, hb, rfl, hcR, hrd, hbx⟩ := hrel
          have Hrd := Lib.hid hrd; have Hbx := Lib.hid hbx
          clear hrd hbx
          by_cases hlt : b < a
          · have l1 : (b : Int) < (a : Int) := by omega
            obtain ⟨q, hq⟩ : ∃ q, qs[b]? = some q := ⟨qs[b]'(by rw [← HN.out]; omega), List.getElem?_eq_getElem _⟩
            obtain ⟨blk, off, A', n', cap', rfl, hblk, c0, c1, c2, c3, hn', hr', hqb⟩ := (Hr2.out.below (Hb5.out.trans (Hbx.out.mono (by omega))) (Nat.le_refl _)) b q hq
            have hcs := Vi.cumI_succ qs b q hq
            have hBl := Vi.itB_len q hqb
            have hcm2 : Vi.cumI qs (b + 1) ≤ nb := by rw [Hnb.out, ← Vi.cumI_all qs a (by rw [HN.out]; exact Nat.le_refl _)]; exact Vi.cumI_mono qs (by omega)
            obtain ⟨rd1, rd2⟩ := Vi.read_it qs R b q hq hqb
            have HBl := Lib.hid hBl
            have hld : ∀ m, (loadVar 47 ⟨blk, off + b * 4, none⟩).run Try.prog (wr.drewN m) = .ok (VT q.1 q.2.1 q.2.2.1 A' n' cap') (wr.drewN m) := fun m => ld_item blk (off + b * 4) q.1 q.2.1 q.2.2.1 A' n' cap' (wr.drewN m) c0 c1 c2 c3
            have hcan : CanItQ wr (.pointer (some ⟨blk, off + b * 4, none⟩)) := ⟨_, _, rfl, hld⟩
            have hval : itV wr (.pointer (some ⟨blk, off + b * 4, none⟩)) = VT q.1 q.2.1 q.2.2.1 A' n' cap' := itV_eq (hld 0)
            obtain ⟨be, ofe, rfl, _, hce⟩ := rd_get (Hends.out.below Hbx.out (Nat.le_refl _)) (endsL_get qs a b hlt)
            have Hr' := Lib.hid hr'; have Hn' := Lib.hid hn'; have Rd1 := Lib.hid rd1; have Rd2 := Lib.hid rd2
            have hbB : blk < wr.heap.size := by have := Hb5.out.size; have := Hbx.out.size; omega
            clear hr' hn' hq hld c0 c1 c2 c3 rd1 rd2 Hr2 Hends Hq
            obtain ⟨X, F, M, gs⟩ := q
            obtain ⟨C2, hC2⟩ : ∃ x, x = Vi.cumI qs (b + 1) := ⟨_, rfl⟩
            have HC2 := Lib.hid hC2
            rw [← hC2] at hcs hcm2 Rd1 Rd2 hce
            obtain ⟨D, hD⟩ : ∃ x, x = (Vi.joinI qs).take R := ⟨_, rfl⟩
            have HD2 := Lib.hid hD
            rw [← hD] at Rd1 Rd2 HD Hrd
            clear hC2 hD Hr5
            generalize Vi.cumI qs b = C at *
            generalize (Vi.itB (X, F, M, gs)).length = d at *
            have e1 : ¬ (C2 : Int) ≤ (C : Int) := by have := HBl.out; omega
            have Hcs := Lib.hid hcs
            clear hcs
            have Hwx := Lib.hid (show ∀ m, RdrIs 68 (wr.drewN m) wA.heap.size g A5 R cap5 D C 0 from fun m => RdrIs.below Hrd.out (below_drewN (Below.refl _ _) m))
            have Hrw := Lib.hid (show ∀ m, Rd (wr.drewN m) w.heap.size A' (gs.map VI) from fun m => Hr'.out.below (below_drewN (Below.refl _ _) m) (by have := Hb5.out.size; have := Hbx.out.size; omega))
            have hszx : w.heap.size ≤ wr.heap.size := by have := Hb5.out.size; have := Hbx.out.size; omega
            by_cases hw : C2 ≤ R
            · have e2 : (C2 : Int) ≤ (R : Int) := by omega
              have e3 : ¬ (R : Int) < (C2 : Int) := by omega
              have R1 := Lib.hid (Rd1.out hw)
              clear Rd1 Rd2
              go_wp2_with fail
              refine region_then (n := 11) (by kernel_rfl) (by kernel_rfl) ?_
              simp only [List.take_succ_cons, List.take_zero, List.drop_succ_cons, List.drop_zero]
              repeat (go_big_quiet_step (fail))
              refine wpQuiet_nil ?_
              intro w' hw'
              obtain ⟨nq, rfl⟩ := hw'
              go_wp2_with fail
              refine (item_calls g A5 R cap5 C wA.heap.size d D 0 X F M true A' n' cap' w.heap.size gs (wr.drewN nq) (Hwx.out nq) (by omega) Hn'.out hszx (Hrw.out nq) R1.out.1 (fun h => ⟨(R1.out.2 h).1, (R1.out.2 h).2.1, (R1.out.2 h).2.2⟩)).mono ?_
              rintro e w3 ⟨rfl, hu3, hr3⟩
              rw [← Hcs.out] at hr3
              have hb3 := hu3.below hg5 (by have := Hbx.out.size; exact Nat.le_trans hs5 this)
              have Hbx3 := Lib.hid ((below_drewN Hbx.out nq).trans hb3)
              have Hr3 := Lib.hid hr3
              have hce3 : w3.cell? ⟨be, ofe + b, none⟩ = some (.int .i64 (C2 : Int)) := by rw [hb3.cell (show be < wA.heap.size by assumption)]; exact hce
              have Hlf := Lib.hid (show lft D C2 0 = (R : Int) - (C2 : Int) by unfold lft; rw [if_pos rfl, ← HD.out]; omega)
              clear hu3 hr3 hb3 hcan hval hce Hwx Hrw Hrd R1 Hr' Hn'
              go_wp2_with fail
              refine (err_calls g A5 R cap5 C2 _ D 0 w3 Hr3.out).mono ?_
              rintro e w4 ⟨rfl, k4, rfl⟩
              have Hr4 := Lib.hid (RdrIs.below Hr3.out (below_drewN (Below.refl _ _) k4))
              have Hbx4 := Lib.hid (below_drewN Hbx3.out k4)
              have hce4 : (w3.drewN k4).cell? ⟨be, ofe + b, none⟩ = some (.int .i64 (C2 : Int)) := hce3
              clear hce3 Hbx3 Hr3
              generalize w3.drewN k4 = w4 at *
              have z1 : ((C2 : Int) != (C2 : Int)) = false := by simp
              have z2 : ((R : Int) - (C2 : Int) != (R : Int) - (C2 : Int)) = false := by simp
              have z3 : (wrap64 ((R : Int) - (C2 : Int))) = (R : Int) - (C2 : Int) := IntWalk.wrap64_in _ (by omega)
              have hR9 : R ≤ 1099511627776 := by omega
              have HLeft := Lib.hid (fun m : Nat => show Calls Try.prog 33 #[.pointer (some ⟨g, 0, none⟩)] (w4.drewN m) fun e w' => e = .returned (.int .i64 ((R : Int) - (C2 : Int))) ∧ ∃ k, w' = w4.drewN k by
                have := quiet_left g A5 R cap5 C2 wA.heap.size m D 0 w4 Hr4.out hR9
                rw [Hlf.out] at this; exact this)
              go_wp2_with fail
              go_quiet ((first | (go_at_call 30; exact quiet_num 0 _ _ (by omega) (by omega)) | (go_at_call 33; exact HLeft.out _)))
              go_wp2_with fail
              rw [← HD2.out]
              exact ⟨⟨b + 1, by congr 1, by omega, by rw [HC2.out], by rw [← HC2.out]; exact hw, by rw [← HC2.out]; exact RdrIs.below Hr4.out (below_drewN (Below.refl _ _) nq), below_drewN Hbx4.out nq⟩, by simp [intOf]; omega⟩
            · have hw2 : R < C2 := by omega
              have e2 : ¬ (C2 : Int) ≤ (R : Int) := by omega
              have e3 : (R : Int) < (C2 : Int) := by omega
              have R1 := Lib.hid (Rd2.out hw2 hcR)
              clear Rd1 Rd2
              go_wp2_with fail
              refine region_then (n := 11) (by kernel_rfl) (by kernel_rfl) ?_
              simp only [List.take_succ_cons, List.take_zero, List.drop_succ_cons, List.drop_zero]
              repeat (go_big_quiet_step (fail))
              refine wpQuiet_nil ?_
              intro w' hw'
              obtain ⟨nq, rfl⟩ := hw'
              go_wp2_with fail
              refine (item_calls g A5 R cap5 C wA.heap.size 0 D 10 X F M false A' n' cap' w.heap.size gs (wr.drewN nq) (Hwx.out nq) (by omega) Hn'.out hszx (Hrw.out nq) R1.out.1 (fun h => ⟨R1.out.2 h, (Vi.num_err (by rw [R1.out.2 h]; decide)).1, (Vi.num_err (by rw [R1.out.2 h]; decide)).2⟩)).mono ?_
              rintro e w3 ⟨rfl, hu3, hr3⟩
              have hb3 := hu3.below hg5 (by have := Hbx.out.size; exact Nat.le_trans hs5 this)
              have Hbx3 := Lib.hid ((below_drewN Hbx.out nq).trans hb3)
              have Hr3 := Lib.hid hr3
              have hce3 : w3.cell? ⟨be, ofe + b, none⟩ = some (.int .i64 (C2 : Int)) := by rw [hb3.cell (show be < wA.heap.size by assumption)]; exact hce
              have Hlf := Lib.hid (show lft D (C + 0) 10 = 0 by unfold lft; rw [if_neg (by decide)])
              clear hu3 hr3 hb3 hcan hval hce Hwx Hrw Hrd R1 Hr' Hn'
              go_wp2_with fail
              refine (err_calls g A5 R cap5 (C + 0) _ D 10 w3 Hr3.out).mono ?_
              rintro e w4 ⟨rfl, k4, rfl⟩
              have Hr4 := Lib.hid (RdrIs.below Hr3.out (below_drewN (Below.refl _ _) k4))
              have Hbx4 := Lib.hid (below_drewN Hbx3.out k4)
              have hce4 : (w3.drewN k4).cell? ⟨be, ofe + b, none⟩ = some (.int .i64 (C2 : Int)) := hce3
              clear hce3 Hbx3 Hr3
              generalize w3.drewN k4 = w4 at *
              go_wp2_with (first
                | (go_at_call 30; refine (num_calls 10 _ (by omega) (by omega)).mono ?_; rintro e w' ⟨rfl, rfl⟩)
                | (go_at_call 33; refine (left_calls g A5 R cap5 _ wA.heap.size D 10 _ Hr4.out (by omega)).mono ?_; rintro e w' ⟨rfl, kk, rfl⟩; rw [Hlf.out]))
              go_ret
              exact ⟨rfl, below_drewN (Hb5.out.trans (Hbx4.out.mono (by omega))) kk⟩
          · obtain rfl : b = a := by omega
            have Hlf := Lib.hid (show lft ((Vi.joinI qs).take R) (Vi.cumI qs b) 0 = (R : Int) - ((Vi.cumI qs b : Nat) : Int) by
              unfold lft; rw [if_pos rfl, ← HD.out]; omega)
            generalize Vi.cumI qs b = C at *
            go_wp2_with fail
            refine (left_calls g A5 R cap5 C wA.heap.size _ 0 wr Hrd.out (by omega)).mono ?_
            rintro e w' ⟨rfl, k, rfl⟩
            rw [Hlf.out]
            go_wp2_with fail
            go_ret
            exact ⟨by simp, below_drewN (Hb5.out.trans (Hbx.out.mono (by omega))) k⟩
end Go.Proofs.Ytkohakogknodeaa
