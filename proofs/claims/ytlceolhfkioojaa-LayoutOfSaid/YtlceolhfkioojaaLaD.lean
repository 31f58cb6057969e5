/- layout.New, pithref10.New; many -/
import Derived.Test.YtlceolhfkioojaaLaC
namespace Go.Proofs.Ytlceolhfkioojaa
open Go.RowKit
set_option linter.unusedSimpArgs false
set_option linter.unusedVariables false
namespace La
theorem newE_range {n : Int} {zs : List Int} (h : n < 0 ∨ 16777216 < n) : newE n zs = 41 := by unfold newE; rw [if_pos h]
theorem newE_bad {n : Int} {zs : List Int} (h : ¬ (n < 0 ∨ 16777216 < n)) (hb : newOk n zs = false) : newE n zs = 100 := by unfold newE; rw [if_neg h, if_neg (by rw [hb]; decide)]
theorem newE_good' {n : Int} {zs : List Int} (h : ¬ (n < 0 ∨ 16777216 < n)) (hb : newOk n zs = true) : newE n zs = 0 := by unfold newE; rw [if_neg h, if_pos hb]
theorem take_snoc {zs : List Int} {a : Nat} {z : Int} (h : zs[a]? = some z) : zs.take (a + 1) = zs.take a ++ [z] := by rw [List.take_add_one, h]; rfl
theorem rises_snoc {zs : List Int} {a : Nat} {z : Int} (h : zs[a]? = some z) (h1 : rises 0 (zs.take a) = true) (h2 : lastI 0 (zs.take a) < z) : rises 0 (zs.take (a + 1)) = true ∧ lastI 0 (zs.take (a + 1)) = z := by
  rw [take_snoc h, rises_append, lastI_append]; exact ⟨⟨h1, h2⟩, rfl⟩
theorem rises_stop {zs : List Int} {a : Nat} {z : Int} (h : zs[a]? = some z) (h2 : z ≤ lastI 0 (zs.take a)) : rises 0 zs = false := by
  cases hr : rises 0 zs with
  | false => rfl
  | true =>
    have := rises_take zs 0 (a + 1) hr
    rw [take_snoc h, rises_append] at this
    omega
theorem newOk_not {n : Int} {zs : List Int} (h : rises 0 zs = false) : newOk n zs = false := by unfold newOk; rw [h]; rfl
end La
def NewAns (w : World) (n : Int) (k : Nat) (zs : List Int) (e : Ending) (w' : World) : Prop := Below w.heap.size w w' ∧
  ((La.newE n zs = 0 ∧ ∃ g A' cap', e = .returned (.tuple #[.pointer (some ⟨g, 0, none⟩), .int .i64 0]) ∧ LayIs w' w.heap.size g A' k cap' zs) ∨ (La.newE n zs ≠ 0 ∧ e = .returned (.tuple #[.pointer none, .int .i64 (La.newE n zs)])))
set_option maxHeartbeats 4000000 in
set_option maxRecDepth 20000 in
theorem New_calls (n : Int) (A : Option Addr) (k cap B : Nat) (zs : List Int) (w : World) (hk : k = zs.length) (hkm : k ≤ 1099511627776) (hnil : A = none → k = 0 ∧ cap = 0) (hB : B ≤ w.heap.size) (hr : Rd w B A (zs.map VI)) :
    Calls Try.prog 12 #[.int .i64 n, .slice A k cap] w (NewAns w n k zs) := by
  obtain ⟨i0, hi, hz0, hz1, hz2⟩ := info_parts infoInt
  have Hi := Lib.hid hi; have Hk := Lib.hid hk; have Hr := Lib.hid hr; have Hnil := Lib.hid hnil
  clear hi hk hr hnil
  go_enter Try.func12, Try.ntmps12
  by_cases hrange : n < 0 ∨ 16777216 < n
  · have He := Lib.hid (@La.newE_range n zs hrange)
    rcases (by omega : n < 0 ∨ (¬ n < 0 ∧ (16777216 : Int) < n)) with h1 | ⟨h1, h2⟩
    · clear hrange
      go_wp2_with fail
      go_ret2
      exact ⟨Below.refl _ _, Or.inr ⟨by rw [He.out]; decide, by rw [He.out]; rfl⟩⟩
    · clear hrange
      go_wp2_with fail
      go_ret2
      exact ⟨Below.refl _ _, Or.inr ⟨by rw [He.out]; decide, by rw [He.out]; rfl⟩⟩
  · have Hrange := Lib.hid hrange
    have h1 : ¬ n < 0 := by omega
    have h2 : ¬ (16777216 : Int) < n := by omega
    clear hrange
    go_wp2_with fail
    go_loopw [6, 17] (fun l i wr => ∃ (a : Nat) (z : Int), i = .int .i64 (a : Int) ∧ l = .int .i64 z ∧ a ≤ k ∧ La.rises 0 (zs.take a) = true ∧ La.lastI 0 (zs.take a) = z ∧ w = wr) (fun _ i _ => k - (intOf i).toNat)
    case atStart => exact ⟨0, 0, rfl, rfl, by omega, by simp [La.rises], by simp [La.lastI], rfl⟩
    case round =>
      obtain ⟨a, z, rfl, rfl, ha, hri, hla, rfl⟩ := hrel
      have Hri := Lib.hid hri; have Hla := Lib.hid hla
      clear hri hla
      by_cases hlt : a < k
      · have l1 : (a : Int) < (k : Int) := by omega
        obtain ⟨y, hy⟩ : ∃ y, zs[a]? = some y := ⟨zs[a]'(by rw [← Hk.out]; omega), List.getElem?_eq_getElem _⟩
        obtain ⟨b, off, rfl, _, hc⟩ := rd_get Hr.out hy
        have Hy := Lib.hid hy
        clear hy
        by_cases hle : y ≤ z
        · have He := Lib.hid (@La.newE_bad n zs Hrange.out (La.newOk_not (La.rises_stop Hy.out (by rw [Hla.out]; exact hle))))
          go_wp2_with fail
          go_ret2
          exact ⟨Below.refl _ _, Or.inr ⟨by rw [He.out]; decide, by rw [He.out]; rfl⟩⟩
        · obtain ⟨s1, s2⟩ := La.rises_snoc Hy.out Hri.out (by rw [Hla.out]; omega)
          have S1 := Lib.hid s1; have S2 := Lib.hid s2
          clear s1 s2
          go_wp2_with fail
          exact ⟨⟨a + 1, y, by congr 1, rfl, by omega, S1.out, S2.out, trivial⟩, by simp [intOf]; omega⟩
      · obtain rfl : a = k := by omega
        have hT : zs.take a = zs := List.take_of_length_le (by rw [← Hk.out]; exact Nat.le_refl _)
        have Hri2 := Lib.hid (show La.rises 0 zs = true by have := Hri.out; rwa [hT] at this)
        have Hla2 := Lib.hid (show La.lastI 0 zs = z by have := Hla.out; rwa [hT] at this)
        clear hT Hri Hla
        by_cases hz : z = n
        · subst hz
          by_cases hb : a ≤ 1000
          · have hb2 : ¬ (1000 : Int) < (a : Int) := by omega
            have He := Lib.hid (@La.newE_good' z zs Hrange.out (by unfold La.newOk; rw [Hri2.out, Hla2.out, decide_eq_true rfl, decide_eq_true (by rw [← Hk.out]; exact hb)]; rfl))
            have hmk := make0_int a (by omega)
            have Hown := Lib.hid (World.ownsRow_made (base := w.heap.size) (e := 3) (size := 1) w (zerosI a) a (Nat.le_refl _) (by unfold maxLen; omega) (by rw [zerosI_size]; omega))
            have Hr1 := Lib.hid (Hr.out.below ((Below.refl w.heap.size w).alloc (Nat.le_refl _) (.cells (zerosI a) 3)) hB)
            have Hk1 := Lib.hid (show a = (zs.map VI).length by rw [List.length_map]; exact Hk.out)
            go_wp2_with (at_builtin; go_loud (refine wpList_append_rd rfl _ _ 22 rfl w.heap.size 3 i0 _ 8 descInts Hi.out hz0 hz1 hz2 rfl _ 0 [] rfl Hown.out B A a cap (zs.map VI) rfl Hk1.out Hnil.out Hr1.out (vi_one zs) (by unfold maxLen; omega) (by omega) (by simp) ?_))
            intro v2 w2 hown2 hg2
            obtain ⟨A2, cap2, rfl, _, _, _⟩ := own_form hown2
            have hb2' : Below w.heap.size w w2 := ((Below.refl w.heap.size w).alloc (Nat.le_refl _) _).grown hg2 (by simp) (fun k hk => by have hk : some w.heap.size = some k := hk; injection hk with hk; omega)
            have Hown2 := Lib.hid hown2; have Hb2 := Lib.hid hb2'
            have hs2 := hb2'.size
            clear hown2 hg2 hb2' hmk Hown
            go_wp2_with fail
            go_ret2
            exact ⟨Hb2.out.alloc hs2 _, Or.inl ⟨He.out, w2.heap.size, A2, cap2, rfl, heap_alloc_new _ _, own_below Hown2.out ((Below.refl w2.heap.size w2).alloc (Nat.le_refl _) _) (Nat.le_refl _), Hk.out, hs2⟩⟩
          · have hb2 : (1000 : Int) < (a : Int) := by omega
            have He := Lib.hid (@La.newE_bad z zs Hrange.out (by unfold La.newOk; rw [decide_eq_false (show ¬ zs.length ≤ 1000 by rw [← Hk.out]; exact hb), Bool.and_false]))
            have hzz : (z != z) = false := by simp
            go_wp2_with fail
            go_ret2
            exact ⟨Below.refl _ _, Or.inr ⟨by rw [He.out]; decide, by rw [He.out]; rfl⟩⟩
        · have hzn : (z != n) = true := by rw [bne_iff_ne]; exact hz
          have He := Lib.hid (@La.newE_bad n zs Hrange.out (by unfold La.newOk; rw [Hla2.out, decide_eq_false hz, Bool.and_false, Bool.false_and]))
          clear hz
          go_wp2_with fail
          go_ret2
          exact ⟨Below.refl _ _, Or.inr ⟨by rw [He.out]; decide, by rw [He.out]; rfl⟩⟩
def RNewAns (w : World) (n : Int) (k : Nat) (zs : List Int) (e : Ending) (w' : World) : Prop := Below w.heap.size w w' ∧ ∃ A' k' cap', e = .returned (.tuple #[.slice A' k' cap', .int .i64 (La.newE n zs)])
set_option maxHeartbeats 4000000 in
set_option maxRecDepth 20000 in
theorem rNew_calls (n : Int) (A : Option Addr) (k cap B : Nat) (zs : List Int) (w : World) (hk : k = zs.length) (hkm : k ≤ 1099511627776) (hB : B ≤ w.heap.size) (hr : Rd w B A (zs.map VI)) :
    Calls Try.prog 14 #[.int .i64 n, .slice A k cap] w (RNewAns w n k zs) := by
  have Hk := Lib.hid hk; have Hr := Lib.hid hr
  clear hk hr
  go_enter Try.func14, Try.ntmps14
  by_cases hrange : n < 0 ∨ 16777216 < n
  · have He := Lib.hid (@La.newE_range n zs hrange)
    rcases (by omega : n < 0 ∨ (¬ n < 0 ∧ (16777216 : Int) < n)) with h1 | ⟨h1, h2⟩
    · clear hrange
      go_wp2_with fail
      go_ret2
      exact ⟨Below.refl _ _, _, _, _, by rw [He.out]; rfl⟩
    · clear hrange
      go_wp2_with fail
      go_ret2
      exact ⟨Below.refl _ _, _, _, _, by rw [He.out]; rfl⟩
  · have Hrange := Lib.hid hrange
    have h1 : ¬ n < 0 := by omega
    have h2 : ¬ (16777216 : Int) < n := by omega
    clear hrange
    go_wp2_with fail
    go_loopw [6, 7] (fun l i wr => ∃ (a : Nat) (z : Int), i = .int .i64 (a : Int) ∧ l = .int .i64 z ∧ a ≤ k ∧ La.rises 0 (zs.take a) = true ∧ La.lastI 0 (zs.take a) = z ∧ w = wr) (fun _ i _ => k - (intOf i).toNat)
    case atStart => exact ⟨0, 0, rfl, rfl, by omega, by simp [La.rises], by simp [La.lastI], rfl⟩
    case round =>
      obtain ⟨a, z, rfl, rfl, ha, hri, hla, rfl⟩ := hrel
      have Hri := Lib.hid hri; have Hla := Lib.hid hla
      clear hri hla
      by_cases hlt : a < k
      · have l1 : (a : Int) < (k : Int) := by omega
        obtain ⟨y, hy⟩ : ∃ y, zs[a]? = some y := ⟨zs[a]'(by rw [← Hk.out]; omega), List.getElem?_eq_getElem _⟩
        obtain ⟨b, off, rfl, _, hc⟩ := rd_get Hr.out hy
        have Hy := Lib.hid hy
        clear hy
        by_cases hle : y ≤ z
        · have He := Lib.hid (@La.newE_bad n zs Hrange.out (La.newOk_not (La.rises_stop Hy.out (by rw [Hla.out]; exact hle))))
          go_wp2_with fail
          go_ret2
          exact ⟨Below.refl _ _, _, _, _, by rw [He.out]; rfl⟩
        · obtain ⟨s1, s2⟩ := La.rises_snoc Hy.out Hri.out (by rw [Hla.out]; omega)
          have S1 := Lib.hid s1; have S2 := Lib.hid s2
          clear s1 s2
          go_wp2_with fail
          exact ⟨⟨a + 1, y, by congr 1, rfl, by omega, S1.out, S2.out, trivial⟩, by simp [intOf]; omega⟩
      · obtain rfl : a = k := by omega
        have hT : zs.take a = zs := List.take_of_length_le (by rw [← Hk.out]; exact Nat.le_refl _)
        have Hri2 := Lib.hid (show La.rises 0 zs = true by have := Hri.out; rwa [hT] at this)
        have Hla2 := Lib.hid (show La.lastI 0 zs = z by have := Hla.out; rwa [hT] at this)
        clear hT Hri Hla
        by_cases hz : z = n
        · subst hz
          by_cases hb : a ≤ 1000
          · have hb2 : ¬ (1000 : Int) < (a : Int) := by omega
            have hzz : (z != z) = false := by simp
            have He := Lib.hid (@La.newE_good' z zs Hrange.out (by unfold La.newOk; rw [Hri2.out, Hla2.out, decide_eq_true rfl, decide_eq_true (by rw [← Hk.out]; exact hb)]; rfl))
            go_wp2_with fail
            refine (ints_calls A a cap B zs w Hk.out (by omega) hB Hr.out).mono ?_
            rintro e w2 ⟨A2, cap2, rfl, hown2, hb2⟩
            have Hb2 := Lib.hid hb2
            clear hown2 hb2
            go_wp2_with fail
            go_ret2
            exact ⟨Hb2.out, _, _, _, by rw [He.out]; rfl⟩
          · have hb2 : (1000 : Int) < (a : Int) := by omega
            have He := Lib.hid (@La.newE_bad z zs Hrange.out (by unfold La.newOk; rw [decide_eq_false (show ¬ zs.length ≤ 1000 by rw [← Hk.out]; exact hb), Bool.and_false]))
            have hzz : (z != z) = false := by simp
            go_wp2_with fail
            go_ret2
            exact ⟨Below.refl _ _, _, _, _, by rw [He.out]; rfl⟩
        · have hzn : (z != n) = true := by rw [bne_iff_ne]; exact hz
          have He := Lib.hid (@La.newE_bad n zs Hrange.out (by unfold La.newOk; rw [Hla2.out, decide_eq_false hz, Bool.and_false, Bool.false_and]))
          clear hz
          go_wp2_with fail
          go_ret2
          exact ⟨Below.refl _ _, _, _, _, by rw [He.out]; rfl⟩
set_option maxHeartbeats 1000000 in
theorem many_calls (n s : Int) (w : World) : Calls Try.prog 33 #[.int .i64 n, .int .i64 s] w fun e w' => e = .returned (.bool (La.many n s)) ∧ w = w' := by
  go_enter Try.func33, Try.ntmps33
  by_cases h0 : n = 0
  · subst h0
    go_wp2_with fail
    go_ret
    exact ⟨rfl, rfl⟩
  · have e0 : (n == 0) = false := by rw [beq_eq_false_iff_ne]; exact h0
    have hm : La.many n s = (decide (1 ≤ s) && decide (s ≤ n) && decide (s ≤ 1000)) := by unfold La.many; rw [if_neg h0]
    have Hm := Lib.hid hm
    clear h0 hm
    by_cases h1 : 1 ≤ s
    · rcases (by omega : (1000 : Int) < n ∨ ¬ (1000 : Int) < n) with h3 | h3
      · have hle : (decide (1 ≤ s) && decide (s ≤ n) && decide (s ≤ 1000)) = decide (s ≤ 1000) := by
          rw [Bool.eq_iff_iff]; simp only [Bool.and_eq_true, decide_eq_true_eq]; omega
        have Hle := Lib.hid hle
        clear hle
        go_wp2_with fail
        go_ret
        exact ⟨by rw [Hm.out, Hle.out]; rfl, rfl⟩
      · have hle : (decide (1 ≤ s) && decide (s ≤ n) && decide (s ≤ 1000)) = decide (s ≤ n) := by
          rw [Bool.eq_iff_iff]; simp only [Bool.and_eq_true, decide_eq_true_eq]; omega
        have Hle := Lib.hid hle
        clear hle
        go_wp2_with fail
        go_ret
        exact ⟨by rw [Hm.out, Hle.out]; rfl, rfl⟩
    · have h2 : ¬ 1 ≤ s := h1
      go_wp2_with fail
      go_ret
      refine ⟨?_, rfl⟩
      rw [Hm.out, decide_eq_false (show ¬ 1 ≤ s by omega)]; rfl
set_option maxHeartbeats 1000000 in
theorem rmany_calls (n s : Int) (w : World) : Calls Try.prog 34 #[.int .i64 n, .int .i64 s] w fun e w' => e = .returned (.bool (La.many n s)) ∧ w = w' := by
  go_enter Try.func34, Try.ntmps34
  by_cases h0 : n = 0
  · subst h0
    go_wp2_with fail
    go_ret
    exact ⟨rfl, rfl⟩
  · have e0 : (n == 0) = false := by rw [beq_eq_false_iff_ne]; exact h0
    have hm : La.many n s = (decide (1 ≤ s) && decide (s ≤ n) && decide (s ≤ 1000)) := by unfold La.many; rw [if_neg h0]
    have Hm := Lib.hid hm
    clear h0 hm
    by_cases h1 : 1 ≤ s
    · by_cases h2 : s ≤ n
      · go_wp2_with fail
        go_ret
        refine ⟨?_, rfl⟩
        rw [Hm.out, decide_eq_true h1, decide_eq_true h2]; rfl
      · go_wp2_with fail
        go_ret
        refine ⟨?_, rfl⟩
        rw [Hm.out, decide_eq_false (show ¬ s ≤ n by omega), Bool.and_false]; rfl
    · have h2 : ¬ 1 ≤ s := h1
      go_wp2_with fail
      go_ret
      refine ⟨?_, rfl⟩
      rw [Hm.out, decide_eq_false (show ¬ 1 ≤ s by omega)]; rfl
end Go.Proofs.Ytlceolhfkioojaa
