/- text.words -/
import Derived.Test.YtmeoafodcniliaaGreatDoorTxM
import Derived.Test.YtmeoafodcniliaaGreatDoorTxJ
import Derived.Test.YtmeoafodcniliaaGreatDoorHelp
import Derived.BigQuiet
namespace Go.Proofs.YtmeoafodcniliaaGreatDoor.C4
open Go.RowKit
set_option linter.unusedSimpArgs false
set_option linter.unusedVariables false
/-- A word as a slice into its line. -/
abbrev VW (A : Option Addr) (p : Nat × Nat) : Value := match A with | some a => .slice (some ⟨a.block, a.off + p.1, a.spot⟩) p.2 p.2 | none => .slice none 0 0
def WF (A : Option Addr) (n cap : Nat) (l i f : Value) (a : Act) : Prop := ∃ u1 u2 u6 u7 u8 u9 u10 u11 u12 u13 u14 u15 u16 u17 u18 u19 u20 u21 u22 u23 u24 u25 u26 u27 u28 u29 u30 u31 u32 u33 u34 u35 u36 u37 u38 u39 u40 u41 u42 u43 u44 u45 u46 u47 u48 u49 u50 u51 u52 u53 u54 u55 u56 u57 u58 u59 u60 u61 u62 u63 u64 u65 u66 u67 : Value, a = { tmps := List.toArray (.slice A n cap :: u1 :: u2 :: l :: i :: f :: u6 :: u7 :: u8 :: u9 :: u10 :: u11 :: u12 :: u13 :: u14 :: u15 :: u16 :: u17 :: u18 :: u19 :: u20 :: u21 :: u22 :: u23 :: u24 :: u25 :: u26 :: u27 :: u28 :: u29 :: u30 :: u31 :: u32 :: u33 :: u34 :: u35 :: u36 :: u37 :: u38 :: u39 :: u40 :: u41 :: u42 :: u43 :: u44 :: u45 :: u46 :: u47 :: u48 :: u49 :: u50 :: u51 :: u52 :: u53 :: u54 :: u55 :: u56 :: u57 :: u58 :: u59 :: u60 :: u61 :: u62 :: u63 :: u64 :: u65 :: u66 :: u67 :: []), defers := [] }
theorem infoBs : (Tryz.prog.info? 22).map (fun i => (i.zero, i.size, i.bytes)) = some (some (.slice none 0 0), 1, 24) := by kernel_rfl
theorem descBss : Tryz.prog.underlying 26 = some (.slice 22) := by kernel_rfl
theorem vw_one (A : Option Addr) (ps : List (Nat × Nat)) : ∀ u ∈ ps.map (VW A), u.oneCell' = true := by
  intro u hu; obtain ⟨p, _, rfl⟩ := List.mem_map.1 hu; cases A <;> rfl
/-- What holds where a blank may stand. -/
def WJ0 (A : Option Addr) (n cap : Nat) (bs : List (BitVec 8)) (w : World) (a : Act) (w' : World) : Prop :=
  ∃ (done : List (Nat × Nat)) (i : Nat) (lv fv : Value), WF A n cap lv (.int .i64 (i : Int)) fv a ∧ i ≤ n ∧ w'.ownsRow w.heap.size 22 1 lv done.length (done.map (VW A)) ∧ Below w.heap.size w w' ∧ Tx.spans bs = done ++ Tx.sS none i (bs.drop i) ∧ done.length ≤ i
/-- What holds within a word. -/
def WJ1 (A : Option Addr) (n cap : Nat) (bs : List (BitVec 8)) (w : World) (a : Act) (w' : World) : Prop :=
  ∃ (done : List (Nat × Nat)) (i f : Nat) (lv : Value), WF A n cap lv (.int .i64 (i : Int)) (.int .i64 (f : Int)) a ∧ i ≤ n ∧ f < i ∧ w'.ownsRow w.heap.size 22 1 lv done.length (done.map (VW A)) ∧ Below w.heap.size w w' ∧ Tx.spans bs = done ++ Tx.sS (some f) i (bs.drop i) ∧ done.length ≤ f
def Wμ (n : Nat) (a : Act) (w : World) : Nat := 2 * (n - (intOf (a.tmps.getD 4 undef)).toNat)
set_option maxHeartbeats 8000000 in
set_option maxRecDepth 20000 in
theorem words_calls (A : Option Addr) (n cap B : Nat) (bs : List (BitVec 8)) (w : World) (hn : n = bs.length) (hm : n ≤ 1099511627776) (hcap : n ≤ cap) (hnil : A = none → n = 0 ∧ cap = 0) (hB : B ≤ w.heap.size) (hr : Rd w B A (bs.map V8)) :
    Calls Tryz.prog 65 #[.slice A n cap] w fun e w' => ∃ A' cap', e = .returned (.slice A' (Tx.spans bs).length cap') ∧ w'.ownsRow w.heap.size 22 1 (.slice A' (Tx.spans bs).length cap') (Tx.spans bs).length ((Tx.spans bs).map (VW A)) ∧ Below w.heap.size w w' := by
  go_enter Tryz.func65, Tryz.ntmps65
  go_wp2_with fail
  refine wp_scope_two (WJ0 A n cap bs w) (WJ1 A n cap bs w) (Wμ n) (fun a w' => Wμ n a w' + 1) rfl rfl ?_ ?_ ?_
  · intro hgo
    go_wp2_with fail
    go_step3
    simp only [Exit.then]
    rename_i hK
    refine hK _ _ (hgo _ _ ?_)
    exact ⟨[], 0, _, _, ⟨_, _, _, _, _, _, _, _, _, _, _, _, _, _, _, _, _, _, _, _, _, _, _, _, _, _, _, _, _, _, _, _, _, _, _, _, _, _, _, _, _, _, _, _, _, _, _, _, _, _, _, _, _, _, _, _, _, _, _, _, _, _, _, _, rfl⟩, by omega, World.ownsRow_nil w _ _ _, Below.refl _ _, rfl, by simp⟩
  · rintro a' w' ⟨done, i, lv, fv, ⟨u1, u2, u6, u7, u8, u9, u10, u11, u12, u13, u14, u15, u16, u17, u18, u19, u20, u21, u22, u23, u24, u25, u26, u27, u28, u29, u30, u31, u32, u33, u34, u35, u36, u37, u38, u39, u40, u41, u42, u43, u44, u45, u46, u47, u48, u49, u50, u51, u52, u53, u54, u55, u56, u57, u58, u59, u60, u61, u62, u63, u64, u65, u66, u67, rfl⟩, hi, hown, hbl, hsp, hdl⟩
    obtain ⟨A1, cap1, rfl, hc1, hm1, _⟩ := own_form hown
    have Hown := Lib.hid hown; have Hbl := Lib.hid hbl; have Hsp := Lib.hid hsp; have Hn := Lib.hid hn; have Hr := Lib.hid hr; have Hnil := Lib.hid hnil
    clear hown hbl hsp hn hr hnil
    by_cases hlt : i < n
    · have q1 : (i : Int) < (n : Int) := by omega
      have q0 : ((i : Int) == (n : Int)) = false := by simp; omega
      obtain ⟨c, hc⟩ : ∃ c, bs[i]? = some c := ⟨bs[i]'(by rw [← Hn.out]; omega), List.getElem?_eq_getElem _⟩
      obtain ⟨b, off, rfl, hb, hcell⟩ := (Hr.out.below Hbl.out hB) i (V8 c) (by rw [List.getElem?_map, hc]; rfl)
      have hdrop : bs.drop i = c :: bs.drop (i + 1) := by
        have h1 : i < bs.length := (List.getElem?_eq_some_iff.1 hc).1
        rw [List.drop_eq_getElem_cons h1]; congr 1
        exact (List.getElem?_eq_some_iff.1 hc).2
      rw [hdrop] at Hsp
      clear hc hdrop
      cases hh : Tx.isHash c with
      | true =>
        have t1 : ((n8 c : Int) == 35) = true := by unfold Tx.isHash at hh; simp at hh ⊢; omega
        have Hfin := Lib.hid (show Tx.spans bs = done by have := Hsp.out; rw [Tx.sS_hash _ _ _ hh, List.append_nil] at this; exact this)
        clear hh
        go_wp2_with fail
        simp only [Jumps]
        go_ret
        rw [Hfin.out]
        exact ⟨_, _, rfl, Hown.out, Hbl.out⟩
      | false =>
        have t1 : ((n8 c : Int) == 35) = false := by unfold Tx.isHash at hh; simp at hh ⊢; omega
        cases hbl : Tx.isBl c with
        | true =>
          have Hfin := Lib.hid (show Tx.spans bs = done ++ Tx.sS none (i + 1) (bs.drop (i + 1)) by have := Hsp.out; rw [Tx.sS_blank _ _ _ hh hbl] at this; exact this)
          have t2 : ((n8 c : Int) == 32) = true ∨ (((n8 c : Int) == 32) = false ∧ ((n8 c : Int) == 9) = true) := by unfold Tx.isBl at hbl; simp at hbl ⊢; omega
          clear hh hbl
          rcases t2 with t2 | ⟨t2, t3⟩
          all_goals
            go_wp2_with fail
            go_step3
            refine ⟨rfl, ?_⟩
            dsimp only
            rw [if_pos rfl]
            exact ⟨⟨done, i + 1, _, _, ⟨_, _, _, _, _, _, _, _, _, _, _, _, _, _, _, _, _, _, _, _, _, _, _, _, _, _, _, _, _, _, _, _, _, _, _, _, _, _, _, _, _, _, _, _, _, _, _, _, _, _, _, _, _, _, _, _, _, _, _, _, _, _, _, _, rfl⟩, by omega, Hown.out, Hbl.out, Hfin.out, by omega⟩, by simp [Wμ, intOf]; omega⟩
        | false =>
          have Hfin := Lib.hid (show Tx.spans bs = done ++ Tx.sS (some i) (i + 1) (bs.drop (i + 1)) by have := Hsp.out; rw [Tx.sS_word _ _ _ hh hbl] at this; exact this)
          have t2 : ((n8 c : Int) == 32) = false := by unfold Tx.isBl at hbl; simp at hbl ⊢; omega
          have t3 : ((n8 c : Int) == 9) = false := by unfold Tx.isBl at hbl; simp at hbl ⊢; omega
          have s1 : ((n8 c : Int) != 35) = true := by simpa [bne] using t1
          have s2 : ((n8 c : Int) != 32) = true := by simpa [bne] using t2
          have s3 : ((n8 c : Int) != 9) = true := by simpa [bne] using t3
          clear hh hbl
          go_wp2_with fail
          go_step3
          go_wp2_with fail
          go_step3
          refine ⟨rfl, ?_⟩
          dsimp only
          rw [if_neg (by decide)]
          exact ⟨⟨done, i + 1, i, _, ⟨_, _, _, _, _, _, _, _, _, _, _, _, _, _, _, _, _, _, _, _, _, _, _, _, _, _, _, _, _, _, _, _, _, _, _, _, _, _, _, _, _, _, _, _, _, _, _, _, _, _, _, _, _, _, _, _, _, _, _, _, _, _, _, _, rfl⟩, by omega, by omega, Hown.out, Hbl.out, Hfin.out, by omega⟩, by simp [Wμ, intOf]; omega⟩
    · obtain rfl : i = n := by omega
      have Hfin := Lib.hid (show Tx.spans bs = done by have := Hsp.out; rw [Hn.out, List.drop_length, Tx.sS_none_nil, List.append_nil] at this; exact this)
      go_wp2_with fail
      simp only [Jumps]
      go_ret
      rw [Hfin.out]
      exact ⟨_, _, rfl, Hown.out, Hbl.out⟩
  · rintro a' w' ⟨done, i, f, lv, ⟨u1, u2, u6, u7, u8, u9, u10, u11, u12, u13, u14, u15, u16, u17, u18, u19, u20, u21, u22, u23, u24, u25, u26, u27, u28, u29, u30, u31, u32, u33, u34, u35, u36, u37, u38, u39, u40, u41, u42, u43, u44, u45, u46, u47, u48, u49, u50, u51, u52, u53, u54, u55, u56, u57, u58, u59, u60, u61, u62, u63, u64, u65, u66, u67, rfl⟩, hi, hfi, hown, hbl, hsp, hdl⟩
    obtain ⟨A1, cap1, rfl, hc1, hm1, _⟩ := own_form hown
    obtain ⟨i0, hi0, hz0, hz1, hz2⟩ := info_parts infoBs
    have Hi0 := Lib.hid hi0
    have Hown := Lib.hid hown; have Hbl := Lib.hid hbl; have Hsp := Lib.hid hsp; have Hn := Lib.hid hn; have Hr := Lib.hid hr; have Hnil := Lib.hid hnil
    clear hown hbl hsp hn hr hnil hi0
    obtain ⟨ad, hA⟩ : ∃ ad : Addr, A = some ad := by
      cases A with
      | none => have := Hnil.out rfl; omega
      | some ad => exact ⟨ad, rfl⟩
    subst hA
    obtain ⟨b, off, spot⟩ := ad
    have key : (i < n ∧ ∃ c, bs[i]? = some c ∧ Tx.isHash c = false ∧ Tx.isBl c = false) ∨ (∀ c r, bs.drop i = c :: r → Tx.isHash c = true ∨ Tx.isBl c = true) := by
      by_cases hlt : i < n
      · have h1 : i < bs.length := by rw [← Hn.out]; exact hlt
        have hdrop : bs.drop i = bs[i] :: bs.drop (i + 1) := List.drop_eq_getElem_cons h1
        cases hh : Tx.isHash bs[i] with
        | true => right; intro c r h; rw [hdrop] at h; injection h with h _; subst h; exact Or.inl hh
        | false =>
          cases hb : Tx.isBl bs[i] with
          | true => right; intro c r h; rw [hdrop] at h; injection h with h _; subst h; exact Or.inr hb
          | false => exact Or.inl ⟨hlt, bs[i], List.getElem?_eq_getElem h1, hh, hb⟩
      · right; intro c r h
        rw [List.drop_of_length_le (by rw [← Hn.out]; omega)] at h; cases h
    rcases key with ⟨hlt, c, hc, hh, hb⟩ | hend
    · have q1 : (i : Int) < (n : Int) := by omega
      obtain ⟨b', off', he, _, hcell⟩ := (Hr.out.below Hbl.out hB) i (V8 c) (by rw [List.getElem?_map, hc]; rfl)
      injection he with he; injection he with e1 e2 e3
      subst e1 e2 e3
      have hdrop : bs.drop i = c :: bs.drop (i + 1) := by
        have h1 : i < bs.length := (List.getElem?_eq_some_iff.1 hc).1
        rw [List.drop_eq_getElem_cons h1]; congr 1
        exact (List.getElem?_eq_some_iff.1 hc).2
      rw [hdrop] at Hsp
      have Hfin := Lib.hid (show Tx.spans bs = done ++ Tx.sS (some f) (i + 1) (bs.drop (i + 1)) by have := Hsp.out; rw [Tx.sS_on _ _ _ _ hh hb] at this; exact this)
      have s1 : ((n8 c : Int) != 35) = true := by unfold Tx.isHash at hh; simp at hh ⊢; omega
      have s2 : ((n8 c : Int) != 32) = true := by unfold Tx.isBl at hb; simp at hb ⊢; omega
      have s3 : ((n8 c : Int) != 9) = true := by unfold Tx.isBl at hb; simp at hb ⊢; omega
      clear hh hb hc hdrop
      go_wp2_with fail
      go_step3
      refine ⟨rfl, ?_⟩
      dsimp only
      rw [if_neg (by decide)]
      exact ⟨⟨done, i + 1, f, _, ⟨_, _, _, _, _, _, _, _, _, _, _, _, _, _, _, _, _, _, _, _, _, _, _, _, _, _, _, _, _, _, _, _, _, _, _, _, _, _, _, _, _, _, _, _, _, _, _, _, _, _, _, _, _, _, _, _, _, _, _, _, _, _, _, _, rfl⟩, by omega, by omega, Hown.out, Hbl.out, Hfin.out, by omega⟩, by simp [Wμ, intOf]; omega⟩
    · have Hfin := Lib.hid (show Tx.spans bs = (done ++ [(f, i - f)]) ++ Tx.sS none i (bs.drop i) by have := Hsp.out; rw [Tx.sS_end f i _ hend, ← List.singleton_append, ← List.append_assoc] at this; exact this)
      have tests : (¬ (i : Int) < (n : Int)) ∨ ((i : Int) < (n : Int) ∧ ∃ c : BitVec 8, w'.cell? ⟨b, off + i, spot⟩ = some (V8 c) ∧ (((n8 c : Int) != 35) = false ∨ (((n8 c : Int) != 35) = true ∧ (((n8 c : Int) != 32) = false ∨ (((n8 c : Int) != 32) = true ∧ ((n8 c : Int) != 9) = false))))) := by
        by_cases hlt : i < n
        · right
          refine ⟨by omega, ?_⟩
          have h1 : i < bs.length := by rw [← Hn.out]; exact hlt
          have hdrop : bs.drop i = bs[i] :: bs.drop (i + 1) := List.drop_eq_getElem_cons h1
          obtain ⟨b', off', he, _, hcell⟩ := (Hr.out.below Hbl.out hB) i (V8 bs[i]) (by rw [List.getElem?_map, List.getElem?_eq_getElem h1]; rfl)
          injection he with he; injection he with e1 e2 e3
          subst e1 e2 e3
          refine ⟨bs[i], hcell, ?_⟩
          have := hend _ _ hdrop
          unfold Tx.isHash Tx.isBl at this
          simp at this ⊢; omega
        · left; omega
      have hspot : spot = none := by
        have h0 : 0 < bs.length := by have := Hn.out; omega
        obtain ⟨b', off', he, _, hcell⟩ := Hr.out 0 (V8 bs[0]) (by rw [List.getElem?_map, List.getElem?_eq_getElem h0]; rfl)
        injection he with he; injection he with e1 e2 e3
      subst hspot
      clear hend
      have f1 : (f : Int) < (i : Int) := by omega
      have Hown2 := Lib.hid (own_below Hown.out ((Below.refl w'.heap.size w').alloc (Nat.le_refl _) (.cells #[.slice (some ⟨b, off + f, none⟩) (i - f) (i - f)] 22)) (Nat.le_refl _))
      have Hrd := Lib.hid (show Rd (w'.alloc (.cells #[.slice (some ⟨b, off + f, none⟩) (i - f) (i - f)] 22)) (w'.heap.size + 1) (some ⟨w'.heap.size, 0, none⟩) [.slice (some ⟨b, off + f, none⟩) (i - f) (i - f)] from by
        intro k v hv
        refine ⟨w'.heap.size, 0, rfl, by omega, ?_⟩
        rw [Nat.zero_add, World.cell?_alloc_mark, ← hv]; simp)
      rcases tests with q1 | ⟨q1, c, hcell, (s1 | ⟨s1, (s2 | ⟨s2, s3⟩)⟩)⟩
      all_goals
        go_wp2_with (at_builtin; refine wpList_append_rd rfl _ _ 26 rfl w.heap.size 22 i0 _ 24 descBss Hi0.out hz0 hz1 hz2 rfl _ done.length (done.map (VW (some ⟨b, off, none⟩))) rfl Hown2.out _ (some ⟨w'.heap.size, 0, none⟩) 1 1 [.slice (some ⟨b, off + f, none⟩) (i - f) (i - f)] rfl rfl (by intro h; cases h) Hrd.out (by intro u hu; simp at hu; subst hu; rfl) (by unfold maxLen; omega) (by omega) (by have := Hbl.out.size; simp; omega) ?_)
        intro v4 w4 hown4 hg4
        rw [show done.map (VW (some ⟨b, off, none⟩)) ++ [.slice (some ⟨b, off + f, none⟩) (i - f) (i - f)] = (done ++ [(f, i - f)]).map (VW (some ⟨b, off, none⟩)) by rw [List.map_append]; rfl] at hown4
        obtain ⟨A4, cap4, rfl, _, _, _⟩ := own_form hown4
        have hb4 : Below w.heap.size w w4 := (Hbl.out.alloc Hbl.out.size _).grown hg4 (by have := Hbl.out.size; simp; omega) fun k hk => (Hown2.out.lt k hk).1
        have Hb4 := Lib.hid hb4
        have Hown4 := Lib.hid (show w4.ownsRow w.heap.size 22 1 (.slice A4 (done.length + 1) cap4) (done ++ [(f, i - f)]).length ((done ++ [(f, i - f)]).map (VW (some ⟨b, off, none⟩))) by rw [List.length_append]; exact hown4)
        clear hown4 hg4 hb4 Hown2 Hrd
        go_wp2_with fail
        go_step3
        refine ⟨rfl, ?_⟩
        dsimp only
        rw [if_pos rfl]
        exact ⟨⟨done ++ [(f, i - f)], i, _, _, ⟨_, _, _, _, _, _, _, _, _, _, _, _, _, _, _, _, _, _, _, _, _, _, _, _, _, _, _, _, _, _, _, _, _, _, _, _, _, _, _, _, _, _, _, _, _, _, _, _, _, _, _, _, _, _, _, _, _, _, _, _, _, _, _, _, rfl⟩, hi, Hown4.out, Hb4.out, Hfin.out, by simp; omega⟩, by simp [Wμ, intOf]⟩
end Go.Proofs.YtmeoafodcniliaaGreatDoor.C4
