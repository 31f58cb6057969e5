/- FrameDecodes: the walk -/
import Derived.Test.YtnbagbenpojpnaaDoorLawEnc
namespace Go.Proofs.YtnbagbenpojpnaaDoor
open Go.RowKit
set_option linter.unusedSimpArgs false
set_option linter.unusedVariables false
attribute [local go_sem ↓] loadF storeF
attribute [local go_sem] isLoadOf loadArg isRowAt_ptr rowAt_ptr blkOf_ptr aggOf_agg isAggV_agg isRow_alloc_new pair_cells
def decK (bs : List (BitVec 8)) : Int := if Fr.good bs = true then (n8 (Fr.kOf bs) : Int) else 0
def decP (bs : List (BitVec 8)) : List (BitVec 8) := if Fr.good bs = true then Fr.pOf bs else []
def decN (bs : List (BitVec 8)) : Int := if Fr.good bs = true then ((Fr.nOf bs + 12 : Nat) : Int) else 0
def decE (bs : List (BitVec 8)) : Int := if Fr.good bs = true then 0 else 32
theorem decE_small (bs : List (BitVec 8)) : 0 ≤ decE bs ∧ decE bs ≤ 100 := by unfold decE; split <;> omega
theorem dec_uni {bs : List (BitVec 8)} {w w' : World} {e : Ending} (h : DecAns bs w e w') : Below w.heap.size w w' ∧ ∃ A' cap', e = .returned (.tuple #[VF (decK bs) A' (decP bs).length cap', .int .i64 (decN bs), .int .i64 (decE bs)]) ∧
    w'.ownsRow w.heap.size 5 1 (.slice A' (decP bs).length cap') (decP bs).length ((decP bs).map V8) := by
  obtain ⟨hb, h⟩ := h
  refine ⟨hb, ?_⟩
  rcases h with ⟨hg, rfl⟩ | ⟨hg, A', cap', rfl, ho⟩
  · refine ⟨none, 0, ?_, ?_⟩ <;> (unfold decP; rw [if_neg (by rw [hg]; simp)])
    · unfold decK decN decE; rw [if_neg (by rw [hg]; simp), if_neg (by rw [hg]; simp), if_neg (by rw [hg]; simp)]; rfl
    · exact own_none _ _ _
  · have hl : (Fr.pOf bs).length = Fr.nOf bs := Fr.pOf_length (by have := Fr.good_len hg; omega)
    refine ⟨A', cap', ?_, ?_⟩ <;> (unfold decP; rw [if_pos hg, hl])
    · unfold decK decN decE; rw [if_pos hg, if_pos hg, if_pos hg]
    · exact ho
theorem own_cap {w : World} {base : Nat} {t : TypeId} {A : Option Addr} {n cap : Nat} {xs : List Value} (h : w.ownsRow base t 1 (.slice A n cap) n xs) : n ≤ cap ∧ cap ≤ maxLen := by
  obtain ⟨_, _, e, h1, h2, _⟩ := own_form h
  injection e with _ _ e; subst e; exact ⟨h1, h2⟩
set_option maxHeartbeats 2000000 in
theorem law_decodes (A : Option Addr) (n cap : Nat) (bs : List (BitVec 8)) (w : World) (ha : In8 w A n cap bs) (ht : TabIn w) :
    Calls Tryd.prog 4 #[.slice A n cap] w fun e w' => e = .returned (.bool true) ∧ Below w.heap.size w w' := by
  obtain ⟨hn, hc, hcm, hnil, hr⟩ := ha
  have Hn := Lib.hid hn; have Hnil := Lib.hid hnil; have Hr := Lib.hid hr; have Ht := Lib.hid ht
  have Hcm := Lib.hid hcm
  unfold maxLen at hcm
  clear hn hnil hr ht
  go_enter Tryd.func4, Tryd.ntmps4
  go_wp2_with fail
  refine (first_calls w Ht.out).mono ?_
  rintro e w1 ⟨rfl, hb1⟩
  have Hb1 := Lib.hid hb1
  clear hb1
  by_cases hbig : n ≤ 1048576
  · have hbi : ¬ (1048576 : Int) < (n : Int) := by omega
    go_wp2_with fail
    refine (bytes_calls A n cap w.heap.size bs w1 Hn.out (by omega) Hnil.out Hb1.out.size (Hr.out.below Hb1.out (Nat.le_refl _))).mono ?_
    rintro e w2 ⟨A2, cap2, rfl, hown2, hb2⟩
    have hc2 := (own_cap hown2).1
    have Hb2 := Lib.hid (Hb1.out.trans (hb2.mono Hb1.out.size))
    have Hown2 := Lib.hid hown2
    clear hown2 hb2
    go_wp2_with fail
    refine (decode_calls A2 n cap2 w2.heap.size bs w2 Hn.out (by unfold maxLen; omega) (own_rd Hown2.out) (Nat.le_refl _) hc2 (tabIn_of Ht.out Hb2.out)).mono ?_
    intro e w3 hans
    obtain ⟨hb3, A3, cap3, rfl, hown3⟩ := dec_uni hans
    clear hans
    have Hb3 := Lib.hid (Hb2.out.trans (hb3.mono Hb2.out.size))
    have Hown3 := Lib.hid hown3
    clear hown3 hb3
    have hpc3 : Cells1 #[.int .i64 (decK bs), .slice A3 (decP bs).length cap3] 2 := pair_cells _ _ _ _
    go_wp2_with fail
    have hbw : Below w3.heap.size w3 ((w3.alloc (.cells #[.int .i64 0, .slice none 0 0] 24)).setRow w3.heap.size #[.int .i64 (decK bs), .slice A3 (decP bs).length cap3]) :=
      below_setRow ((Below.refl _ _).alloc (Nat.le_refl _) _) (Nat.le_refl _) _
    have hg3 : ((w3.alloc (.cells #[.int .i64 0, .slice none 0 0] 24)).setRow w3.heap.size #[.int .i64 (decK bs), .slice A3 (decP bs).length cap3]).heap[w3.heap.size]? = some (.cells #[.int .i64 (decK bs), .slice A3 (decP bs).length cap3] 24 (0, 0)) :=
      setRow_heap _ _ _ _ _ _ (heap_alloc_new _ _)
    generalize (w3.alloc (.cells #[.int .i64 0, .slice none 0 0] 24)).setRow w3.heap.size #[.int .i64 (decK bs), .slice A3 (decP bs).length cap3] = W3 at *
    have hs3 := lt_heap hg3
    have HbW := Lib.hid (Hb3.out.trans (hbw.mono Hb3.out.size))
    have HownW := Lib.hid (own_below Hown3.out hbw (Nat.le_refl _))
    have Hg3 := Lib.hid hg3
    clear hbw hg3 hpc3
    refine (rdecode_calls A n cap w.heap.size bs W3 Hn.out (by unfold maxLen; omega) (Hr.out.below HbW.out (Nat.le_refl _)) HbW.out.size hc).mono ?_
    intro e w4 hans
    obtain ⟨hb4, A4, cap4, rfl, hown4⟩ := dec_uni hans
    clear hans
    have hs4 := hb4.size
    have Hb4 := Lib.hid (HbW.out.trans (hb4.mono HbW.out.size))
    have Hown4 := Lib.hid hown4
    have Hown34 := Lib.hid (own_below HownW.out hb4 (Nat.le_refl _))
    have Hg34 : Hid (w4.heap[w3.heap.size]? = _) := Lib.hid ((hb4.block _ hs3).trans Hg3.out)
    clear hown4 hb4 HownW Hg3
    have hpc4 : Cells1 #[.int .i64 (decK bs), .slice A4 (decP bs).length cap4] 2 := pair_cells _ _ _ _
    have hbw : Below w4.heap.size w4 ((w4.alloc (.cells #[.int .i64 0, .slice none 0 0] 24)).setRow w4.heap.size #[.int .i64 (decK bs), .slice A4 (decP bs).length cap4]) :=
      below_setRow ((Below.refl _ _).alloc (Nat.le_refl _) _) (Nat.le_refl _) _
    have hg4 : ((w4.alloc (.cells #[.int .i64 0, .slice none 0 0] 24)).setRow w4.heap.size #[.int .i64 (decK bs), .slice A4 (decP bs).length cap4]).heap[w4.heap.size]? = some (.cells #[.int .i64 (decK bs), .slice A4 (decP bs).length cap4] 24 (0, 0)) :=
      setRow_heap _ _ _ _ _ _ (heap_alloc_new _ _)
    have hg5 := (hbw.block w3.heap.size (by omega)).trans Hg34.out
    have hrow4 : IsRow ((w4.alloc (.cells #[.int .i64 0, .slice none 0 0] 24)).setRow w4.heap.size #[.int .i64 (decK bs), .slice A4 (decP bs).length cap4]) w4.heap.size 24 2 := ⟨_, hg4, rfl⟩
    have hrow3 : IsRow ((w4.alloc (.cells #[.int .i64 0, .slice none 0 0] 24)).setRow w4.heap.size #[.int .i64 (decK bs), .slice A4 (decP bs).length cap4]) w3.heap.size 24 2 := ⟨_, hg5, rfl⟩
    have hro4 := rowOf_eq hg4
    have hro3 := rowOf_eq hg5
    have HbX := Lib.hid (Hb4.out.trans (hbw.mono Hb4.out.size))
    have O3 := Lib.hid (own_below Hown34.out hbw (Nat.le_refl _))
    have O4 := Lib.hid (own_below Hown4.out hbw (Nat.le_refl _))
    clear hbw hg4 hg5
    go_wp2_with fail
    refine (sameF_calls (decK bs) (decK bs) A3 A4 _ cap3 _ cap4 _ _ (decP bs) (decP bs) _ rfl rfl (fun h => (own_nil O3.out h).1) (fun h => (own_nil O4.out h).1) (own_rd O3.out) (own_rd O4.out) (Nat.le_refl _) (Nat.le_refl _)).mono ?_
    rintro e w6 ⟨rfl, hb6⟩
    rw [decide_eq_true rfl]
    have H6 := Lib.hid (HbX.out.trans (hb6.mono HbX.out.size))
    have he := decE_small bs
    clear hb6 hrow4 hrow3 hro4 hro3 hpc4
    have hkk : (decK bs == decK bs) = true := by simp
    go_wp2_with (go_at_call 16; refine (num_calls _ _ he.1 he.2).mono ?_; rintro e w' ⟨rfl, rfl⟩)
    go_ret
    exact ⟨by simp, H6.out⟩
  · have hbi : (1048576 : Int) < (n : Int) := by omega
    go_wp2_with fail
    go_ret
    exact ⟨rfl, Hb1.out⟩
end Go.Proofs.YtnbagbenpojpnaaDoor
