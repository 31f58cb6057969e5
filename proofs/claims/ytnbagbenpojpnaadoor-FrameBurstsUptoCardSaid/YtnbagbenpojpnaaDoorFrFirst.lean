/- pithlaw3.first -/
import Derived.Test.YtnbagbenpojpnaaDoorFrSmall
import Derived.Test.YtnbagbenpojpnaaDoorFrameN
namespace Go.Proofs.YtnbagbenpojpnaaDoor
open Go.RowKit
set_option linter.unusedSimpArgs false
set_option linter.unusedVariables false
def abc : List (BitVec 8) := [97#8, 98#8, 99#8]
def fa : List (BitVec 8) := Fr.encode 2#8 abc
def fb : List (BitVec 8) := Fr.encode 1#8 []
theorem encL_a : encL 2 abc = fa := rfl
theorem encE_a : encE 2 abc = 0 := rfl
theorem encL_b : encL 1 [] = fb := rfl
theorem encE_b : encE 1 [] = 0 := rfl
theorem fa_len : fa.length = 15 := by unfold fa; rw [Fr.encode_length]; rfl
theorem fb_len : fb.length = 12 := by unfold fb; rw [Fr.encode_length]; rfl
theorem fa_4 : fa.take 4 = [112#8, 2#8, 0#8, 3#8] := rfl
theorem fa_8 : (fa.drop 8).take 3 = abc := by decide +kernel
theorem fb_8 : fb.drop 8 = [0#8, 0#8, 0#8, 0#8] := by decide +kernel
theorem fab : fa ++ fb = Fr.joinF [(2#8, abc), (1#8, [])] := by simp [Fr.joinF, fa, fb]
theorem fab_len : (fa ++ fb).length = 27 := by rw [List.length_append, fa_len, fb_len]
theorem fab_rows : Fr.rows (fa ++ fb).length (fa ++ fb) = [(2#8, abc), (1#8, [])] ∧ Fr.rowsAt (fa ++ fb).length (fa ++ fb) = 27 := by
  have h := Fr.rows_join [(2#8, abc), (1#8, [])] [] (fa ++ fb).length (by
    intro x hx; simp at hx; rcases hx with rfl | rfl <;> exact ⟨by decide, by decide⟩) (by rw [fab_len]; simp)
  rw [List.append_nil, ← fab, Fr.rows_nil, Fr.rowsAt_nil, fab_len] at h
  rw [fab_len]; exact h
theorem own_some {w : World} {base s : Nat} {t : TypeId} {A : Option Addr} {n cap : Nat} {xs : List Value} (h : w.ownsRow base t s (.slice A n cap) n xs) (h0 : 0 < n) : ∃ g, A = some ⟨g, 0, none⟩ ∧ n ≤ cap := by
  rcases h.2 with ⟨_, rfl⟩ | ⟨g, cap', cur, e, _, _, hc, _⟩
  · omega
  · injection e with e1 _ e2; subst e1; subst e2; exact ⟨g, rfl, hc⟩
theorem rd_at0 {w : World} {B g : Nat} {bs : List (BitVec 8)} (h : Rd w B (some ⟨g, 0, none⟩) (bs.map V8)) (o n : Nat) : Rd w B (some ⟨g, o, none⟩) (((bs.drop o).take n).map V8) := by
  have := rd_sub8 h o n
  rwa [Nat.zero_add] at this
set_option maxHeartbeats 2000000 in
theorem first_calls (w : World) (ht : TabIn w) : Calls Tryd.prog 11 #[] w fun e w' => e = .returned (.bool true) ∧ Below w.heap.size w w' := by
  have kc := conv_mark
  obtain ⟨i0, hi, hz0, hz1, hz2⟩ := info_parts infoU8
  have Hi := Lib.hid hi; clear hi
  have Ht := Lib.hid ht; clear ht
  go_enter Tryd.func11, Tryd.ntmps11
  go_wp2_with fail
  refine (encode_any 2 _ 3 3 _ abc _ rfl (rd_mark _ _ _ _ _ _ rfl rfl) (by simp) (Ht.out.below ((Below.refl _ _).alloc (Nat.le_refl _) _))).mono ?_
  rintro e w1 ⟨hb1, A1, cap1, rfl, hown1⟩
  rw [encL_a, encE_a, fa_len] at *
  have hbl1 : Below w.heap.size w w1 := ((Below.refl _ _).alloc (Nat.le_refl _) _).trans (hb1.mono (by simp))
  have hs1 := hbl1.size
  have Hb1 := Lib.hid hbl1
  have Hown1 := Lib.hid (own_base hown1 (show w.heap.size ≤ _ by simp))
  clear hb1 hown1 hbl1
  go_wp2_with fail
  refine (encode_any 1 none 0 0 w1.heap.size [] w1 rfl (Rd.nil _ _ _) (Nat.le_refl _) (tabIn_of Ht.out Hb1.out)).mono ?_
  rintro e w2 ⟨hb2, A2, cap2, rfl, hown2⟩
  rw [encL_b, encE_b, fb_len] at *
  have hs2 := hb2.size
  have Hb2 := Lib.hid (Hb1.out.trans (hb2.mono hs1))
  have Hown12 := Lib.hid (own_below Hown1.out hb2 (Nat.le_refl _))
  have Hown2 := Lib.hid (own_base hown2 hs1)
  clear hb2 hown2 Hown1
  go_wp2_with (go_at_call 16; refine (num_calls 0 _ (by omega) (by omega)).mono ?_; rintro e w' ⟨rfl, rfl⟩)
  refine (bytes_calls A1 15 cap1 w2.heap.size fa w2 fa_len.symm (by omega) (own_nil Hown12.out) (Nat.le_refl _) (own_rd Hown12.out)).mono ?_
  rintro e w3 ⟨A3, cap3, rfl, hown3, hb3⟩
  have hs3 := hb3.size
  have Hb3 := Lib.hid (Hb2.out.trans (hb3.mono (by omega)))
  have Hown23 := Lib.hid (own_below Hown2.out hb3 (Nat.le_refl _))
  have Hown3 := Lib.hid hown3; have Hbb3 := Lib.hid hb3
  clear hb3 hown3
  go_wp2_with (at_builtin; refine wpList_append_rd rfl _ _ 22 rfl w2.heap.size 5 i0 _ 1 descU8s Hi.out hz0 hz1 hz2 rfl _ 15 (fa.map V8) rfl Hown3.out _ A2 12 cap2 (fb.map V8) rfl (by rw [List.length_map, fb_len]) (own_nil Hown23.out) (own_rd Hown23.out) (v8_one _) (by unfold maxLen; omega) (by omega) hs3 ?_)
  intro v4 w4 hown4 hg4
  rw [← List.map_append] at hown4
  obtain ⟨A4, cap4, rfl, hc4, hm4, _⟩ := own_form hown4
  have hs4 := hg4.size
  have hb4 := Hbb3.out.trans (grown_below Hown3.out hg4 hs3)
  have Hb4 := Lib.hid (Hb2.out.trans (hb4.mono (by omega)))
  have Hown14 := Lib.hid (own_below Hown12.out hb4 (Nat.le_refl _))
  have Hown24 := Lib.hid (own_below Hown2.out hb4 (Nat.le_refl _))
  have Hown4 := Lib.hid hown4
  clear hb4 hown4 hg4 Hown3 Hbb3 Hown23 Hown12 Hown2
  go_wp2_with fail
  refine (row_calls A4 27 cap4 w4.heap.size (fa ++ fb) w4 fab_len.symm (by omega) (own_rd Hown4.out) (Nat.le_refl _) hc4 hm4 (tabIn_of Ht.out Hb4.out)).mono ?_
  rintro e w5 ⟨hb5, A5, cap5, cells, rfl, hown5, hsl5⟩
  rw [fab_rows.1, fab_rows.2, fab_len] at *
  have hs5 := hb5.size
  have Hb5 := Lib.hid (Hb4.out.trans (hb5.mono (by omega)))
  obtain ⟨g1, rfl, hcap1⟩ := own_some Hown14.out (by omega)
  obtain ⟨g2, rfl, hcap2⟩ := own_some Hown24.out (by omega)
  have Hr1 := Lib.hid (own_rd (own_below Hown14.out hb5 (Nat.le_refl _)))
  have Hr2 := Lib.hid (own_rd (own_below Hown24.out hb5 (Nat.le_refl _)))
  clear hb5 Hown14 Hown24 Hown4 hown5 hsl5
  have i1 : (4 : Int) ≤ (cap1 : Int) := by omega
  have i2 : (11 : Int) ≤ (cap1 : Int) := by omega
  have i3 : (8 : Int) ≤ (cap2 : Int) := by omega
  have i4 : (cap1 = 8) = False := by rw [eq_iff_iff]; constructor <;> intro hx <;> first | omega | cases hx
  have i5 : (cap2 = 8) = False := by rw [eq_iff_iff]; constructor <;> intro hx <;> first | omega | cases hx
  have i6 : (8 = cap2) = False := by rw [eq_iff_iff]; constructor <;> intro hx <;> first | omega | cases hx
  go_wp2_with fail
  have hal5 : Below w5.heap.size w5 _ := (Below.refl w5.heap.size w5).alloc (Nat.le_refl _) (.cells #[.int .u8 112, .int .u8 2, .int .u8 0, .int .u8 3] 5)
  refine (same_calls _ _ 4 cap1 4 4 w5.heap.size (w5.heap.size + 1) (fa.take 4) [112#8, 2#8, 0#8, 3#8] _ rfl rfl (by intro h; cases h) (by intro h; cases h) ((rd_take8 Hr1.out 4).below hal5 (Nat.le_refl _)) (rd_mark _ _ _ _ _ _ rfl rfl)).mono ?_
  rintro e w' ⟨rfl, rfl⟩
  rw [decide_eq_true fa_4]
  go_wp2_with fail
  have hal6 : Below w5.heap.size w5 ((w5.alloc (.cells #[.int .u8 112, .int .u8 2, .int .u8 0, .int .u8 3] 5)).alloc (.cells #[.int .u8 97, .int .u8 98, .int .u8 99] 5 (3, 4))) := ((Below.refl w5.heap.size w5).alloc (Nat.le_refl _) _).alloc (by simp) _
  refine (same_calls _ _ 3 (cap1 - 8) 3 3 w5.heap.size (w5.heap.size + 1 + 1) ((fa.drop 8).take 3) abc _ rfl rfl (by intro h; cases h) (by intro h; cases h) ((rd_at0 Hr1.out 8 3).below hal6 (Nat.le_refl _)) (rd_mark _ _ _ _ _ _ (by simp) rfl)).mono ?_
  rintro e w' ⟨rfl, rfl⟩
  rw [decide_eq_true fa_8]
  go_wp2_with fail
  have hal7 : Below w5.heap.size w5 (((w5.alloc (.cells #[.int .u8 112, .int .u8 2, .int .u8 0, .int .u8 3] 5)).alloc (.cells #[.int .u8 97, .int .u8 98, .int .u8 99] 5 (3, 4))).alloc (.cells #[.int .u8 0, .int .u8 0, .int .u8 0, .int .u8 0] 5)) := (((Below.refl w5.heap.size w5).alloc (Nat.le_refl _) _).alloc (by simp) _).alloc (by simp; omega) _
  refine (same_calls _ _ 4 (cap2 - 8) 4 4 w5.heap.size (w5.heap.size + 1 + 1 + 1) (fb.drop 8) [0#8, 0#8, 0#8, 0#8] _ rfl rfl (by intro h; cases h) (by intro h; cases h) (by
      have := (rd_at0 Hr2.out 8 4).below hal7 (Nat.le_refl _)
      rwa [List.take_of_length_le (by rw [List.length_drop, fb_len]; omega)] at this) (rd_mark _ _ _ _ _ _ (by simp) rfl)).mono ?_
  rintro e w' ⟨rfl, rfl⟩
  rw [decide_eq_true fb_8]
  go_wp2_with (go_at_call 16; refine (num_calls 0 _ (by omega) (by omega)).mono ?_; rintro e w' ⟨rfl, rfl⟩)
  go_ret
  exact ⟨rfl, Hb5.out.trans (hal7.mono (by omega))⟩
end Go.Proofs.YtnbagbenpojpnaaDoor
