/- Slices of frames that are read: small, row, SameFrames -/
import Derived.Test.YtnbagbenpojpnaaDoorLawBack
namespace Go.Proofs.YtnbagbenpojpnaaDoor
open Go.RowKit
set_option linter.unusedSimpArgs false
set_option linter.unusedVariables false
attribute [local go_sem ↓] loadF storeF
attribute [local go_sem] isLoadOf loadArg isRowAt_ptr rowAt_ptr blkOf_ptr aggOf_agg isAggV_agg isRow_alloc_new pair_cells
abbrev FrA := List (Int × List (BitVec 8))
/-- A slice of frames as it reads. -/
def FrRd (w : World) (B : Nat) (A : Option Addr) (fs : FrA) : Prop :=
  ∀ (i : Nat) (k : Int) (p : List (BitVec 8)), fs[i]? = some (k, p) → ∃ blk off A' cap', A = some ⟨blk, off, none⟩ ∧ blk < B ∧ w.cell? ⟨blk, off + i * 2, none⟩ = some (.int .i64 k) ∧ w.cell? ⟨blk, off + i * 2 + 1, none⟩ = some (.slice A' p.length cap') ∧
    (A' = none → p.length = 0 ∧ cap' = 0) ∧ p.length ≤ cap' ∧ cap' ≤ maxLen ∧ Rd w B A' (p.map V8)
theorem FrRd.below {w w' : World} {B C : Nat} {A : Option Addr} {fs : FrA} (h : FrRd w B A fs) (hb : Below C w w') (hB : B ≤ C) : FrRd w' B A fs := by
  intro i k p hi
  obtain ⟨blk, off, A', cap', e, h1, h2, h3, h4, h5, h6, h7⟩ := h i k p hi
  refine ⟨blk, off, A', cap', e, h1, ?_, ?_, h4, h5, h6, h7.below hb hB⟩
  · exact (hb.cell (p := ⟨blk, off + i * 2, none⟩) (Nat.lt_of_lt_of_le h1 hB)).trans h2
  · exact (hb.cell (p := ⟨blk, off + i * 2 + 1, none⟩) (Nat.lt_of_lt_of_le h1 hB)).trans h3
theorem FrRd.mono {w : World} {B C : Nat} {A : Option Addr} {fs : FrA} (h : FrRd w B A fs) (hB : B ≤ C) : FrRd w C A fs := by
  intro i k p hi
  obtain ⟨blk, off, A', cap', e, h1, h2, h3, h4, h5, h6, h7⟩ := h i k p hi
  refine ⟨blk, off, A', cap', e, Nat.lt_of_lt_of_le h1 hB, h2, h3, h4, h5, h6, ?_⟩
  intro j v hj
  obtain ⟨b, o, e', q, c⟩ := h7 j v hj
  exact ⟨b, o, e', Nat.lt_of_lt_of_le q hB, c⟩
def kInt (fs : FrL) : FrA := fs.map fun x => ((n8 x.1 : Int), x.2)
/-- What Row answers reads so. -/
theorem FrSl.rd {w : World} {base base2 : Nat} {A : Option Addr} {cap : Nat} {cells : List Value} {fs : FrL} (ho : w.ownsRow base 24 2 (.slice A fs.length cap) fs.length cells) (hs : FrSl w base2 cells fs) :
    FrRd w w.heap.size A (kInt fs) := by
  intro i k p hi
  unfold kInt at hi
  rw [List.getElem?_map] at hi
  obtain ⟨⟨kb, p'⟩, h1, h2⟩ := Option.map_eq_some_iff.1 hi
  injection h2 with h2 h3; subst h2; subst h3
  obtain ⟨A', cap', c0, c1, hown⟩ := hs.2 i kb p' h1
  have hi' : i < fs.length := (List.getElem?_eq_some_iff.1 h1).1
  obtain ⟨q1, q2⟩ := own_cap hown
  rcases ho.2 with ⟨h2, h3⟩ | ⟨g, cap2, cur, h2, _, h4, h5, h6, h7, h8⟩
  · omega
  · injection h2 with e1 _ e3
    subst e1
    refine ⟨g, 0, A', cap', rfl, lt_heap h4, ?_, ?_, own_nil hown, q1, q2, own_rd hown⟩
    · rw [cell_heap h4, Nat.zero_add, ← c0, ← h8, Nat.mul_comm i 2]
      rw [List.getElem?_take, if_pos (by omega)]
      simp
    · rw [cell_heap h4, Nat.zero_add, ← c1, ← h8, Nat.mul_comm i 2]
      rw [List.getElem?_take, if_pos (by omega)]
      simp
/-- Few frames, each short. -/
def Few (fs : FrA) : Prop := fs.length ≤ 60 ∧ ∀ x ∈ fs, x.2.length ≤ 65536
def SmallAns (fs : FrA) (w : World) (e : Ending) (w' : World) : Prop := ∃ b, e = .returned (.bool b) ∧ w = w' ∧ (b = true → Few fs)
set_option maxHeartbeats 1000000 in
theorem small_calls (A : Option Addr) (n cap B : Nat) (fs : FrA) (w : World) (hn : n = fs.length) (hm : n ≤ cap) (hcm : cap ≤ maxLen) (hr : FrRd w B A fs) :
    Calls Tryd.prog 21 #[.slice A n cap] w (SmallAns fs w) := by
  have Hn := Lib.hid hn; have Hr := Lib.hid hr
  unfold maxLen at hcm
  clear hn hr
  go_enter Tryd.func21, Tryd.ntmps21
  go_wp2_with fail
  go_loopw [3, 4] (fun m' i' wr => ∃ a m : Nat, i' = .int .i64 (a : Int) ∧ m' = .int .i64 (m : Int) ∧ a ≤ n ∧ a ≤ 61 ∧ m < 9223372036854775808 ∧ (∀ j x, fs[j]? = some x → j < a → x.2.length ≤ m) ∧ w = wr) (fun _ i _ => n - (intOf i).toNat)
  case atStart => exact ⟨0, 0, rfl, rfl, by omega, by omega, by omega, fun j x _ h => absurd h (by omega), rfl⟩
  case round =>
    obtain ⟨a, m, rfl, rfl, ha, ha2, hm2, hall, rfl⟩ := hrel
    have Hall := Lib.hid hall; clear hall
    by_cases hlt : a < n
    · have q1 : (a : Int) < (n : Int) := by omega
      by_cases h60 : a ≤ 60
      · have q2 : (a : Int) ≤ 60 := by omega
        obtain ⟨⟨k, p⟩, hp⟩ : ∃ x, fs[a]? = some x := ⟨fs[a]'(by rw [← Hn.out]; omega), List.getElem?_eq_getElem _⟩
        obtain ⟨blk, off, A', cap', rfl, h1, h2, h3, h4, h5, h6, h7⟩ := Hr.out a k p hp
        have Hp := Lib.hid hp
        unfold maxLen at h6
        clear hp h2 h4 h7
        obtain ⟨L, hL⟩ : ∃ L, L = p.length := ⟨_, rfl⟩
        rw [← hL] at h3 h5
        have HL := Lib.hid hL
        clear hL
        go_wp2_with fail
        refine ⟨⟨a + 1, max m L, by congr 1, ?_, by omega, by omega, by omega, ?_, trivial⟩, by simp [intOf]; omega⟩
        · congr 1; split <;> omega
        · intro j x hj hl
          by_cases hja : j < a
          · exact Nat.le_trans (Hall.out j x hj hja) (Nat.le_max_left _ _)
          · obtain rfl : j = a := by omega
            rw [Hp.out] at hj; injection hj with hj; subst hj
            rw [HL.out]; exact Nat.le_max_right _ _
      · have q2 : ¬ (a : Int) ≤ 60 := by omega
        have q3 : ¬ (n : Int) ≤ 60 := by omega
        go_wp2_with fail
        go_ret
        exact ⟨false, rfl, rfl, fun h => by cases h⟩
    · by_cases h60 : n ≤ 60
      · have q2 : (n : Int) ≤ 60 := by omega
        go_wp2_with fail
        go_ret
        refine ⟨_, rfl, rfl, fun h => ⟨by rw [← Hn.out]; exact h60, fun x hx => ?_⟩⟩
        obtain ⟨j, hj, hx⟩ := List.getElem_of_mem hx
        rw [← Hn.out] at hj
        have h1 := Hall.out j x (by rw [← hx]; exact List.getElem?_eq_getElem _) (by omega)
        have h2 := of_decide_eq_true h
        omega
      · have q2 : ¬ (n : Int) ≤ 60 := by omega
        go_wp2_with fail
        go_ret
        exact ⟨false, rfl, rfl, fun h => by cases h⟩
/-- The row of those frames that may be. -/
def joinE (fs : FrA) : List (BitVec 8) := (fs.map fun f => encL f.1 f.2).flatten
theorem encL_len (k : Int) (p : List (BitVec 8)) : (encL k p).length ≤ 1036 := by
  unfold encL; split
  · rename_i h; rw [Fr.encode_length]; omega
  · simp
theorem joinE_take (fs : FrA) (a : Nat) (k : Int) (p : List (BitVec 8)) (h : fs[a]? = some (k, p)) : joinE (fs.take (a + 1)) = joinE (fs.take a) ++ encL k p := by
  unfold joinE
  rw [List.take_add_one, h]
  simp
theorem joinE_len : ∀ fs : FrA, (joinE fs).length ≤ fs.length * 1036
  | [] => by simp [joinE]
  | (k, p) :: fs => by
    have := joinE_len fs; have := encL_len k p
    have e : joinE ((k, p) :: fs) = encL k p ++ joinE fs := by simp [joinE]
    rw [e, List.length_append, List.length_cons]; omega
set_option maxHeartbeats 2000000 in
theorem joined_calls (A : Option Addr) (n cap B : Nat) (fs : FrA) (w : World) (hn : n = fs.length) (hm : n ≤ cap) (hcm : cap ≤ maxLen) (h60 : n ≤ 60) (hr : FrRd w B A fs) (hB : B ≤ w.heap.size) :
    Calls Tryd.prog 22 #[.slice A n cap] w fun e w' => ∃ A' cap', e = .returned (.slice A' (joinE fs).length cap') ∧ Below w.heap.size w w' ∧ w'.ownsRow w.heap.size 5 1 (.slice A' (joinE fs).length cap') (joinE fs).length ((joinE fs).map V8) := by
  obtain ⟨i0, hi, hz0, hz1, hz2⟩ := info_parts infoU8
  have Hi := Lib.hid hi; clear hi
  have Hn := Lib.hid hn; have Hr := Lib.hid hr
  unfold maxLen at hcm
  clear hn hr
  go_enter Tryd.func22, Tryd.ntmps22
  go_wp2_with fail
  go_loopw [3, 4] (fun b' i' wr => ∃ (a : Nat) (J : List (BitVec 8)), i' = .int .i64 (a : Int) ∧ a ≤ n ∧ J = joinE (fs.take a) ∧ wr.ownsRow w.heap.size 5 1 b' J.length (J.map V8) ∧ Below w.heap.size w wr) (fun _ i _ => n - (intOf i).toNat)
  case atStart => exact ⟨0, [], rfl, by omega, by simp [joinE], ⟨rfl, Or.inl ⟨rfl, rfl⟩⟩, Below.refl _ _⟩
  case round =>
    obtain ⟨a, J, rfl, ha, hJ, hown, hbl⟩ := hrel
    obtain ⟨A1, cap1, rfl, hc1, hm1, _⟩ := own_form hown
    have hjl : J.length ≤ 62160 := by rw [hJ]; have := joinE_len (fs.take a); rw [List.length_take] at this; omega
    have HJ := Lib.hid hJ; have Hown := Lib.hid hown; have Hbl := Lib.hid hbl
    have hsz := hbl.size
    clear hJ hown hbl
    by_cases hlt : a < n
    · have q1 : (a : Int) < (n : Int) := by omega
      obtain ⟨⟨k, p⟩, hp⟩ : ∃ x, fs[a]? = some x := ⟨fs[a]'(by rw [← Hn.out]; omega), List.getElem?_eq_getElem _⟩
      have Hr2 := Lib.hid (Hr.out.below Hbl.out hB)
      obtain ⟨blk, off, A', cap', rfl, h1, h2, h3, h4, h5, h6, h7⟩ := Hr2.out a k p hp
      have Hp := Lib.hid hp
      have H4 := Lib.hid h4; have H7 := Lib.hid h7
      clear hp h4 h7 h6
      obtain ⟨L, hL⟩ : ∃ L, L = p.length := ⟨_, rfl⟩
      rw [← hL] at h3 h5 H4
      have HL := Lib.hid hL
      clear hL
      go_wp2_with fail
      refine (rencode_any k A' L cap' B p wr HL.out H4.out H7.out (Nat.le_trans hB hsz)).mono ?_
      rintro e w2 ⟨hb2, A2, cap2, rfl, hown2⟩
      have hs2 := hb2.size
      have hel := encL_len k p
      have Hown3 := Lib.hid (own_below Hown.out hb2 (Nat.le_refl _))
      have Hown2 := Lib.hid hown2
      have HbX := Lib.hid (Hbl.out.trans (hb2.mono hsz))
      have HJ2 := Lib.hid (joinE_take fs a k p Hp.out)
      rw [← HJ.out] at HJ2
      obtain ⟨X, hX⟩ : ∃ X, X = encL k p := ⟨_, rfl⟩
      rw [← hX] at HJ2 Hown2 hel ⊢
      clear hb2 hown2 hX h2 h3 Hown Hbl
      go_wp2_with (at_builtin; refine wpList_append_rd rfl _ _ 22 rfl w.heap.size 5 i0 _ 1 descU8s Hi.out hz0 hz1 hz2 rfl _ J.length (J.map V8) rfl Hown3.out _ A2 X.length cap2 (X.map V8) rfl (by rw [List.length_map]) (own_nil Hown2.out) (own_rd Hown2.out) (v8_one _) (by unfold maxLen; omega) (by omega) (by omega) ?_)
      intro v4 w4 hown4 hg4
      rw [← List.map_append, ← List.length_append, ← HJ2.out] at hown4
      obtain ⟨A4, cap4, rfl, hc4, hm4, _⟩ := own_form hown4
      have Hown4 := Lib.hid hown4
      have hb4 : Below w.heap.size w w4 := HbX.out.grown hg4 (by omega) fun k hk => (Hown3.out.lt k hk).1
      have Hb4 := Lib.hid hb4
      clear hown4 hg4 hb4 Hown3 Hown2
      go_wp2_with fail
      refine ⟨⟨a + 1, _, by congr 1, by omega, rfl, Hown4.out, Hb4.out⟩, by simp [intOf]; omega⟩
    · have hx : fs.take a = fs := List.take_of_length_le (by rw [← Hn.out]; omega)
      have Hx := Lib.hid hx; clear hx
      go_wp2_with fail
      go_ret
      rw [HJ.out, Hx.out] at Hown
      refine ⟨A1, cap1, ?_, Hbl.out, Hown.out⟩
      rw [HJ.out, Hx.out]; rfl
end Go.Proofs.YtnbagbenpojpnaaDoor
