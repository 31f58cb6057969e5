/- pithlaw2.CrcSums: the walk -/
import Derived.Test.YtcjedjknelgagaaDoorLift
namespace Go.Proofs.YtcjedjknelgagaaDoor
open Go.RowKit Go.ChangeShapes Go.WideShapes Go.ChangeAt
set_option linter.unusedSimpArgs false
set_option linter.unusedVariables false
attribute [local go_sem] u8_signed n8_xor

/-- An index that was brought into a list. -/
theorem into_list (a : Int) (n : Nat) (hn : 0 < n) : ∃ j : Nat, j < n ∧ a.tmod n % n = (j : Int) ∧ -(n : Int) < a.tmod n ∧ a.tmod n < (n : Int) := by
  have h0 : (0 : Int) < n := by omega
  have h1 := Int.emod_nonneg (a.tmod n) (show (n : Int) ≠ 0 by omega)
  have h2 := Int.emod_lt_of_pos (a.tmod n) h0
  refine ⟨(a.tmod n % n).toNat, by omega, by omega, ?_, Int.tmod_lt_of_pos _ h0⟩
  have := Int.lt_tmod_of_pos a h0
  omega

set_option maxHeartbeats 1000000 in
theorem law_sums (A : Option Addr) (n cap : Nat) (bs : List (BitVec 8)) (at_ : Int) (x : BitVec 8) (w : World) (hb : Arg8 w A n cap bs) (hat : (Lit.int .i64 at_).wf = true) (ht : TabIn w) :
    Calls Tryd.prog 3 #[.slice A n cap, .int .i64 at_, .int .u8 (n8 x)] w fun e w' => e = .returned (.bool true) ∧ Below w.heap.size w w' := by
  obtain ⟨hn, hm, hc, hnil, hr⟩ := hb
  unfold maxLen at hm
  obtain ⟨ha1, ha2⟩ := bounds_i64 hat
  clear hat
  have H1 := Lib.hid (first_calls w ht)
  have Ht := Lib.hid ht; have Hr := Lib.hid hr; have Hn := Lib.hid hn; have Hnil := Lib.hid hnil
  clear ht hr hn hnil
  by_cases hbig : n ≤ 65536
  · go_enter Tryd.func3, Tryd.ntmps3
    go_wp2_with fail
    refine H1.out.mono ?_
    rintro e w1 ⟨rfl, hb1⟩
    have Ht1 := Lib.hid (Ht.out.below hb1); have Hr1 := Lib.hid (Hr.out.below hb1 (Nat.le_refl _))
    have Hb1 := Lib.hid hb1; have hs1 := hb1.size; clear hb1
    go_wp2_with fail
    refine (room_calls A n cap _ bs w1 Hn.out hbig Hnil.out hs1 Hr1.out).mono ?_
    rintro e w2 ⟨A2, cap2, rfl, hown2, hb2⟩
    have Ht2 := Lib.hid (Ht1.out.below hb2); have Hr2 := Lib.hid (Hr1.out.below hb2 hs1)
    have Hb2 := Lib.hid (Hb1.out.trans (hb2.mono hs1)); have hs2 := hb2.size
    have Hown2 := Lib.hid hown2
    obtain ⟨g, hA2, hg, hc2⟩ : ∃ g, A2 = some ⟨g, 0, none⟩ ∧ w1.heap.size ≤ g ∧ n + 3 ≤ cap2 := by
      rcases hown2.2 with ⟨h, _⟩ | ⟨g, cap', cur, h, hb, _, h5, _⟩
      · injection h with _ h _; omega
      · injection h with h1 h2 h3; exact ⟨g, h1, hb, by omega⟩
    subst hA2
    have hx2 := own_rd hown2
    have Hx2 := Lib.hid (show Rd w2 w2.heap.size (some ⟨g, 0, none⟩) (bs.map V8) from fun k v hv => hx2 k v (by
      rw [List.map_append, List.getElem?_append_left (List.getElem?_eq_some_iff.1 hv).1]; exact hv))
    have Hxx2 := Lib.hid hx2
    have Hb12 := Lib.hid hb2
    clear hb2 hown2 hx2
    go_wp2_with fail
    refine (csum_calls _ n _ _ bs w2 Ht2.out Hn.out (by unfold maxLen; omega) Hx2.out).mono ?_
    rintro e w' ⟨rfl, rfl⟩
    go_wp2_with fail
    refine (rsum_calls _ n _ _ bs w2 Hn.out (by unfold maxLen; omega) Hr2.out).mono ?_
    rintro e w' ⟨rfl, rfl⟩
    go_wp2_with fail
    refine (still_calls _ _ n cap2 cap _ _ bs w2 Hn.out hbig hc2 (fun h => (Hnil.out h).1) Hxx2.out Hr2.out).mono ?_
    rintro e w' ⟨rfl, rfl⟩
    by_cases h0 : n = 0
    · subst h0
      go_wp2_with fail
      go_ret
      exact ⟨rfl, Hb2.out⟩
    · have hp : (0 : Int) < (n : Int) := by omega
      have hne : ((n : Int) == 0) = false := by simp; omega
      obtain ⟨j, hj, hj1, ht1, ht2⟩ := into_list at_ n (by omega)
      have hj' : (j : Int) < (n : Int) := by omega
      have hjl : j < bs.length := by have := Hn.out; omega
      obtain ⟨y, hy⟩ : ∃ y, y = bs[j] := ⟨_, rfl⟩
      have hcell : w2.cell? ⟨g, j, none⟩ = some (V8 y) := by
        obtain ⟨b, off, e, _, h⟩ := Hx2.out j (V8 y) (by rw [List.getElem?_map, List.getElem?_eq_getElem hjl, hy]; rfl)
        injection e with e; injection e with e1 e2; subst e1 e2; rw [Nat.zero_add] at h; exact h
      have hfz : w2.frozen? ⟨g, j, none⟩ = false := Hown2.out.frozenAt j
      have Hy := Lib.hid hy; clear hy h0
      go_wp2_with fail
      have hst := (Hown2.out.stored j (V8 (y ^^^ x))).1
      have hb3 : Below w1.heap.size w2 (w2.setCell ⟨g, j, none⟩ (V8 (y ^^^ x))) := (Below.refl _ _).setCell hg _
      have hsz3 : (w2.setCell ⟨g, j, none⟩ (V8 (y ^^^ x))).heap.size = w2.heap.size := by simp [World.setCell]
      generalize w2.setCell ⟨g, j, none⟩ (V8 (y ^^^ x)) = w3 at *
      have Hx3 := Lib.hid (show Rd w3 w3.heap.size (some ⟨g, 0, none⟩) ((bs.set j (y ^^^ x)).map V8) from by
        have h3 := own_rd hst
        intro k v hv
        apply h3 k v
        rw [List.map_append, List.set_append_left _ _ (by simpa using hjl), ← List.map_set, List.getElem?_append_left (List.getElem?_eq_some_iff.1 hv).1]
        exact hv)
      have Ht3 := Lib.hid (Ht1.out.below (show Below w1.heap.size w1 w3 from (Hb12.out).trans hb3))
      have Hb3 := Lib.hid (Hb2.out.trans (hb3.mono hs1))
      have Hn3 := Lib.hid (show n = (bs.set j (y ^^^ x)).length by rw [List.length_set]; exact Hn.out)
      clear hst hb3 hsz3
      have hs3 := Hb3.out.size
      refine (bytes_calls _ n cap2 _ _ w3 Hn3.out (by omega) (by intro h; cases h) (Nat.le_refl _) Hx3.out).mono ?_
      rintro e w4 ⟨A4, cap4, rfl, hown4, hb4⟩
      have Hr4 := Lib.hid (own_rd hown4); have Hx4 := Lib.hid (Hx3.out.below hb4 (Nat.le_refl _)); have Ht4 := Lib.hid (Ht3.out.below hb4)
      have Hb4 := Lib.hid (Hb3.out.trans (hb4.mono hs3))
      have Hn4 := Lib.hid (own_nil hown4)
      clear hown4 hb4
      go_wp2_with fail
      refine (csum_calls _ n _ _ _ w4 Ht4.out Hn3.out (by unfold maxLen; omega) Hx4.out).mono ?_
      rintro e w' ⟨rfl, rfl⟩
      go_wp2_with fail
      refine (rsum_calls _ n _ _ _ w4 Hn3.out (by unfold maxLen; omega) Hr4.out).mono ?_
      rintro e w' ⟨rfl, rfl⟩
      go_wp2_with fail
      go_ret
      exact ⟨rfl, Hb4.out⟩
  · go_enter Tryd.func3, Tryd.ntmps3
    go_wp2_with fail
    refine H1.out.mono ?_
    rintro e w1 ⟨rfl, hb1⟩
    have Hb1 := Lib.hid hb1; clear hb1
    go_wp2_with fail
    go_ret
    exact ⟨rfl, Hb1.out⟩

theorem walk_sums (A : Option Addr) (n cap : Nat) (bs : List (BitVec 8)) (a x : Int) (w : World) (hb : Arg8 w A n cap bs) (h1 : (Lit.int .i64 a).wf = true) (h2 : (Lit.int .u8 x).wf = true) (ht : TabIn w) :
    Calls Tryd.prog 3 #[.slice A n cap, .int .i64 a, .int .u8 x] w fun e w' => e = .returned (.bool true) ∧ Below w.heap.size w w' := by
  rw [int8 h2]
  exact law_sums A n cap bs a _ w hb h1 ht
end Go.Proofs.YtcjedjknelgagaaDoor
