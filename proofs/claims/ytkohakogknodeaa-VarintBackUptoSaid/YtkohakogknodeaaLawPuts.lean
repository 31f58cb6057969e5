/- VarintPuts, room: the walks -/
import Derived.Test.YtkohakogknodeaaLift
namespace Go.Proofs.Ytkohakogknodeaa
open Go.ChangeShapes Go.WideShapes Go.ChangeAt Go.RowKit
set_option linter.unusedSimpArgs false
set_option linter.unusedVariables false
def rm3 : List (BitVec 8) := [161#8, 162#8, 163#8]
set_option maxHeartbeats 1000000 in
theorem room_calls (A : Option Addr) (n cap B : Nat) (bs : List (BitVec 8)) (w : World) (hn : n = bs.length) (hm : n ≤ 1099511627776) (hnil : A = none → n = 0 ∧ cap = 0) (hB : B ≤ w.heap.size) (hr : Rd w B A (bs.map V8)) :
    Calls Try.prog 14 #[.slice A n cap] w fun e w' => ∃ A' cap', e = .returned (.slice A' (n + 3) cap') ∧ w'.ownsRow w.heap.size 5 1 (.slice A' (n + 3) cap') (n + 3) ((bs ++ rm3).map V8) ∧ Below w.heap.size w w' := by
  obtain ⟨i0, hi, hz0, hz1, hz2⟩ := info_parts infoU8
  have Hi := Lib.hid hi; have Hn := Lib.hid hn; have Hr := Lib.hid hr; have Hnil := Lib.hid hnil
  clear hi hn hr hnil
  go_enter Try.func14, Try.ntmps14
  go_wp2_with fail
  refine (bytes_calls A n cap B bs w Hn.out (by omega) Hnil.out hB Hr.out).mono ?_
  rintro e w1 ⟨A1, cap1, rfl, hown1, hb1⟩
  have hs1 := hb1.size
  have Hb1 := Lib.hid hb1
  have Hown1 := Lib.hid (own_below hown1 ((Below.refl w1.heap.size w1).alloc (Nat.le_refl _) (.cells #[.int .u8 161, .int .u8 162, .int .u8 163] 5)) (Nat.le_refl _))
  clear hown1 hb1
  go_wp2_with (at_builtin; refine wpList_append_rd rfl _ _ 22 rfl w.heap.size 5 i0 _ 1 descU8s Hi.out hz0 hz1 hz2 rfl _ n (bs.map V8) rfl Hown1.out _ (some ⟨w1.heap.size, 0, none⟩) 3 3 (rm3.map V8) rfl rfl (by intro h; cases h) (rd_fresh _ _ _ _ _ _ rfl rfl) (v8_one _) (by unfold maxLen; omega) (by omega) (by simp; omega) ?_)
  intro v4 w4 hown4 hg4
  rw [← List.map_append] at hown4
  obtain ⟨A4, cap4, rfl, hc4, hm4, _⟩ := own_form hown4
  have Hown4 := Lib.hid hown4
  have Hb4 := Lib.hid ((Hb1.out.alloc hs1 (.cells #[.int .u8 161, .int .u8 162, .int .u8 163] 5)).grown hg4 (by simp; omega) fun k hk => (Hown1.out.lt k hk).1)
  clear hown4 hg4
  go_wp2_with fail
  go_ret
  exact ⟨A4, cap4, rfl, Hown4.out, Hb4.out⟩
theorem rd_prefix {w : World} {B : Nat} {A : Option Addr} {bs cs : List (BitVec 8)} (h : Rd w B A ((bs ++ cs).map V8)) : Rd w B A (bs.map V8) := fun k v hv => h k v (by
  rw [List.map_append, List.getElem?_append_left (List.getElem?_eq_some_iff.1 hv).1]; exact hv)
theorem rd_pre {w : World} {B : Nat} {A : Option Addr} {X : List (BitVec 8)} (n : Nat) (h : Rd w B A (X.map V8)) : Rd w B A ((X.take n).map V8) := fun k v hv => h k v (by
  rw [List.map_take, List.getElem?_take] at hv; split at hv
  · exact hv
  · cases hv)
set_option maxHeartbeats 4000000 in
set_option maxRecDepth 20000 in
theorem law_puts (A : Option Addr) (n cap : Nat) (bs : List (BitVec 8)) (x : Int) (w : World) (ha : In8 w A n cap bs) (hx : (Lit.int .i64 x).wf = true) :
    Calls Try.prog 3 #[.slice A n cap, .int .i64 x] w fun e w' => e = .returned (.bool true) ∧ Below w.heap.size w w' := by
  obtain ⟨hn, hc, hcm, hnil, hr⟩ := ha
  have hxb := bounds_i64 hx
  have Hn := Lib.hid hn; have Hnil := Lib.hid hnil; have Hr := Lib.hid hr
  clear hn hnil hr hc hcm hx
  go_enter Try.func3, Try.ntmps3
  go_wp2_with fail
  refine (first_calls w).mono ?_
  rintro e w1 ⟨rfl, hb1⟩
  have hs1 := hb1.size
  have Hb1 := Lib.hid hb1
  clear hb1
  by_cases hbig : n ≤ 65536
  · have hbi : ¬ (65536 : Int) < (n : Int) := by omega
    go_wp2_with fail
    refine (room_calls A n cap w.heap.size bs w1 Hn.out (by omega) Hnil.out hs1 (Hr.out.below Hb1.out (Nat.le_refl _))).mono ?_
    rintro e w2 ⟨A2, cap2, rfl, hown2, hb2⟩
    have hs2 := hb2.size
    have Hb2 := Lib.hid (Hb1.out.trans (hb2.mono hs1))
    obtain ⟨p1, p2⟩ := own_cap hown2
    obtain ⟨g, rfl⟩ : ∃ g, A2 = some ⟨g, 0, none⟩ := by
      rcases hown2.2 with ⟨_, h⟩ | ⟨g, _, _, h, _⟩
      · omega
      · injection h with h; exact ⟨g, h⟩
    have Hown2 := Lib.hid hown2
    obtain ⟨N, hN⟩ : ∃ N, N = n + 3 := ⟨_, rfl⟩
    rw [← hN] at p1 Hown2 ⊢
    have hNn : n ≤ N := by omega
    have q1 : (n : Int) ≤ (N : Int) := by omega
    have q2 : (N : Int) ≤ (cap2 : Int) := by omega
    have HN := Lib.hid hN
    clear hown2 hb2 hN
    unfold maxLen at p2
    go_wp2_with fail
    refine (Put_calls (some ⟨g, 0, none⟩) n N w2.heap.size bs x w2 hxb.2 Hn.out (by omega) (Nat.le_refl _) (rd_prefix (own_rd Hown2.out))).mono ?_
    rintro e w3 ⟨A3, n3, cap3, rfl, hn3, hown3, hb3⟩
    have hs3 := hb3.size
    have Hb3 := Lib.hid (Hb2.out.trans (hb3.mono (by omega)))
    have Hown23 := Lib.hid (own_below Hown2.out hb3 (Nat.le_refl _))
    have Hown3 := Lib.hid hown3; have Hn3 := Lib.hid hn3
    clear hown3 hb3 hn3 Hown2
    go_wp2_with fail
    refine (rPut_calls A n cap w.heap.size bs x w3 hxb.2 Hn.out (by omega) Hnil.out Hb3.out.size (Hr.out.below Hb3.out (Nat.le_refl _))).mono ?_
    rintro e w4 ⟨A4, n4, cap4, rfl, hn4, hown4, hb4⟩
    have hs4 := hb4.size
    have Hb4 := Lib.hid (Hb3.out.trans (hb4.mono (by omega)))
    have Hown24 := Lib.hid (own_below Hown23.out hb4 (Nat.le_refl _))
    have Hown34 := Lib.hid (own_below Hown3.out hb4 (Nat.le_refl _))
    have Hown4 := Lib.hid hown4; have Hn4 := Lib.hid hn4
    clear hown4 hb4 hn4 Hown23 Hown3
    go_wp2_with fail
    refine (same_calls A3 A4 n3 cap3 n4 cap4 _ _ _ _ w4 Hn3.out Hn4.out (fun h => (own_nil Hown34.out h).1) (fun h => (own_nil Hown4.out h).1) (own_rd Hown34.out) (own_rd Hown4.out)).mono ?_
    rintro e w' ⟨rfl, rfl⟩
    rw [decide_eq_true rfl]
    clear Hown34 Hown4 Hn3 Hn4
    go_wp2_with fail
    refine (room_calls A n cap w.heap.size bs w4 Hn.out (by omega) Hnil.out Hb4.out.size (Hr.out.below Hb4.out (Nat.le_refl _))).mono ?_
    rintro e w5 ⟨A5, cap5, rfl, hown5, hb5⟩
    have hs5 := hb5.size
    have Hb5 := Lib.hid (Hb4.out.trans (hb5.mono (by omega)))
    have Hown25 := Lib.hid (own_below Hown24.out hb5 (Nat.le_refl _))
    rw [← HN.out] at hown5 ⊢
    have Hown5 := Lib.hid hown5
    clear hown5 hb5 Hown24
    go_wp2_with fail
    refine (same_calls (some ⟨g, 0, none⟩) A5 N cap2 N cap5 _ _ (bs ++ rm3) (bs ++ rm3) w5 (by rw [HN.out, List.length_append, ← Hn.out]; rfl) (by rw [HN.out, List.length_append, ← Hn.out]; rfl) (by intro h; cases h) (fun h => (own_nil Hown5.out h).1) (own_rd Hown25.out) (own_rd Hown5.out)).mono ?_
    rintro e w' ⟨rfl, rfl⟩
    rw [decide_eq_true rfl]
    clear Hown5
    go_wp2_with (first
      | (go_at_call 18; refine (len_calls x _ hxb.2).mono ?_; rintro e w' ⟨rfl, rfl⟩)
      | (go_at_call 19; refine (rlen_calls x _ hxb.2).mono ?_; rintro e w' ⟨rfl, rfl⟩))
    go_loopw [10] (fun i wr => ∃ (a : Nat) (X : List (BitVec 8)), i = .int .i64 (a : Int) ∧ a ≤ n ∧ X.length = N ∧ wr.ownsRow w1.heap.size 5 1 (.slice (some ⟨g, 0, none⟩) N cap2) N (X.map V8) ∧ Below w.heap.size w wr) (fun i _ => n - (intOf i).toNat)
    case atStart => exact ⟨0, bs ++ rm3, rfl, by omega, by rw [HN.out, List.length_append, ← Hn.out]; rfl, Hown25.out, Hb5.out⟩
    case round =>
      obtain ⟨a, X, rfl, ha, hX, hown, hbl⟩ := hrel
      by_cases hlt : a < n
      · have l1 : (a : Int) < (n : Int) := by omega
        have l2 : (a : Int) < (N : Int) := by omega
        have hg2 : w.heap.size ≤ g := Nat.le_trans hs1 (hown.lt g rfl).1
        obtain ⟨y, hy⟩ : ∃ y, X[a]? = some y := ⟨X[a]'(by omega), List.getElem?_eq_getElem _⟩
        have hc := hown.cellAt a (by omega)
        rw [List.getElem?_map, hy] at hc
        have hc : wr.cell? ⟨g, a, none⟩ = some (V8 y) := hc
        have hf := hown.frozenAt a
        have hx85 : bits .xor .u8 (n8 y : Int) 85 = (n8 (y ^^^ 85#8) : Int) := n8_xor y 85#8
        have HX := Lib.hid hX; have Hown := Lib.hid hown; have Hbl := Lib.hid hbl
        clear hX hown hbl hy
        go_wp2_with fail
        refine ⟨⟨a + 1, X.set a (y ^^^ 85#8), by congr 1, by omega, by rw [List.length_set]; exact HX.out, ?_, Hbl.out.setCell hg2 _⟩, by simp [intOf]; omega⟩
        rw [List.map_set]
        exact (Hown.out.stored _ _).1
      · have l1 : ¬ (a : Int) < (n : Int) := by omega
        have hsz := hbl.size
        have HX := Lib.hid hX; have Hown := Lib.hid hown; have Hbl := Lib.hid hbl
        have l3 : (n : Int) ≤ (cap2 : Int) := by omega
        clear hX hown hbl
        have Hnt := Lib.hid (show n = (X.take n).length by rw [List.length_take, HX.out]; omega)
        go_wp2_with fail
        refine (bytes_calls (some ⟨g, 0, none⟩) n cap2 wr.heap.size (X.take n) wr Hnt.out (by omega) (by intro h; cases h) (Nat.le_refl _) (rd_pre n (own_rd Hown.out))).mono ?_
        rintro e w6 ⟨A6, cap6, rfl, hown6, hb6⟩
        have hs6 := hb6.size
        have Hb6 := Lib.hid (Hbl.out.trans (hb6.mono hsz))
        have HownX := Lib.hid (own_below Hown.out hb6 (Nat.le_refl _))
        have Hown6 := Lib.hid hown6
        clear hown6 hb6 Hown
        go_wp2_with fail
        refine (Put_calls (some ⟨g, 0, none⟩) n N w6.heap.size (X.take n) x w6 hxb.2 Hnt.out (by omega) (Nat.le_refl _) (rd_pre n (own_rd HownX.out))).mono ?_
        rintro e w7 ⟨A7, n7, cap7, rfl, hn7, hown7, hb7⟩
        have hs7 := hb7.size
        have Hb7 := Lib.hid (Hb6.out.trans (hb7.mono (by omega)))
        have Hown67 := Lib.hid (own_below Hown6.out hb7 (Nat.le_refl _))
        have Hown7 := Lib.hid hown7; have Hn7 := Lib.hid hn7
        clear hown7 hb7 hn7 Hown6
        go_wp2_with fail
        refine (rPut_calls A6 n cap6 w7.heap.size (X.take n) x w7 hxb.2 Hnt.out (by omega) (own_nil Hown67.out) (Nat.le_refl _) (own_rd Hown67.out)).mono ?_
        rintro e w8 ⟨A8, n8', cap8, rfl, hn8, hown8, hb8⟩
        have Hb8 := Lib.hid (Hb7.out.trans (hb8.mono (by omega)))
        have Hown78 := Lib.hid (own_below Hown7.out hb8 (Nat.le_refl _))
        have Hown8 := Lib.hid hown8; have Hn8 := Lib.hid hn8
        clear hown8 hb8 hn8
        go_wp2_with fail
        refine (same_calls A7 A8 n7 cap7 n8' cap8 _ _ _ _ w8 Hn7.out Hn8.out (fun h => (own_nil Hown78.out h).1) (fun h => (own_nil Hown8.out h).1) (own_rd Hown78.out) (own_rd Hown8.out)).mono ?_
        rintro e w' ⟨rfl, rfl⟩
        rw [decide_eq_true rfl]
        go_wp2_with fail
        go_ret
        exact ⟨rfl, Hb8.out⟩
  · have hbi : (65536 : Int) < (n : Int) := by omega
    go_wp2_with fail
    go_ret
    exact ⟨rfl, Hb1.out⟩
end Go.Proofs.Ytkohakogknodeaa
