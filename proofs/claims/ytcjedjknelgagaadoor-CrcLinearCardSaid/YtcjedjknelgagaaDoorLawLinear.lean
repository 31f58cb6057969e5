/- pithlaw2.CrcLinear: the walk -/
import Derived.Test.YtcjedjknelgagaaDoorLawTwo
import Derived.BigRegion
namespace Go.Proofs.YtcjedjknelgagaaDoor
open Go.RowKit Go.ChangeShapes Go.WideShapes Go.ChangeAt
set_option linter.unusedSimpArgs false
set_option linter.unusedVariables false
attribute [local go_sem] u32_signed u8_signed n32_xor n8_xor

/-- The first k places of a list, the others not yet written. -/
def partL (X : List (BitVec 8)) (n k : Nat) : List (BitVec 8) := X.take k ++ List.replicate (n - k) 0
theorem partL_next (X : List (BitVec 8)) (n k : Nat) (hX : X.length = n) (hk : k < n) : (partL X n k).set k (X[k]'(by omega)) = partL X n (k + 1) := by
  unfold partL
  have h1 : (X.take k).length = k := by rw [List.length_take]; omega
  rw [List.set_append_right _ _ (by omega), h1, Nat.sub_self, List.take_succ_eq_append_getElem (by omega), List.append_assoc]
  congr 1
  rw [show n - k = (n - (k + 1)) + 1 by omega, List.replicate_succ]
  rfl
theorem partL_all (X : List (BitVec 8)) (n : Nat) (hX : X.length = n) : partL X n n = X := by
  unfold partL; rw [Nat.sub_self, List.take_of_length_le (by omega)]; simp
theorem partL_length (X : List (BitVec 8)) (n k : Nat) (hX : X.length = n) (hk : k ≤ n) : (partL X n k).length = n := by
  unfold partL; rw [List.length_append, List.length_take, List.length_replicate]; omega
theorem rd_take {w : World} {B : Nat} {A : Option Addr} {l : List (BitVec 8)} (h : Rd w B A (l.map V8)) (n : Nat) : Rd w B A ((l.take n).map V8) := by
  intro k v hv
  have hk := (List.getElem?_eq_some_iff.1 hv).1
  apply h k v
  rw [List.map_take, List.getElem?_take, if_pos (by simp at hk; omega)] at hv
  exact hv
theorem rd_cell {w : World} {B : Nat} {A : Option Addr} {l : List (BitVec 8)} (h : Rd w B A (l.map V8)) (k : Nat) (hk : k < l.length) : ∃ b off, A = some ⟨b, off, none⟩ ∧ b < B ∧ w.cell? ⟨b, off + k, none⟩ = some (V8 l[k]) :=
  h k _ (by rw [List.getElem?_map, List.getElem?_eq_getElem hk]; rfl)

theorem quiet_csum (A : Option Addr) (n cap B m : Nat) (bs : List (BitVec 8)) (w : World) (ht : TabIn w) (hn : n = bs.length) (hm : n ≤ maxLen) (hr : Rd w B A (bs.map V8)) :
    Calls Tryd.prog 16 #[.slice A n cap] (w.drewN m) fun e w'' => e = .returned (.int .u32 (n32 (Crc.sum bs))) ∧ ∃ k, w'' = w.drewN k :=
  (csum_calls A n cap B bs (w.drewN m) ht hn hm hr).mono fun _ _ ⟨he, hw⟩ => ⟨he, m, hw.symm⟩

set_option maxHeartbeats 4000000 in
theorem law_linear (A1 A2 A3 : Option Addr) (n1 n2 n3 c1 c2 c3 n : Nat) (la lb lc : List (BitVec 8)) (w : World) (ha : Arg8 w A1 n1 c1 la) (hb : Arg8 w A2 n2 c2 lb) (hc : Arg8 w A3 n3 c3 lc) (ht : TabIn w)
    (hn : n = min (min n1 n2) n3) :
    Calls Tryd.prog 12 #[.slice A1 n1 c1, .slice A2 n2 c2, .slice A3 n3 c3] w fun e w' => e = .returned (.bool true) ∧ Below w.heap.size w w' := by
  obtain ⟨han, ham, hac, hanil, har⟩ := ha
  obtain ⟨hbn, hbm, hbc, hbnil, hbr⟩ := hb
  obtain ⟨hcn, hcm, hcc, hcnil, hcr⟩ := hc
  unfold maxLen at ham hbm hcm
  have H1 := Lib.hid (first_calls w ht)
  have Ht := Lib.hid ht; have Har := Lib.hid har; have Han := Lib.hid han; have Hanil := Lib.hid hanil
  have Hbr := Lib.hid hbr; have Hbn := Lib.hid hbn; have Hbnil := Lib.hid hbnil
  have Hcr := Lib.hid hcr; have Hcn := Lib.hid hcn; have Hcnil := Lib.hid hcnil
  have h1 : n ≤ n1 := by omega
  have h2 : n ≤ n2 := by omega
  have h3 : n ≤ n3 := by omega
  have HN := Lib.hid hn
  have hmin : (if (n3 : Int) < if n2 < n1 then (n2 : Int) else (n1 : Int) then (n3 : Int) else if n2 < n1 then (n2 : Int) else (n1 : Int)) = (n : Int) := by
    split <;> split <;> omega
  have hmin2 : (if (n3 : Int) < if (n2 : Int) < (n1 : Int) then (n2 : Int) else (n1 : Int) then (n3 : Int) else if (n2 : Int) < (n1 : Int) then (n2 : Int) else (n1 : Int)) = (n : Int) := by
    split <;> split <;> omega
  clear ht har han hanil hbr hbn hbnil hcr hcn hcnil hn
  by_cases hbig : n ≤ 65536
  · have hmk := make_u8 n n (Nat.le_refl _) (by omega)
    go_enter Tryd.func12, Tryd.ntmps12
    go_wp2_with fail
    refine H1.out.mono ?_
    rintro e w1 ⟨rfl, hb1⟩
    have Ht1 := Lib.hid (Ht.out.below hb1)
    have Hb1 := Lib.hid hb1; have hs1 := hb1.size; clear hb1
    have HX := Lib.hid (show (Crc.xorL (Crc.xorL (la.take n) (lb.take n)) (lc.take n)).length = n by
      simp [Crc.xorL, ← Han.out, ← Hbn.out, ← Hcn.out]; omega)
    have HXk := Lib.hid (show ∀ k (h : k < (Crc.xorL (Crc.xorL (la.take n) (lb.take n)) (lc.take n)).length), (Crc.xorL (Crc.xorL (la.take n) (lb.take n)) (lc.take n))[k] = la.getD k 0 ^^^ lb.getD k 0 ^^^ lc.getD k 0 from fun k h => by
      have hk : k < n := by rw [HX.out] at h; exact h
      have e1 : k < la.length := by rw [← Han.out]; omega
      have e2 : k < lb.length := by rw [← Hbn.out]; omega
      have e3 : k < lc.length := by rw [← Hcn.out]; omega
      simp [Crc.xorL, List.getD, e1, e2, e3])
    have Hlin := Lib.hid (Crc.sum_lin (la.take n) (lb.take n) (lc.take n) (by rw [List.length_take, List.length_take, ← Han.out, ← Hbn.out]; omega) (by rw [List.length_take, List.length_take, ← Hcn.out, ← Hbn.out]; omega))
    generalize Crc.xorL (Crc.xorL (la.take n) (lb.take n)) (lc.take n) = X at HX HXk Hlin
    go_wp2_with fail
    go_loopw [10] (fun i wr => ∃ k : Nat, k ≤ n ∧ i = .int .i64 k ∧ wr.ownsRow w1.heap.size 5 1 (.slice (some ⟨w1.heap.size, 0, none⟩) n n) n ((partL X n k).map V8) ∧ Below w1.heap.size w1 wr) (fun i _ => n - (intOf i).toNat)
    case atStart =>
      refine ⟨0, Nat.zero_le _, rfl, ?_, (Below.refl _ _).alloc (Nat.le_refl _) _⟩
      have := own_lit w1 w1.heap.size 5 (zeros8 n) n (Nat.le_refl _) (zeros8_size n) (by unfold maxLen; omega)
      rw [zeros8_list] at this
      simpa [partL] using this
    case round =>
      obtain ⟨k, hk, rfl, hown, hb⟩ := hrel
      by_cases hlt : k < n
      · obtain ⟨b1, o1, rfl, hl1, hc1⟩ := rd_cell (Har.out) k (by rw [← Han.out]; omega)
        obtain ⟨b2, o2, rfl, hl2, hc2⟩ := rd_cell (Hbr.out) k (by rw [← Hbn.out]; omega)
        obtain ⟨b3, o3, rfl, hl3, hc3⟩ := rd_cell (Hcr.out) k (by rw [← Hcn.out]; omega)
        have hbw := Hb1.out.trans (hb.mono hs1)
        have hd1 : wr.cell? ⟨b1, o1 + k, none⟩ = some (V8 (la.getD k 0)) := by
          rw [hbw.cell (p := ⟨b1, o1 + k, none⟩) hl1, hc1]; simp [List.getD, show k < la.length by rw [← Han.out]; omega]
        have hd2 : wr.cell? ⟨b2, o2 + k, none⟩ = some (V8 (lb.getD k 0)) := by
          rw [hbw.cell (p := ⟨b2, o2 + k, none⟩) hl2, hc2]; simp [List.getD, show k < lb.length by rw [← Hbn.out]; omega]
        have hd3 : wr.cell? ⟨b3, o3 + k, none⟩ = some (V8 (lc.getD k 0)) := by
          rw [hbw.cell (p := ⟨b3, o3 + k, none⟩) hl3, hc3]; simp [List.getD, show k < lc.length by rw [← Hcn.out]; omega]
        have hlen := partL_length X n k HX.out hk
        obtain ⟨y0, hs⟩ : ∃ y, wr.cell? ⟨w1.heap.size, k, none⟩ = some (V8 y) :=
          ⟨_, by rw [hown.cellAt k (by omega), List.getElem?_map, List.getElem?_eq_getElem (show k < (partL X n k).length by omega)]; rfl⟩
        have hf := hown.frozenAt k
        have i1 : (k : Int) < (n1 : Int) := by omega
        have i2 : (k : Int) < (n2 : Int) := by omega
        have i3 : (k : Int) < (n3 : Int) := by omega
        have Hown := Lib.hid hown; have Hb := Lib.hid hb
        have HXk1 := Lib.hid (HXk.out k (by rw [HX.out]; exact hlt))
        clear hown hb hbw hc1 hc2 hc3 hlen
        generalize la.getD k 0 = xa at *
        generalize lb.getD k 0 = xb at *
        generalize lc.getD k 0 = xc at *
        go_wp2_with fail
        go_region
        all_goals
          go_wp2_with fail
          go_roundw
          case rel =>
            refine ⟨k + 1, by omega, by go_num, ?_, Hb.out.drew.setCell (Nat.le_refl _) _⟩
            have h1 := ((World.ownsRow.drew Hown.out).stored k (V8 (xa ^^^ xb ^^^ xc))).1
            rw [← List.map_set, ← HXk1.out, partL_next X n k HX.out hlt] at h1
            rw [← HXk1.out]; exact h1
          case measure => simp [intOf]; omega
      · obtain rfl : k = n := by omega
        have Hown := Lib.hid (show wr.ownsRow w1.heap.size 5 1 (.slice (some ⟨w1.heap.size, 0, none⟩) k k) k (X.map V8) by rw [← partL_all X k HX.out]; exact hown)
        have Hb := Lib.hid (Hb1.out.trans (hb.mono hs1))
        have Htr := Lib.hid (Ht.out.below Hb.out)
        have Ra := Lib.hid (rd_take (Har.out.below Hb.out (Nat.le_refl _)) k); have Rb := Lib.hid (rd_take (Hbr.out.below Hb.out (Nat.le_refl _)) k); have Rc := Lib.hid (rd_take (Hcr.out.below Hb.out (Nat.le_refl _)) k)
        have La := Lib.hid (show k = (la.take k).length by rw [List.length_take, ← Han.out]; omega)
        have Lb := Lib.hid (show k = (lb.take k).length by rw [List.length_take, ← Hbn.out]; omega)
        have Lc := Lib.hid (show k = (lc.take k).length by rw [List.length_take, ← Hcn.out]; omega)
        have Rx := Lib.hid (own_rd Hown.out)
        have j1 : (k : Int) ≤ (c1 : Int) := by omega
        have j2 : (k : Int) ≤ (c2 : Int) := by omega
        have j3 : (k : Int) ≤ (c3 : Int) := by omega
        clear hown hb
        generalize la.take k = ta at *
        generalize lb.take k = tb at *
        generalize lc.take k = tc at *
        have hq : ((n32 (Crc.sum X) : Int) == (n32 (Crc.sum ta ^^^ Crc.sum tb ^^^ Crc.sum tc) : Int)) = true := by rw [Hlin.out]; exact n32_beq_self _
        go_wp2_with fail
        go_quiet (first
          | (go_at_call_of 16 (c1); exact quiet_csum A1 k c1 _ _ ta wr Htr.out La.out (by unfold maxLen; omega) Ra.out)
          | (go_at_call_of 16 (c2); exact quiet_csum A2 k c2 _ _ tb wr Htr.out Lb.out (by unfold maxLen; omega) Rb.out)
          | (go_at_call_of 16 (c3); exact quiet_csum A3 k c3 _ _ tc wr Htr.out Lc.out (by unfold maxLen; omega) Rc.out)
          | (go_at_call 16; exact quiet_csum _ k k _ _ X wr Htr.out HX.out.symm (by unfold maxLen; omega) Rx.out))
        go_wp2_with fail
        go_ret
        exact ⟨rfl, ⟨Hb.out.os, Hb.out.tape, Hb.out.output, Hb.out.size, Hb.out.block⟩⟩
  · have h0 : decide (65536 < (n : Int)) = true := by rw [decide_eq_true_eq]; omega
    clear hbig
    go_enter Tryd.func12, Tryd.ntmps12
    go_wp2_with fail
    refine H1.out.mono ?_
    rintro e w1 ⟨rfl, hb1⟩
    have Hb1 := Lib.hid hb1; clear hb1
    go_wp2_with fail
    go_ret
    exact ⟨rfl, Hb1.out⟩
theorem walk_linear (A1 : Option Addr) (n1 c1 : Nat) (la : List (BitVec 8)) (A2 : Option Addr) (n2 c2 : Nat) (lb : List (BitVec 8)) (A3 : Option Addr) (n3 c3 : Nat) (lc : List (BitVec 8)) (w : World)
    (ha : Arg8 w A1 n1 c1 la) (hb : Arg8 w A2 n2 c2 lb) (hc : Arg8 w A3 n3 c3 lc) (ht : TabIn w) :
    Calls Tryd.prog 12 #[.slice A1 n1 c1, .slice A2 n2 c2, .slice A3 n3 c3] w fun e w' => e = .returned (.bool true) ∧ Below w.heap.size w w' :=
  law_linear A1 A2 A3 n1 n2 n3 c1 c2 c3 _ la lb lc w ha hb hc ht rfl
end Go.Proofs.YtcjedjknelgagaaDoor
