/- (Item).numbers -/
import Derived.Test.YtkohakogknodeaaLawOrder
namespace Go.Proofs.Ytkohakogknodeaa
open Go.RowKit
set_option linter.unusedSimpArgs false
set_option linter.unusedVariables false
namespace Vi
/-- The rest's size. -/
def abm (g m : Int) : Int := if g.tmod m < 0 then -(g.tmod m) else g.tmod m
theorem abm_bound (g m : Int) (hm : 0 < m) : 0 ≤ abm g m ∧ abm g m < m := by
  unfold abm
  have h1 := Int.tmod_lt_of_pos g hm
  have h2 := Int.lt_tmod_of_pos g hm
  split <;> omega
/-- An item's numbers: rising by its gaps. -/
def numsL : Int → List Int → List Int
  | _, [] => []
  | a, g :: t => (a + abm g 1125899906842624) :: numsL (a + abm g 1125899906842624 + 1) t
def numF (x : Int) : Int := abm x 1048576
theorem numsL_length : ∀ (l : List Int) (a : Int), (numsL a l).length = l.length
  | [], _ => rfl
  | g :: t, a => by rw [numsL, List.length_cons, List.length_cons, numsL_length t]
theorem numsL_rise : ∀ (l : List Int) (a : Int), rise a (numsL a l) = true
  | [], _ => rfl
  | g :: t, a => by
    have := abm_bound g 1125899906842624 (by decide)
    rw [numsL, rise, numsL_rise t, decide_eq_true (by omega)]; rfl
theorem numsL_bound : ∀ (l : List Int) (a : Int), ∀ x ∈ numsL a l, a ≤ x ∧ x < a + 1125899906842624 * l.length
  | [], _ => by simp [numsL]
  | g :: t, a => by
    have := abm_bound g 1125899906842624 (by decide)
    intro x hx
    rw [numsL, List.mem_cons] at hx
    rw [List.length_cons]
    rcases hx with rfl | hx
    · omega
    · have := numsL_bound t _ x hx; omega
end Vi
def VT (X F : Int) (M : Bool) (A : Option Addr) (n cap : Nat) : Value := .agg #[.int .i64 X, .int .i64 F, .bool M, .slice A n cap]
theorem tmod_wrap (g m : Int) (hm : 0 < m) (hb : m ≤ 1125899906842624) : wrap64 (g.tmod m) = g.tmod m := by
  have h1 := Int.tmod_lt_of_pos g hm
  have h2 := Int.lt_tmod_of_pos g hm
  exact IntWalk.wrap64_in _ (by omega)
set_option maxHeartbeats 4000000 in
set_option maxRecDepth 20000 in
theorem numbers_calls (X F : Int) (M : Bool) (A : Option Addr) (n cap B : Nat) (zs : List Int) (w : World) (hn : n = zs.length) (hB : B ≤ w.heap.size) (hr : Rd w B A (zs.map VI)) :
    Calls Try.prog 28 #[VT X F M A n cap] w fun e w' => ∃ A2 m cap2, e = .returned (.tuple #[.int .i64 (Vi.numF F), .slice A2 m cap2]) ∧ m = (Vi.numsL (Vi.numF F) (zs.take 300)).length ∧
      w'.ownsRow w.heap.size 3 1 (.slice A2 m cap2) m ((Vi.numsL (Vi.numF F) (zs.take 300)).map VI) ∧ Below w.heap.size w w' := by
  have hFb' : 0 ≤ Vi.numF F ∧ Vi.numF F < 1048576 := Vi.abm_bound F 1048576 (by decide)
  have HF := Lib.hid (show (if F.tmod 1048576 < 0 then -(F.tmod 1048576) else F.tmod 1048576) = Vi.numF F from rfl)
  generalize Vi.numF F = f at *
  have hFw := tmod_wrap F 1048576 (by decide) (by decide)
  obtain ⟨i0, hi, hz0, hz1, hz2⟩ := info_parts infoInt
  have Hi := Lib.hid hi; clear hi
  have Hn := Lib.hid hn; have Hr := Lib.hid hr
  clear hn hr
  unfold VT
  go_enter Try.func28, Try.ntmps28
  go_upto_if 13 with fail
  obtain ⟨w1, hw1⟩ : ∃ x, x = w.alloc (Obj.cells #[.int .i64 X, .int .i64 F, .bool M, .slice A n cap] 47) := ⟨_, rfl⟩
  rw [← hw1]
  have hs1 : w.heap.size < w1.heap.size := by rw [hw1]; simp
  have hc3 : w1.cell? ⟨w.heap.size, 3, none⟩ = some (.slice A n cap) := by rw [hw1]; simp [go_sem]
  have Hb1 := Lib.hid (show Below w.heap.size w w1 by rw [hw1]; exact (Below.refl _ _).alloc (Nat.le_refl _) _)
  clear hw1
  have hFt := Int.tmod_lt_of_pos F (show (0 : Int) < 1048576 by decide)
  have hFu := Int.lt_tmod_of_pos F (show (0 : Int) < 1048576 by decide)
  generalize F.tmod 1048576 = T at *
  go_cut [4] (fun s w' => s = .int .i64 f ∧ w1 = w')
  case first =>
    by_cases hT : T < 0
    · go_wp2_with fail
      go_meet
      refine ⟨?_, rfl⟩
      rw [← HF.out, if_pos hT]
      try rw [IntWalk.wrap64_in _ (by omega)]
    · go_wp2_with fail
      go_meet
      refine ⟨?_, rfl⟩
      rw [← HF.out, if_neg (by omega)]
  case rest =>
    obtain ⟨rfl, rfl⟩ := hcut
    clear hFw hFt hFu HF
    obtain ⟨gs, hgs⟩ : ∃ g, g = zs.take 300 := ⟨_, rfl⟩
    obtain ⟨k, hk⟩ : ∃ k, k = gs.length := ⟨_, rfl⟩
    have hk1 : k = min 300 n := by rw [hk, hgs, List.length_take, ← Hn.out]
    have HR := Lib.hid (show Vi.numsL f gs = Vi.numsL f gs from rfl)
    have Hk := Lib.hid hk; have Hgs := Lib.hid hgs
    clear hk hgs
    go_wp2_with fail
    go_loopw [5, 6, 7, 8] (fun at' l i _ wr => ∃ (a : Nat) (L : List Int) (h : Int), i = .int .i64 (a : Int) ∧ at' = .int .i64 h ∧ a ≤ k ∧ L.length = a ∧ L ++ Vi.numsL h (gs.drop a) = Vi.numsL f gs ∧ f ≤ h ∧ h ≤ f + 1125899906842624 * a ∧
        wr.ownsRow w1.heap.size 3 1 l a (L.map VI) ∧ Below w1.heap.size w1 wr) (fun _ _ i _ _ => k - (intOf i).toNat)
    case atStart => exact ⟨0, [], f, rfl, rfl, by omega, rfl, by simp, by omega, by omega, ⟨rfl, Or.inl ⟨rfl, rfl⟩⟩, Below.refl _ _⟩
    case round =>
      obtain ⟨a, L, h, rfl, rfl, ha, hL, hLn, hh1, hh2, hown, hbl⟩ := hrel
      obtain ⟨A1, cap1, rfl, hc1, hm1, _⟩ := own_form hown
      have hsz := hbl.size
      have hc3w : wr.cell? ⟨w.heap.size, 3, none⟩ = some (.slice A n cap) := by rw [hbl.cell (show w.heap.size < w1.heap.size by omega)]; exact hc3
      have Hrw := Lib.hid (Hr.out.below (Hb1.out.trans (hbl.mono (by omega))) hB)
      have HLn := Lib.hid hLn; have Hown := Lib.hid hown; have Hbl := Lib.hid hbl; have HL := Lib.hid hL
      clear hLn hown hbl hL hc3
      by_cases hlt : a < k
      · have q1 : (a : Int) < (n : Int) := by omega
        have q2 : (a : Int) < 300 := by omega
        obtain ⟨z, hz⟩ : ∃ z, zs[a]? = some z := ⟨zs[a]'(by rw [← Hn.out]; omega), List.getElem?_eq_getElem _⟩
        obtain ⟨b, off, rfl, hb, hc⟩ := rd_get Hrw.out hz
        have hd : gs.drop a = z :: gs.drop (a + 1) := by
          have hz' : gs[a]? = some z := by rw [Hgs.out, List.getElem?_take_of_lt (by omega)]; exact hz
          rw [List.drop_eq_getElem_cons (List.getElem?_eq_some_iff.1 hz').1, (List.getElem?_eq_some_iff.1 hz').2]
        have Hd := Lib.hid hd
        have hab := Vi.abm_bound z 1125899906842624 (by decide)
        have HD := Lib.hid (show (if z.tmod 1125899906842624 < 0 then -(z.tmod 1125899906842624) else z.tmod 1125899906842624) = Vi.abm z 1125899906842624 from rfl)
        have HX := Lib.hid (show (L ++ [h + Vi.abm z 1125899906842624]) ++ Vi.numsL (h + Vi.abm z 1125899906842624 + 1) (gs.drop (a + 1)) = Vi.numsL f gs by rw [← HLn.out, Hd.out, Vi.numsL, List.append_assoc]; rfl)
        clear hd hz
        have hzt := Int.tmod_lt_of_pos z (show (0 : Int) < 1125899906842624 by decide)
        have hzu := Int.lt_tmod_of_pos z (show (0 : Int) < 1125899906842624 by decide)
        generalize Vi.abm z 1125899906842624 = d at *
        go_upto_if 35 with fail
        generalize z.tmod 1125899906842624 = t at *
        go_cut [8] (fun s w' => s = .int .i64 d ∧ wr = w')
        case first =>
          by_cases hT : t < 0
          · go_wp2_with fail
            go_meet
            refine ⟨?_, rfl⟩
            rw [← HD.out, if_pos hT]
            try rw [IntWalk.wrap64_in _ (by omega)]
          · go_wp2_with fail
            go_meet
            refine ⟨?_, rfl⟩
            rw [← HD.out, if_neg (by omega)]
        case rest =>
          obtain ⟨rfl, rfl⟩ := hcut
          clear hzt hzu HD
          have Hown2 := Lib.hid (own_below Hown.out ((Below.refl wr.heap.size wr).alloc (Nat.le_refl _) (.cells #[.int .i64 (h + d)] 3)) (Nat.le_refl _))
          have hab1 : f ≤ h + d + 1 := by omega
          have hab2 : h + d + 1 ≤ f + 1125899906842624 * ((a + 1 : Nat) : Int) := by omega
          have Hab1 := Lib.hid hab1; have Hab2 := Lib.hid hab2
          clear hab2 hab1
          go_wp2_with (at_builtin; refine wpList_append_rd rfl _ _ 29 rfl w1.heap.size 3 i0 _ 8 descInts Hi.out hz0 hz1 hz2 rfl _ a (L.map VI) rfl Hown2.out _ (some ⟨wr.heap.size, 0, none⟩) 1 1 [.int .i64 (h + d)] rfl rfl (by intro h; cases h) (rd_fresh _ _ _ _ _ _ rfl rfl) (by intro u hu; simp at hu; subst hu; rfl) (by unfold maxLen; omega) (by omega) (by simp; omega) ?_)
          intro v4 w4 hown4 hg4
          have e4 : L.map VI ++ [.int .i64 (h + d)] = (L ++ [h + d]).map VI := by simp
          rw [e4] at hown4
          obtain ⟨A4, cap4, rfl, hc4, hm4, _⟩ := own_form hown4
          have Hown4 := Lib.hid hown4
          have hb4 : Below w1.heap.size w1 w4 := (Hbl.out.alloc hsz _).grown hg4 (by simp; omega) fun k hk => (Hown2.out.lt k hk).1
          have Hb4 := Lib.hid hb4
          clear hown4 hg4 hb4 e4 Hown2
          go_wp2_with fail
          exact ⟨⟨a + 1, _, h + d + 1, by congr 1, rfl, by omega, by rw [List.length_append, HL.out]; rfl, HX.out, Hab1.out, Hab2.out, Hown4.out, Hb4.out⟩, by simp [intOf]; omega⟩
      · obtain rfl : a = k := by omega
        have Hk3 := Lib.hid (show (n ≤ 300 → a = n) ∧ (¬ n ≤ 300 → a = 300) by omega)
        clear hk1
        have hx : gs.drop a = [] := List.drop_eq_nil_of_le (by rw [← Hk.out]; exact Nat.le_refl _)
        have hx2 := HLn.out
        rw [hx, Vi.numsL, List.append_nil] at hx2
        have Hx := Lib.hid hx2; clear hx hx2
        have Hlen := Lib.hid (show a = (Vi.numsL f gs).length by rw [Vi.numsL_length]; exact Hk.out)
        have hbF := Lib.hid (Hb1.out.trans (Hbl.out.mono (by omega)))
        have hfin : ∃ A2 m cap2, Ending.returned (.tuple #[.int .i64 f, .slice A1 a cap1]) = .returned (.tuple #[.int .i64 f, .slice A2 m cap2]) ∧ m = (Vi.numsL f (zs.take 300)).length ∧
            wr.ownsRow w.heap.size 3 1 (.slice A2 m cap2) m ((Vi.numsL f (zs.take 300)).map VI) ∧ Below w.heap.size w wr := by
          rw [← Hgs.out]
          refine ⟨A1, a, cap1, rfl, Hlen.out, ?_, hbF.out⟩
          rw [← Hx.out]; exact own_base Hown.out (by omega)
        have Hfin := Lib.hid hfin
        clear hfin
        by_cases hn3 : n ≤ 300
        · obtain rfl : a = n := Hk3.out.1 hn3
          go_wp2_with fail
          go_ret2
          exact Hfin.out
        · obtain rfl : a = 300 := Hk3.out.2 hn3
          have q1 : (300 : Int) < (n : Int) := by omega
          go_wp2_with fail
          go_ret2
          exact Hfin.out
end Go.Proofs.Ytkohakogknodeaa
