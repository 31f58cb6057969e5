/- pithref1's List, Left; step: one call at both -/
import Derived.Test.YtkohakogknodeaaVRRead
import Derived.Test.YtkohakogknodeaaVOps
namespace Go.Proofs.Ytkohakogknodeaa
open Go.RowKit
set_option linter.unusedSimpArgs false
set_option linter.unusedVariables false
theorem rdr_setE {T : TypeId} {W : World} {base g n cap at' : Nat} {A : Option Addr} {bs : List (BitVec 8)} {er er2 : Int} (hr : RdrIs T W base g A n cap bs at' er) (hT : T ≠ 5) :
    Upd g W (W.setCell ⟨g, 2, none⟩ (.int .i64 er2)) ∧ RdrIs T (W.setCell ⟨g, 2, none⟩ (.int .i64 er2)) base g A n cap bs at' er2 := by
  have u : Upd g W (W.setCell ⟨g, 2, none⟩ (.int .i64 er2)) := Upd.setCell W 2 _
  refine ⟨u, ?_, own_type (cs := []) hr.2.1 hr.1 hT u, hr.2.2.1, hr.2.2.2.1, hr.2.2.2.2⟩
  rw [heap_set hr.1 2 (.int .i64 er2)]; rfl
set_option maxHeartbeats 4000000 in
theorem rList_calls (g : Nat) (A : Option Addr) (n cap at' base : Nat) (bs : List (BitVec 8)) (er f bel : Int) (w : World) (hr : RdrIs 70 w base g A n cap bs at' er) (hm : n ≤ 1099511627776) (hf : f ≤ 9223372036854775807) (hbl : bel ≤ 9223372036854775807) (hbm : -9223372036854775808 ≤ bel) :
    Calls Try.prog 40 #[.pointer (some ⟨g, 0, none⟩), .int .i64 f, .int .i64 bel] w (ReadAns 70 g A n cap at' base bs er f bel w) := by
  have c2 : w.cell? ⟨g, 2, none⟩ = some (.int .i64 er) := by rw [cell_heap hr.1]; rfl
  have Hr := Lib.hid hr
  clear hr
  go_enter Try.func40, Try.ntmps40
  by_cases he : er = 0
  · subst he
    go_wp2_with fail
    refine (rlist_calls g A n cap at' base bs f bel w Hr.out hm hf hbl hbm).mono ?_
    rintro e w1 ⟨hb1, A2, k, cap2, M, rfl, hk, hown, hok⟩
    have hr1 := RdrIs.below Hr.out hb1
    obtain ⟨s1, s2, s3⟩ := i16s bs at' f bel
    have hle := Vi.jAt_le bs at' 0 f bel (by rw [← Hr.out.2.2.1]; exact Hr.out.2.2.2.1)
    have herr := Vi.rdL_err f bel (bs.drop at')
    rw [← s1] at hk hown
    rw [← s3] at hok
    rw [← s3] at herr ⊢
    rw [← s1] at herr
    have hat2 : Vi.jE bs at' 0 f bel = 0 → M = ((Vi.jAt bs at' 0 f bel : Nat) : Int) := fun h => by rw [hok h, s2]
    generalize hEE : Vi.jE bs at' 0 f bel = E at *
    have HE := Lib.hid hEE
    have Hat2 := Lib.hid hat2
    clear s1 s3 hEE c2 hok hat2
    have y1 : w1.frozen? ⟨g, 1, none⟩ = false := by simp [World.frozen?, hr1.1]
    have y2 : w1.frozen? ⟨g, 2, none⟩ = false := by simp [World.frozen?, hr1.1]
    have k1 : w1.cell? ⟨g, 1, none⟩ = some (.int .i64 (at' : Int)) := by rw [cell_heap hr1.1]; rfl
    have k2 : w1.cell? ⟨g, 2, none⟩ = some (.int .i64 0) := by rw [cell_heap hr1.1]; rfl
    have Hown := Lib.hid hown; have Hr1 := Lib.hid hr1; have Hk := Lib.hid hk; have Hb1 := Lib.hid hb1; have Hle := Lib.hid hle
    clear hown hr1 hk hb1 hle
    by_cases hz : E = 0
    · subst hz
      have hM := Hat2.out rfl
      have HM := Lib.hid hM
      clear hM herr s2
      go_wp2_with fail
      go_ret
      obtain ⟨u1, u2⟩ := rdr_set2 (at2 := Vi.jAt bs at' 0 f bel) (v1 := M) (er2 := 0) Hr1.out.1 (by decide) Hr1.out.2.1 Hr1.out.2.2.1 (by rw [Hr1.out.2.2.1]; exact Hle.out) Hr1.out.2.2.2.2 HM.out
      refine ⟨(Upd.of_below Hb1.out).trans u1, A2, k, cap2, rfl, Hk.out, ?_, by rw [HE.out]; exact u2⟩
      refine Hown.out.kept u1 ?_
      rcases Hown.out.2 with ⟨h, _⟩ | ⟨b, _, _, h, hb, _⟩
      · injection h with h; subst h; exact Or.inl rfl
      · injection h with h; subst h
        right
        have := lt_heap Hr.out.1
        simp [Value.ownBlock]; omega
    · obtain ⟨z1, z2⟩ := herr hz
      have hb2 : (E != 0) = true := by rw [bne_iff_ne]; exact hz
      have hat : Vi.jAt bs at' 0 f bel = at' := by rw [s2, z2]; omega
      have Hat := Lib.hid hat; have Z1 := Lib.hid z1
      clear z1 z2 hz hat s2 herr
      go_wp2_with fail
      go_ret
      obtain ⟨u1, u2⟩ := rdr_setE (er2 := E) Hr1.out (by decide)
      exact ⟨(Upd.of_below Hb1.out).trans u1, none, 0, 0, rfl, by rw [Z1.out]; rfl, by rw [Z1.out]; exact ⟨rfl, Or.inl ⟨rfl, rfl⟩⟩, by rw [HE.out, Hat.out]; exact u2⟩
  · have hs : Vi.jL bs at' er f bel = [] ∧ Vi.jAt bs at' er f bel = at' ∧ Vi.jE bs at' er f bel = er := by unfold Vi.jL Vi.jAt Vi.jE; exact ⟨if_neg he, if_neg he, if_neg he⟩
    have Hs := Lib.hid hs
    have hb : (er != 0) = true := by rw [bne_iff_ne]; exact he
    clear hs he
    go_wp2_with fail
    go_ret
    obtain ⟨s1, s2, s3⟩ := Hs.out
    refine ⟨Upd.refl _ _, none, 0, 0, rfl, by rw [s1]; rfl, by rw [s1]; exact ⟨rfl, Or.inl ⟨rfl, rfl⟩⟩, by rw [s2, s3]; exact Hr.out⟩
set_option maxHeartbeats 1000000 in
theorem rleft_calls (g : Nat) (A : Option Addr) (n cap at' base : Nat) (bs : List (BitVec 8)) (er : Int) (w : World) (hr : RdrIs 70 w base g A n cap bs at' er) (hm : n ≤ 1099511627776) :
    Calls Try.prog 41 #[.pointer (some ⟨g, 0, none⟩)] w fun e w' => e = .returned (.int .i64 (lft bs at' er)) ∧ ∃ k, w' = w.drewN k := by
  have c0 : w.cell? ⟨g, 0, none⟩ = some (.slice A n cap) := by rw [cell_heap hr.1]; rfl
  have c1 : w.cell? ⟨g, 1, none⟩ = some (.int .i64 (at' : Int)) := by rw [cell_heap hr.1]; rfl
  have c2 : w.cell? ⟨g, 2, none⟩ = some (.int .i64 er) := by rw [cell_heap hr.1]; rfl
  have Hn := Lib.hid hr.2.2.1; have hat := hr.2.2.2.1
  clear hr
  go_enter Try.func41, Try.ntmps41
  by_cases he : er = 0
  · subst he
    have He := Lib.hid (show lft bs at' 0 = ((bs.length - at' : Nat) : Int) from if_pos rfl)
    have hs : wrap64 ((n : Int) - (at' : Int)) = (n : Int) - (at' : Int) := IntWalk.wrap64_in _ (by omega)
    go_wp2_with fail
    go_quiet (fail)
    go_wp2_with fail
    go_ret
    refine ⟨?_, nq, rfl⟩
    rw [He.out, ← Hn.out]
    show Ending.returned (Value.int IntKind.i64 ((n : Int) - (at' : Int))) = _
    congr 2; omega
  · have hb : (er != 0) = true := by rw [bne_iff_ne]; exact he
    have He := Lib.hid (show lft bs at' er = 0 from if_neg he)
    clear he
    go_wp2_with fail
    go_ret
    exact ⟨by rw [He.out]; rfl, 0, rfl⟩
end Go.Proofs.Ytkohakogknodeaa
