/- varint's List, NewReader, Left, Err -/
import Derived.Test.YtkohakogknodeaaVRead
namespace Go.Proofs.Ytkohakogknodeaa
open Go.RowKit
set_option linter.unusedSimpArgs false
set_option linter.unusedVariables false
theorem i16s (bs : List (BitVec 8)) (at' : Nat) (f bel : Int) : Vi.jL bs at' 0 f bel = (Vi.rdL f bel (bs.drop at')).1 ∧ Vi.jAt bs at' 0 f bel = at' + (Vi.rdL f bel (bs.drop at')).2.1 ∧ Vi.jE bs at' 0 f bel = (Vi.rdL f bel (bs.drop at')).2.2 := by
  unfold Vi.jL Vi.jAt Vi.jE; exact ⟨if_pos rfl, if_pos rfl, if_pos rfl⟩
def ReadAns (T : TypeId) (g : Nat) (A : Option Addr) (n cap at' base : Nat) (bs : List (BitVec 8)) (er f bel : Int) (w : World) (e : Ending) (w' : World) : Prop :=
  Upd g w w' ∧ ∃ A2 k cap2, e = .returned (.slice A2 k cap2) ∧ k = (Vi.jL bs at' er f bel).length ∧ w'.ownsRow w.heap.size 3 1 (.slice A2 k cap2) k ((Vi.jL bs at' er f bel).map VI) ∧
    RdrIs T w' base g A n cap bs (Vi.jAt bs at' er f bel) (Vi.jE bs at' er f bel)
set_option maxHeartbeats 4000000 in
theorem List_calls (g : Nat) (A : Option Addr) (n cap at' base : Nat) (bs : List (BitVec 8)) (er f bel : Int) (w : World) (hr : RdrIs 68 w base g A n cap bs at' er) (hm : n ≤ 1099511627776) (hf : f ≤ 9223372036854775807) (hbl : bel ≤ 9223372036854775807) (hbm : -9223372036854775808 ≤ bel) :
    Calls Try.prog 35 #[.pointer (some ⟨g, 0, none⟩), .int .i64 f, .int .i64 bel] w (ReadAns 68 g A n cap at' base bs er f bel w) := by
  have c1 : w.cell? ⟨g, 1, none⟩ = some (.int .i64 (at' : Int)) := by rw [cell_heap hr.1]; rfl
  have c2 : w.cell? ⟨g, 2, none⟩ = some (.int .i64 er) := by rw [cell_heap hr.1]; rfl
  have Hr := Lib.hid hr
  clear hr
  go_enter Try.func35, Try.ntmps35
  by_cases he : er = 0
  · subst he
    go_wp2_with fail
    refine (list_calls g A n cap at' base bs f bel w Hr.out hm hf hbl hbm).mono ?_
    rintro e w1 ⟨hu, A2, k, cap2, rfl, hk, hown, at2, er2, hr2, hok⟩
    obtain ⟨s1, s2, s3⟩ := i16s bs at' f bel
    have hle := Vi.jAt_le bs at' 0 f bel (by rw [← Hr.out.2.2.1]; exact Hr.out.2.2.2.1)
    have herr := Vi.rdL_err f bel (bs.drop at')
    rw [← s1] at hk hown
    rw [← s2, ← s3] at hok
    rw [← s3] at herr ⊢
    rw [← s1] at herr
    generalize hEE : Vi.jE bs at' 0 f bel = E at *
    have HE := Lib.hid hEE
    clear s1 s2 s3 hEE c1 c2
    by_cases hz : E = 0
    · subst hz
      obtain ⟨rfl, rfl⟩ := hok rfl
      have k2 : w1.cell? ⟨g, 2, none⟩ = some (.int .i64 0) := by rw [cell_heap hr2.1]; rfl
      have Hu := Lib.hid hu; have Hown := Lib.hid hown; have Hr2 := Lib.hid hr2; have Hk := Lib.hid hk
      clear hu hown hr2 hk herr hle hok
      go_wp2_with fail
      go_ret
      exact ⟨Hu.out, A2, k, cap2, rfl, Hk.out, Hown.out, by rw [HE.out]; exact Hr2.out⟩
    · obtain ⟨z1, z2⟩ := herr hz
      have k1 : w1.cell? ⟨g, 1, none⟩ = some (.int .i64 (at2 : Int)) := by rw [cell_heap hr2.1]; rfl
      have k2 : w1.cell? ⟨g, 2, none⟩ = some (.int .i64 er2) := by rw [cell_heap hr2.1]; rfl
      have y1 : w1.frozen? ⟨g, 1, none⟩ = false := by simp [World.frozen?, hr2.1]
      have y2 : w1.frozen? ⟨g, 2, none⟩ = false := by simp [World.frozen?, hr2.1]
      have hb1 : (E == 0) = false := by rw [beq_eq_false_iff_ne]; exact hz
      have hb2 : (E != 0) = true := by rw [bne_iff_ne]; exact hz
      obtain ⟨u1, u2⟩ := rdr_set (at2 := at') (v1 := (at' : Int)) (er2 := E) hr2.1 (by decide) hr2.2.1 hr2.2.2.1 Hr.out.2.2.2.1 hr2.2.2.2.2 rfl
      have hat : Vi.jAt bs at' 0 f bel = at' := by
        have := (i16s bs at' f bel).2.1; rw [this]
        have h0 := (Vi.rdL_err f bel (bs.drop at') (by rw [← (i16s bs at' f bel).2.2, HE.out]; exact hz)).2
        omega
      have Hu := Lib.hid (hu.trans u1); have Hr2 := Lib.hid u2; have Hat := Lib.hid hat; have Z1 := Lib.hid z1
      clear hu hown hr2 hk herr hle hok z1 z2 hz hat u1 u2
      go_wp2_with fail
      go_ret
      refine ⟨Hu.out, none, 0, 0, rfl, by rw [Z1.out]; rfl, by rw [Z1.out]; exact ⟨rfl, Or.inl ⟨rfl, rfl⟩⟩, by rw [HE.out, Hat.out]; exact Hr2.out⟩
  · have hs : Vi.jL bs at' er f bel = [] ∧ Vi.jAt bs at' er f bel = at' ∧ Vi.jE bs at' er f bel = er := by unfold Vi.jL Vi.jAt Vi.jE; exact ⟨if_neg he, if_neg he, if_neg he⟩
    have Hs := Lib.hid hs
    have hb : (er != 0) = true := by rw [bne_iff_ne]; exact he
    clear hs he
    go_wp2_with fail
    go_ret
    obtain ⟨s1, s2, s3⟩ := Hs.out
    refine ⟨Upd.refl _ _, none, 0, 0, rfl, by rw [s1]; rfl, by rw [s1]; exact ⟨rfl, Or.inl ⟨rfl, rfl⟩⟩, by rw [s2, s3]; exact Hr.out⟩
set_option maxHeartbeats 1000000 in
theorem err_calls (g : Nat) (A : Option Addr) (n cap at' base : Nat) (bs : List (BitVec 8)) (er : Int) (w : World) (hr : RdrIs 68 w base g A n cap bs at' er) :
    Calls Try.prog 32 #[.pointer (some ⟨g, 0, none⟩)] w fun e w' => e = .returned (.tuple #[.int .i64 er, .int .i64 (at' : Int)]) ∧ ∃ k, w' = w.drewN k := by
  have c1 : w.cell? ⟨g, 1, none⟩ = some (.int .i64 (at' : Int)) := by rw [cell_heap hr.1]; rfl
  have c2 : w.cell? ⟨g, 2, none⟩ = some (.int .i64 er) := by rw [cell_heap hr.1]; rfl
  clear hr
  go_enter Try.func32, Try.ntmps32
  go_wp2_with fail
  go_quiet (fail)
  go_wp2_with fail
  go_ret2
  exact ⟨rfl, nq, rfl⟩
def lft (bs : List (BitVec 8)) (at' : Nat) (er : Int) : Int := if er = 0 then ((bs.length - at' : Nat) : Int) else 0
set_option maxHeartbeats 1000000 in
theorem left_calls (g : Nat) (A : Option Addr) (n cap at' base : Nat) (bs : List (BitVec 8)) (er : Int) (w : World) (hr : RdrIs 68 w base g A n cap bs at' er) (hm : n ≤ 1099511627776) :
    Calls Try.prog 33 #[.pointer (some ⟨g, 0, none⟩)] w fun e w' => e = .returned (.int .i64 (lft bs at' er)) ∧ ∃ k, w' = w.drewN k := by
  have c0 : w.cell? ⟨g, 0, none⟩ = some (.slice A n cap) := by rw [cell_heap hr.1]; rfl
  have c1 : w.cell? ⟨g, 1, none⟩ = some (.int .i64 (at' : Int)) := by rw [cell_heap hr.1]; rfl
  have c2 : w.cell? ⟨g, 2, none⟩ = some (.int .i64 er) := by rw [cell_heap hr.1]; rfl
  have Hn := Lib.hid hr.2.2.1; have hat := hr.2.2.2.1
  clear hr
  go_enter Try.func33, Try.ntmps33
  by_cases he : er = 0
  · subst he
    have He := Lib.hid (show lft bs at' 0 = ((bs.length - at' : Nat) : Int) from if_pos rfl)
    have hs : wrap64 ((n : Int) - (at' : Int)) = (n : Int) - (at' : Int) := IntWalk.wrap64_in _ (by omega)
    go_wp2_with fail
    go_quiet (fail)
    go_wp2_with fail
    go_ret
    refine ⟨?_, nq, rfl⟩
    rw [He.out, ← Hn.out]
    show Ending.returned (Value.int IntKind.i64 ((n : Int) - (at' : Int))) = _
    congr 2; omega
  · have hb : (er != 0) = true := by rw [bne_iff_ne]; exact he
    have He := Lib.hid (show lft bs at' er = 0 from if_neg he)
    clear he
    go_wp2_with fail
    go_ret
    exact ⟨by rw [He.out]; rfl, 0, rfl⟩
set_option maxHeartbeats 1000000 in
theorem newReader_calls (A : Option Addr) (n cap B : Nat) (bs : List (BitVec 8)) (w : World) (hn : n = bs.length) (hm : n ≤ 1099511627776) (hB : B ≤ w.heap.size) (hr : Rd w B A (bs.map V8)) :
    Calls Try.prog 25 #[.slice A n cap] w fun e w' => ∃ g A' cap', e = .returned (.pointer (some ⟨g, 0, none⟩)) ∧ RdrIs 68 w' w.heap.size g A' n cap' bs 0 0 ∧ Below w.heap.size w w' := by
  have Hn := Lib.hid hn; have Hr := Lib.hid hr
  clear hn hr
  go_enter Try.func25, Try.ntmps25
  go_wp2_with fail
  refine (grown_calls A n cap 0 B bs w Hn.out (by omega) hB Hr.out).mono ?_
  rintro e w1 ⟨A1, cap1, rfl, hown1, hb1⟩
  have Hown1 := Lib.hid hown1; have Hb1 := Lib.hid hb1
  have hs1 := hb1.size
  clear hown1 hb1
  go_wp2_with fail
  go_ret
  refine ⟨w1.heap.size, A1, cap1, rfl, ⟨heap_alloc_new _ _, own_below Hown1.out ((Below.refl w1.heap.size w1).alloc (Nat.le_refl _) _) (Nat.le_refl _), Hn.out, Nat.zero_le _, hs1⟩, Hb1.out.alloc hs1 _⟩
set_option maxHeartbeats 1000000 in
theorem rnew_calls (A : Option Addr) (n cap B : Nat) (bs : List (BitVec 8)) (w : World) (hn : n = bs.length) (hm : n ≤ 1099511627776) (hnil : A = none → n = 0 ∧ cap = 0) (hB : B ≤ w.heap.size) (hr : Rd w B A (bs.map V8)) :
    Calls Try.prog 26 #[.slice A n cap] w fun e w' => ∃ g A' cap', e = .returned (.pointer (some ⟨g, 0, none⟩)) ∧ RdrIs 70 w' w.heap.size g A' n cap' bs 0 0 ∧ Below w.heap.size w w' := by
  have Hn := Lib.hid hn; have Hr := Lib.hid hr; have Hnil := Lib.hid hnil
  clear hn hr hnil
  go_enter Try.func26, Try.ntmps26
  go_wp2_with fail
  refine (bytes_calls A n cap B bs w Hn.out (by omega) Hnil.out hB Hr.out).mono ?_
  rintro e w1 ⟨A1, cap1, rfl, hown1, hb1⟩
  have Hown1 := Lib.hid hown1; have Hb1 := Lib.hid hb1
  have hs1 := hb1.size
  clear hown1 hb1
  go_wp2_with fail
  go_ret
  refine ⟨w1.heap.size, A1, cap1, rfl, ⟨heap_alloc_new _ _, own_below Hown1.out ((Below.refl w1.heap.size w1).alloc (Nat.le_refl _) _) (Nat.le_refl _), Hn.out, Nat.zero_le _, hs1⟩, Hb1.out.alloc hs1 _⟩
end Go.Proofs.Ytkohakogknodeaa
