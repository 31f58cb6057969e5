/- the reference's Parse -/
import Derived.Test.YtgoobadkbndfgaaDoorRfC
namespace Go.Proofs.YtgoobadkbndfgaaDoor
open Go.RowKit
set_option linter.unusedSimpArgs false
set_option linter.unusedVariables false
set_option maxHeartbeats 4000000 in
set_option maxRecDepth 20000 in
theorem ParseR_calls (A : Option Addr) (n cap B : Nat) (bs : List (BitVec 8)) (w : World) (hn : n = bs.length) (hm : n ≤ 274877906944) (hcap : n ≤ cap) (hcm : cap ≤ 9223372036854775807) (hnil : A = none → n = 0 ∧ cap = 0) (hB : B ≤ w.heap.size) (hr : Rd w B A (bs.map V8)) :
    Calls Tryd.prog 49 #[.slice A n cap] w (ParseSaid bs w) := by
  have Hrd := Lib.hid (Read_calls A n cap B bs w hn hm hcap hcm hnil hB hr)
  unfold ReadSaid at Hrd
  have h1 : (Tx.all bs).pEnd = if (Tx.all bs).eEnd = 0 then (Tx.all bs).pairs else [] := rfl
  have h2 : (Tx.all bs).eEnd = 0 → (Tx.all bs).fEnd 0 0 = 0 := by
    intro h
    unfold Tx.Run.fEnd
    unfold Tx.Run.eEnd at h
    by_cases he : (Tx.all bs).e ≠ 0
    · rw [if_pos he] at h; exact absurd h he
    · rw [if_neg he]
  have H1 := Lib.hid h1; have H2 := Lib.hid h2
  clear hr hnil h1 h2 hn
  unfold ParseSaid
  generalize (Tx.all bs).pEnd = PE at *
  generalize (Tx.all bs).fEnd 0 0 = F at *
  generalize (Tx.all bs).eEnd = E at *
  generalize Tx.all bs = R at *
  obtain ⟨P, e, k, N, b⟩ := R
  dsimp only at Hrd H1 H2 ⊢
  go_enter Tryd.func49, Tryd.ntmps49
  go_wp2_with fail
  refine (Hrd.out).mono ?_
  rintro en w1 ⟨Ap, capp, rfl, hown1, hb1⟩
  have hz1 := hb1.size
  have hb2 : Below w1.heap.size w1 (w1.alloc (.cells #[.int .i64 N, .bool b, .slice Ap P.length capp, .int .i64 F, .int .i64 E] 88)) := (Below.refl _ _).alloc (Nat.le_refl _) _
  have Hown2 := Lib.hid (own_below_s hown1 hb2 (Nat.le_refl _))
  have Hb2 := Lib.hid (hb1.trans (hb2.mono hz1))
  clear hown1 hb1 hb2
  by_cases hE : E = 0
  · have hF := H2.out hE
    have hP : PE = P := by rw [H1.out, if_pos hE]
    subst hE hF hP
    go_wp2_with fail
    go_big_quiet (fail)
    go_wp2_with fail
    (try simp only [Exit.inBlock, Exit.then])
    refine bodyPost_ret (results_tmp4 rfl _ _ _) rfl ?_
    exact ⟨Ap, capp, by simp, own_drawN Hown2.out nq, below_drewN Hb2.out nq⟩
  · have hP : PE = [] := by rw [H1.out, if_neg hE]
    have HE := Lib.hid hE
    have hne : (E != 0) = true := by simpa using hE
    subst hP
    clear hE
    go_wp2_with fail
    go_big_quiet (fail)
    go_wp2_with fail
    (try simp only [Exit.inBlock, Exit.then])
    refine bodyPost_ret (results_tmp4 rfl _ _ _) rfl ?_
    (try rw [if_neg HE.out])
    exact ⟨none, 0, rfl, World.ownsRow_nil _ _ _ _, below_drewN Hb2.out nq⟩
end Go.Proofs.YtgoobadkbndfgaaDoor
