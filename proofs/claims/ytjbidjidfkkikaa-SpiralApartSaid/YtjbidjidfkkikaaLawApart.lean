/- SpiralApart: the walk -/
import Derived.Test.YtjbidjidfkkikaaSpO
namespace Go.Proofs.Ytjbidjidfkkikaa
open Go.RowKit
set_option linter.unusedSimpArgs false
set_option linter.unusedVariables false
set_option maxHeartbeats 2000000 in
theorem law_apart (i j : Int) (w : World) (hw : (Lit.int .i64 i).wf = true) (hw2 : (Lit.int .i64 j).wf = true) :
    Calls Try.prog 8 #[.int .i64 i, .int .i64 j] w fun e w' => e = .returned (.bool true) ∧ Below w.heap.size w w' := by
  clear hw hw2
  go_enter Try.func8, Try.ntmps8
  go_wp2_with fail
  refine (first_calls w).mono ?_
  rintro e w1 ⟨rfl, hb1⟩
  have hs1 := hb1.size
  have Hb1 := Lib.hid hb1
  clear hb1
  go_wp2_with fail
  refine (Spot_any i w1).mono ?_
  rintro e w2 ⟨b, z1, z2, rfl, ⟨k2, rfl⟩, hz⟩
  have Hb2 := Lib.hid (below_drewN Hb1.out k2)
  generalize w1.drewN k2 = w2 at *
  have Hz := Lib.hid hz
  clear hz
  go_wp2_with fail
  refine (Spot_any j w2).mono ?_
  rintro e w3 ⟨c, y1, y2, rfl, ⟨k3, rfl⟩, hy⟩
  have Hb3 := Lib.hid (below_drewN Hb2.out k3)
  generalize w2.drewN k3 = w3 at *
  rcases Hz.out with ⟨rfl, I, rfl, hI, rfl, rfl⟩ | ⟨rfl, _⟩
  · rcases hy with ⟨rfl, J, rfl, hJ, rfl, rfl⟩ | ⟨rfl, _⟩
    · obtain ⟨s1, s2⟩ := Sp.spot_small I hI
      obtain ⟨t1, t2⟩ := Sp.spot_small J hJ
      obtain ⟨o1, h1, g1⟩ := ord_fv _ _ s1 t1
      obtain ⟨o2, h2, g2⟩ := ord_fv _ _ s2 t2
      have key : (I : Int) = (J : Int) ↔ (o1 = .eq ∧ o2 = .eq) := by
        rw [g1, g2]
        constructor
        · intro h; obtain rfl : I = J := by omega
          exact ⟨rfl, rfl⟩
        · rintro ⟨ha, hb⟩; rw [Sp.spot_inj (Prod.ext ha hb)]
      have Key := Lib.hid key
      clear Hz g1 g2 key s1 s2 t1 t2
      go_wp2_with fail
      have e : ((o1 == Ordering.eq && o2 == Ordering.eq) == ((I : Int) == (J : Int))) = true := by
        by_cases h : (I : Int) = (J : Int)
        · obtain ⟨a, b⟩ := Key.out.1 h
          subst a b; rw [h]; simp
        · have := fun a => h (Key.out.2 a)
          have h2 : ((I : Int) == (J : Int)) = false := by simpa using h
          rw [h2]
          cases o1 <;> cases o2 <;> simp_all
      go_ret
      exact ⟨by rw [e]; rfl, Hb3.out⟩
    · go_wp2_with fail
      go_ret
      exact ⟨rfl, Hb3.out⟩
  · go_wp2_with fail
    go_ret
    exact ⟨rfl, Hb3.out⟩
end Go.Proofs.Ytjbidjidfkkikaa
