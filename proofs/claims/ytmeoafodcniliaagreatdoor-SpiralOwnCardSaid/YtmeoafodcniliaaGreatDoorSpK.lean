/- the closure of spiral.Place -/
import Derived.Test.YtmeoafodcniliaaGreatDoorSpJ
namespace Go.Proofs.YtmeoafodcniliaaGreatDoor.C24
open Go.RowKit
set_option linter.unusedSimpArgs false
set_option linter.unusedVariables false
/-- How Place's closure compares. -/
def Sp.cf (zs : List Int) (x y : Int) : Int := if zs.getD y.toNat 0 < zs.getD x.toNat 0 then -1 else if zs.getD x.toNat 0 < zs.getD y.toNat 0 then 1 else 0
set_option maxHeartbeats 2000000 in
theorem cmp_calls (gb n cap B x y : Nat) (A : Option Addr) (zs : List Int) (w : World) (hn : n = zs.length) (hx : x < n) (hy : y < n) (hbox : w.cell? ⟨gb, 0, none⟩ = some (.slice A n cap)) (hr : Rd w B A (zs.map VI)) :
    Calls Tryz.prog 98 (#[.int .i64 (x : Int), .int .i64 (y : Int)] ++ #[.pointer (some ⟨gb, 0, none⟩)]) w fun e w' => e = .returned (.int .i64 (Sp.cf zs (x : Int) (y : Int))) ∧ ∃ q, w' = w.drewN q := by
  have hzx : zs[x]? = some (zs.getD x 0) := by simp [List.getD, List.getElem?_eq_getElem (show x < zs.length by omega)]
  have hzy : zs[y]? = some (zs.getD y 0) := by simp [List.getD, List.getElem?_eq_getElem (show y < zs.length by omega)]
  have Hcf := Lib.hid (show Sp.cf zs (x : Int) (y : Int) = if zs.getD y 0 < zs.getD x 0 then -1 else if zs.getD x 0 < zs.getD y 0 then 1 else 0 by unfold Sp.cf; rw [Int.toNat_natCast, Int.toNat_natCast])
  obtain ⟨u, hu⟩ : ∃ u, u = zs.getD x 0 := ⟨_, rfl⟩
  obtain ⟨v, hv⟩ : ∃ v, v = zs.getD y 0 := ⟨_, rfl⟩
  rw [← hu] at hzx Hcf
  rw [← hv] at hzy Hcf
  obtain ⟨b, off, hA, _, cx⟩ := rd_get hr hzx
  obtain ⟨b', off', hA', _, cy⟩ := rd_get hr hzy
  rw [hA] at hA'
  injection hA' with e1
  injection e1 with e2 e3
  subst e2 e3 hA
  have x1 : (x : Int) < (n : Int) := by omega
  have y1 : (y : Int) < (n : Int) := by omega
  clear hu hv hzx hzy hr hn hx hy
  show Calls _ _ #[.int .i64 (x : Int), .int .i64 (y : Int), .pointer (some ⟨gb, 0, none⟩)] _ _
  go_enter Tryz.func98, Tryz.ntmps98
  by_cases h1 : v < u
  · have Hc : Hid (Sp.cf zs (x : Int) (y : Int) = -1) := Lib.hid (by rw [Hcf.out, if_pos h1])
    go_wp2_with fail
    go_big_quiet (fail)
    go_wp2_with fail
    go_ret
    exact ⟨by rw [Hc.out]; rfl, nq, rfl⟩
  · by_cases h2 : u < v
    · have Hc : Hid (Sp.cf zs (x : Int) (y : Int) = 1) := Lib.hid (by rw [Hcf.out, if_neg h1, if_pos h2])
      go_wp2_with fail
      go_big_quiet (fail)
      go_wp2_with fail
      go_big_quiet (fail)
      go_wp2_with fail
      go_ret
      exact ⟨by rw [Hc.out]; rfl, _, World.drewN_drewN _ _ _⟩
    · have Hc : Hid (Sp.cf zs (x : Int) (y : Int) = 0) := Lib.hid (by rw [Hcf.out, if_neg h1, if_neg h2])
      go_wp2_with fail
      go_big_quiet (fail)
      go_wp2_with fail
      go_big_quiet (fail)
      go_wp2_with fail
      go_ret
      exact ⟨by rw [Hc.out]; rfl, _, World.drewN_drewN _ _ _⟩
end Go.Proofs.YtmeoafodcniliaaGreatDoor.C24
