/- slices.rotateCmpFunc over ints -/
import Derived.Test.YtmeoafodcniliaaGreatDoorStA
namespace Go.Proofs.YtmeoafodcniliaaGreatDoor.C24
open Go.RowKit
set_option linter.unusedSimpArgs false
set_option linter.unusedVariables false
set_option maxHeartbeats 8000000 in
set_option maxRecDepth 20000 in
theorem rot_calls (g n cap base a m b : Nat) (P U V S : List Int) (cb : Array Value) (w : World) (ha : a = P.length) (hm : m = P.length + U.length) (hb : b = P.length + U.length + V.length) (hU : 1 ≤ U.length) (hV : 1 ≤ V.length) (hn : (P ++ (U ++ (V ++ S))).length = n) (hn2 : n ≤ 1099511627776)
    (hown : w.ownsRow base 3 1 (.slice (some ⟨g, 0, none⟩) n cap) n ((P ++ (U ++ (V ++ S))).map VI)) :
    Calls Tryz.prog 262 #[.slice (some ⟨g, 0, none⟩) n cap, .int .i64 (a : Int), .int .i64 (m : Int), .int .i64 (b : Int), .func (.func 98) #[] cb] w fun e w' =>
      e = .returned (.tuple #[]) ∧ w'.ownsRow base 3 1 (.slice (some ⟨g, 0, none⟩) n cap) n ((P ++ (V ++ (U ++ S))).map VI) ∧ Upd g w w' := by
  obtain ⟨i0, hi0⟩ : ∃ i, i = U.length := ⟨_, rfl⟩
  obtain ⟨j0, hj0⟩ : ∃ j, j = V.length := ⟨_, rfl⟩
  have hk : i0 + j0 ≤ n ∧ m ≤ n ∧ b ≤ n := by simp at hn; omega
  have e1 : (m : Int) - (a : Int) = (i0 : Int) := by omega
  have e2 : (b : Int) - (m : Int) = (j0 : Int) := by omega
  obtain ⟨hk1, hk2, hk3⟩ := hk
  have Hi0 := Lib.hid hi0; have Hj0 := Lib.hid hj0
  have Hm := Lib.hid hm; have HU := Lib.hid hU; have HV := Lib.hid hV; have Hn := Lib.hid hn; have Hown := Lib.hid hown
  clear ha hb hU hV hn hown hm hi0 hj0
  go_enter Tryz.func262, Tryz.ntmps262
  go_wp2_with fail
  go_loopw [10, 11] (fun iv jv wr => ∃ (i j : Nat) (P1 U1 V1 S1 : List Int), iv = .int .i64 (i : Int) ∧ jv = .int .i64 (j : Int) ∧ 1 ≤ i ∧ 1 ≤ j ∧ U1.length = i ∧ V1.length = j ∧ P1.length + i = m ∧ P1 ++ (V1 ++ (U1 ++ S1)) = P ++ (V ++ (U ++ S)) ∧ (P1 ++ (U1 ++ (V1 ++ S1))).length = n ∧ wr.ownsRow base 3 1 (.slice (some ⟨g, 0, none⟩) n cap) n ((P1 ++ (U1 ++ (V1 ++ S1))).map VI) ∧ Upd g w wr) (fun iv jv _ => (intOf iv).toNat + (intOf jv).toNat)
  case atStart => exact ⟨i0, j0, P, U, V, S, rfl, rfl, by rw [Hi0.out]; exact HU.out, by rw [Hj0.out]; exact HV.out, Hi0.out.symm, Hj0.out.symm, by rw [Hm.out, Hi0.out], rfl, Hn.out, Hown.out, Upd.refl _ _⟩
  case round =>
    obtain ⟨i, j, P1, U1, V1, S1, rfl, rfl, hi, hj, hu1, hv1, hp1, he, hn1, hown, hu⟩ := hrel
    have hb1 : m + j ≤ n := by simp at hn1; omega
    have Hu1 := Lib.hid hu1; have Hv1 := Lib.hid hv1; have Hp1 := Lib.hid hp1; have He := Lib.hid he; have Hn1 := Lib.hid hn1; have Ho := Lib.hid hown; have Hu := Lib.hid hu
    clear hu1 hv1 hp1 he hn1 hown hu
    have e3 : (m : Int) - (i : Int) = ((m - i : Nat) : Int) := by have := Hp1.out; omega
    by_cases hij : i = j
    · subst hij
      go_wp2_with fail
      refine (swr_calls g n cap base (m - i) m i P1 U1 [] V1 S1 cb wr (by have := Hp1.out; omega) (by have := Hp1.out; have := Hu1.out; simp; omega) Hu1.out Hv1.out (by simpa using Hn1.out) (by omega) (by simpa using Ho.out)).mono ?_
      rintro e w2 ⟨rfl, ho2, hu2⟩
      have Ho2 := Lib.hid ho2; have Hu2 := Lib.hid (Hu.out.trans hu2)
      clear ho2 hu2
      go_wp2_with fail
      go_end0
      refine ⟨rfl, ?_, Hu2.out⟩
      rw [← He.out]
      simpa using Ho2.out
    · have t1 : ((i : Int) != (j : Int)) = true := by rw [bne_iff_ne]; omega
      by_cases hlt : j < i
      · have l1 : (j : Int) < (i : Int) := by omega
        have e4 : (i : Int) - (j : Int) = ((i - j : Nat) : Int) := by omega
        obtain ⟨U2, U3, hU⟩ : ∃ A B, U1 = A ++ B := ⟨U1.take j, U1.drop j, (List.take_append_drop j U1).symm⟩
        have hlU : U1.length = U2.length + U3.length := by rw [hU]; simp
        obtain ⟨U2, U3, rfl, hl2⟩ : ∃ A B, U1 = A ++ B ∧ A.length = j := ⟨U1.take j, U1.drop j, (List.take_append_drop j U1).symm, by have := Hu1.out; simp; omega⟩
        have hl3 : U3.length = i - j := by have := Hu1.out; simp at this; omega
        have Hl2 := Lib.hid hl2; have Hl3 := Lib.hid hl3; have Hij := Lib.hid hij; have Hlt := Lib.hid hlt
        clear hU hlU hl2 hl3 hij hlt
        go_wp2_with fail
        refine (swr_calls g n cap base (m - i) m j P1 U2 U3 V1 S1 cb wr (by have := Hp1.out; omega) (by have := Hp1.out; have := Hl2.out; have := Hl3.out; have := Hlt.out; omega) Hl2.out Hv1.out (by rw [← Hn1.out]; simp) (by omega) (by have := Ho.out; simpa using this)).mono ?_
        rintro e w2 ⟨rfl, ho2, hu2⟩
        have Ho2 := Lib.hid ho2; have Hu2 := Lib.hid (Hu.out.trans hu2)
        clear ho2 hu2
        go_wp2_with fail
        refine ⟨⟨i - j, j, P1 ++ V1, U3, U2, S1, rfl, rfl, by have := Hlt.out; omega, hj, Hl3.out, Hl2.out, ?_, ?_, ?_, ?_, Hu2.out⟩, ?_⟩
        · have := Hp1.out; have := Hv1.out; have := Hlt.out; simp; omega
        · rw [← He.out]; simp
        · rw [← Hn1.out]; simp; omega
        · have := Ho2.out; simpa using this
        · simp [intOf]; have := Hlt.out; omega
      · have l1 : ¬ (j : Int) < (i : Int) := by omega
        have e4 : (j : Int) - (i : Int) = ((j - i : Nat) : Int) := by omega
        have e5 : (m : Int) + (j : Int) - (i : Int) = ((m + j - i : Nat) : Int) := by have := Hp1.out; omega
        obtain ⟨V2, V3, rfl, hl2⟩ : ∃ A B, V1 = A ++ B ∧ B.length = i := ⟨V1.take (j - i), V1.drop (j - i), (List.take_append_drop _ V1).symm, by have := Hv1.out; simp; omega⟩
        have hl3 : V2.length = j - i := by have := Hv1.out; simp at this; omega
        have Hl2 := Lib.hid hl2; have Hl3 := Lib.hid hl3; have Hij := Lib.hid hij; have Hlt := Lib.hid hlt
        clear hl2 hl3 hij hlt
        go_wp2_with fail
        refine (swr_calls g n cap base (m - i) (m + j - i) i P1 U1 V2 V3 S1 cb wr (by have := Hp1.out; omega) (by have := Hp1.out; have := Hl2.out; have := Hl3.out; have := Hlt.out; have := Hu1.out; have := Hij.out; omega) Hu1.out Hl2.out (by rw [← Hn1.out]; simp) (by omega) (by have := Ho.out; simpa using this)).mono ?_
        rintro e w2 ⟨rfl, ho2, hu2⟩
        have Ho2 := Lib.hid ho2; have Hu2 := Lib.hid (Hu.out.trans hu2)
        clear ho2 hu2
        go_wp2_with fail
        refine ⟨⟨i, j - i, P1, V3, V2, U1 ++ S1, rfl, rfl, hi, by have := Hlt.out; have := Hij.out; omega, Hl2.out, Hl3.out, Hp1.out, ?_, ?_, ?_, Hu2.out⟩, ?_⟩
        · rw [← He.out]; simp
        · rw [← Hn1.out]; simp; omega
        · have := Ho2.out; simpa using this
        · simp [intOf]; have := Hlt.out; have := Hij.out; omega
end Go.Proofs.YtmeoafodcniliaaGreatDoor.C24
