/- SamePairs, SameChanges -/
import Derived.Test.YtmeoafodcniliaaGreatDoorTxK
namespace Go.Proofs.YtmeoafodcniliaaGreatDoor.C4
open Go.RowKit
set_option linter.unusedSimpArgs false
set_option linter.unusedVariables false
theorem pcs_get {ps : List (Int × Int)} : ∀ {a : Nat} {p : Int × Int}, ps[a]? = some p → (pcs ps)[a * 2]? = some (.int .i64 p.1) ∧ (pcs ps)[a * 2 + 1]? = some (.int .i64 p.2) := by
  induction ps with
  | nil => intro a p h; simp at h
  | cons q ps ih =>
    intro a p h
    have e : pcs (q :: ps) = .int .i64 q.1 :: .int .i64 q.2 :: pcs ps := rfl
    rw [e]
    cases a with
    | zero => simp at h; subst h; exact ⟨rfl, rfl⟩
    | succ a =>
      simp at h
      obtain ⟨h1, h2⟩ := ih h
      rw [show (a + 1) * 2 = a * 2 + 1 + 1 by omega]
      exact ⟨by simpa using h1, by simpa using h2⟩
theorem chs_get {ps : List Tx.Ch} : ∀ {a : Nat} {p : Tx.Ch}, ps[a]? = some p → (chs ps)[a * 3]? = some (.int .i64 p.u) ∧ (chs ps)[a * 3 + 1]? = some (.int .i64 p.v) ∧ (chs ps)[a * 3 + 2]? = some (.bool p.gone) := by
  induction ps with
  | nil => intro a p h; simp at h
  | cons q ps ih =>
    intro a p h
    have e : chs (q :: ps) = .int .i64 q.u :: .int .i64 q.v :: .bool q.gone :: chs ps := rfl
    rw [e]
    cases a with
    | zero => simp at h; subst h; exact ⟨rfl, rfl, rfl⟩
    | succ a =>
      simp at h
      obtain ⟨h1, h2, h3⟩ := ih h
      rw [show (a + 1) * 3 = a * 3 + 1 + 1 + 1 by omega]
      exact ⟨by simpa using h1, by simpa using h2, by simpa using h3⟩
theorem rd_pair {w : World} {B : Nat} {A : Option Addr} {ps : List (Int × Int)} (h : Rd w B A (pcs ps)) {a : Nat} {p : Int × Int} (hp : ps[a]? = some p) : ∃ b off, A = some ⟨b, off, none⟩ ∧ b < B ∧ w.cell? ⟨b, off + a * 2, none⟩ = some (.int .i64 p.1) ∧ w.cell? ⟨b, off + a * 2 + 1, none⟩ = some (.int .i64 p.2) := by
  obtain ⟨h1, h2⟩ := pcs_get hp
  obtain ⟨b, off, he, hb, hc⟩ := h _ _ h1
  obtain ⟨b', off', he', _, hc'⟩ := h _ _ h2
  rw [he] at he'; injection he' with he'; injection he' with e1 e2; subst e1 e2
  exact ⟨b, off, he, hb, hc, by rw [Nat.add_assoc]; exact hc'⟩
theorem rd_ch {w : World} {B : Nat} {A : Option Addr} {ps : List Tx.Ch} (h : Rd w B A (chs ps)) {a : Nat} {p : Tx.Ch} (hp : ps[a]? = some p) : ∃ b off, A = some ⟨b, off, none⟩ ∧ b < B ∧ w.cell? ⟨b, off + a * 3, none⟩ = some (.int .i64 p.u) ∧ w.cell? ⟨b, off + a * 3 + 1, none⟩ = some (.int .i64 p.v) ∧ w.cell? ⟨b, off + a * 3 + 2, none⟩ = some (.bool p.gone) := by
  obtain ⟨h1, h2, h3⟩ := chs_get hp
  obtain ⟨b, off, he, hb, hc⟩ := h _ _ h1
  obtain ⟨b', off', he', _, hc'⟩ := h _ _ h2
  obtain ⟨b'', off'', he'', _, hc''⟩ := h _ _ h3
  rw [he] at he' he''; injection he' with he'; injection he' with e1 e2; subst e1 e2
  injection he'' with he''; injection he'' with e1 e2; subst e1 e2
  exact ⟨b, off, he, hb, hc, by rw [Nat.add_assoc]; exact hc', by rw [Nat.add_assoc]; exact hc''⟩
set_option maxHeartbeats 4000000 in
theorem sameP_calls (A A' : Option Addr) (n cap n' cap' B B' : Nat) (ps qs : List (Int × Int)) (w : World) (hn : n = ps.length) (hn' : n' = qs.length) (hc : n ≤ cap) (hc' : n' ≤ cap') (hcm : cap ≤ maxLen) (hcm' : cap' ≤ maxLen) (hr : Rd w B A (pcs ps)) (hr' : Rd w B' A' (pcs qs)) :
    Calls Tryz.prog 23 #[.slice A n cap, .slice A' n' cap'] w fun e w' => e = .returned (.bool (decide (ps = qs))) ∧ ∃ k, w' = w.drewN k := by
  have Hn := Lib.hid hn; have Hr := Lib.hid hr; have Hn' := Lib.hid hn'; have Hr' := Lib.hid hr'
  unfold maxLen at hcm hcm'
  clear hn hr hn' hr'
  go_enter Tryz.func23, Tryz.ntmps23
  by_cases hnn : n = n'
  · subst hnn
    go_wp2_with fail
    go_loopw [5] (fun i wr => ∃ a : Nat, i = .int .i64 (a : Int) ∧ a ≤ n ∧ ps.take a = qs.take a ∧ ∃ k, wr = w.drewN k) (fun i _ => n - (intOf i).toNat)
    case atStart => exact ⟨0, rfl, by omega, by simp, 0, rfl⟩
    case round =>
      obtain ⟨a, rfl, ha, he, hd⟩ := hrel
      have He := Lib.hid he; have Hd := Lib.hid hd; clear he hd
      by_cases hlt : a < n
      · have q1 : (a : Int) < (n : Int) := by omega
        obtain ⟨⟨u, v⟩, hz⟩ : ∃ z, ps[a]? = some z := ⟨ps[a]'(by rw [← Hn.out]; omega), List.getElem?_eq_getElem _⟩
        obtain ⟨⟨u', v'⟩, hz'⟩ : ∃ z, qs[a]? = some z := ⟨qs[a]'(by rw [← Hn'.out]; omega), List.getElem?_eq_getElem _⟩
        obtain ⟨b, off, rfl, hb, hc1, hc2⟩ := rd_pair (w := wr) (by obtain ⟨d, rfl⟩ := Hd.out; exact Hr.out) hz
        obtain ⟨b', off', rfl, hb', hc1', hc2'⟩ := rd_pair (w := wr) (by obtain ⟨d, rfl⟩ := Hd.out; exact Hr'.out) hz'
        have Hz := Lib.hid hz; have Hz' := Lib.hid hz'
        dsimp only at hc1 hc2 hc1' hc2'
        clear hz hz'
        have Hdn := Lib.hid (show ∀ q, ∃ k, wr.drewN q = w.drewN k from fun q => by obtain ⟨d, rfl⟩ := Hd.out; exact ⟨_, World.drewN_drewN _ _ _⟩)
        by_cases hu : u = u'
        · by_cases hv : v = v'
          · have He2 := Lib.hid (show ps.take (a + 1) = qs.take (a + 1) by rw [List.take_add_one, List.take_add_one, He.out, Hz.out, Hz'.out, hu, hv])
            have t1 : (u == u') = true := by simpa using hu
            have t2 : (v == v') = true := by simpa using hv
            clear hu hv
            go_wp2_with fail
            go_big_quiet (fail)
            go_wp2_with fail
            exact ⟨⟨a + 1, by congr 1, by omega, He2.out, Hdn.out _⟩, by simp [intOf]; omega⟩
          · have Hne := Lib.hid (show ¬ ps = qs from fun h => by subst h; have := Hz.out.symm.trans Hz'.out; injection this with this; injection this with _ this; exact hv this)
            have t1 : (u == u') = true := by simpa using hu
            have t2 : (v == v') = false := by simpa using hv
            clear hu hv
            go_wp2_with fail
            go_big_quiet (fail)
            go_wp2_with fail
            go_ret
            exact ⟨by rw [decide_eq_false Hne.out]; rfl, Hdn.out _⟩
        · have Hne := Lib.hid (show ¬ ps = qs from fun h => by subst h; have := Hz.out.symm.trans Hz'.out; injection this with this; injection this with this _; exact hu this)
          have t1 : (u == u') = false := by simpa using hu
          clear hu
          go_wp2_with fail
          go_big_quiet (fail)
          go_wp2_with fail
          go_ret
          exact ⟨by rw [decide_eq_false Hne.out]; rfl, Hdn.out _⟩
      · have hza : ps = qs := by
          have := He.out
          rwa [List.take_of_length_le (by rw [← Hn.out]; omega), List.take_of_length_le (by rw [← Hn'.out]; omega)] at this
        have Hza := Lib.hid hza; clear hza
        go_wp2_with fail
        go_ret
        exact ⟨by rw [decide_eq_true Hza.out]; rfl, Hd.out⟩
  · have hz : ((n : Int) != (n' : Int)) = true := by rw [bne_iff_ne]; omega
    have Hne := Lib.hid (show ¬ ps = qs from fun h => hnn (by rw [Hn.out, Hn'.out, h]))
    clear hnn
    go_wp2_with fail
    go_ret
    exact ⟨by rw [decide_eq_false Hne.out]; rfl, 0, rfl⟩
/-- What is compared. -/
def Tx.Ch.tr (c : Tx.Ch) : Int × Int × Bool := (c.u, c.v, c.gone)
set_option maxHeartbeats 4000000 in
theorem sameC_calls (A A' : Option Addr) (n cap n' cap' B B' : Nat) (ps qs : List Tx.Ch) (w : World) (hn : n = ps.length) (hn' : n' = qs.length) (hc : n ≤ cap) (hc' : n' ≤ cap') (hcm : cap ≤ maxLen) (hcm' : cap' ≤ maxLen) (hr : Rd w B A (chs ps)) (hr' : Rd w B' A' (chs qs)) :
    Calls Tryz.prog 61 #[.slice A n cap, .slice A' n' cap'] w fun e w' => e = .returned (.bool (decide (ps.map Tx.Ch.tr = qs.map Tx.Ch.tr))) ∧ ∃ k, w' = w.drewN k := by
  have Hn := Lib.hid hn; have Hr := Lib.hid hr; have Hn' := Lib.hid hn'; have Hr' := Lib.hid hr'
  unfold maxLen at hcm hcm'
  clear hn hr hn' hr'
  go_enter Tryz.func61, Tryz.ntmps61
  by_cases hnn : n = n'
  · subst hnn
    go_wp2_with fail
    go_loopw [5] (fun i wr => ∃ a : Nat, i = .int .i64 (a : Int) ∧ a ≤ n ∧ (ps.map Tx.Ch.tr).take a = (qs.map Tx.Ch.tr).take a ∧ ∃ k, wr = w.drewN k) (fun i _ => n - (intOf i).toNat)
    case atStart => exact ⟨0, rfl, by omega, by simp, 0, rfl⟩
    case round =>
      obtain ⟨a, rfl, ha, he, hd⟩ := hrel
      have He := Lib.hid he; have Hd := Lib.hid hd; clear he hd
      by_cases hlt : a < n
      · have q1 : (a : Int) < (n : Int) := by omega
        obtain ⟨⟨u, v, gn, e0⟩, hz⟩ : ∃ z, ps[a]? = some z := ⟨ps[a]'(by rw [← Hn.out]; omega), List.getElem?_eq_getElem _⟩
        obtain ⟨⟨u', v', gn', e0'⟩, hz'⟩ : ∃ z, qs[a]? = some z := ⟨qs[a]'(by rw [← Hn'.out]; omega), List.getElem?_eq_getElem _⟩
        obtain ⟨b, off, rfl, hb, hc1, hc2, hc3⟩ := rd_ch (w := wr) (by obtain ⟨d, rfl⟩ := Hd.out; exact Hr.out) hz
        obtain ⟨b', off', rfl, hb', hc1', hc2', hc3'⟩ := rd_ch (w := wr) (by obtain ⟨d, rfl⟩ := Hd.out; exact Hr'.out) hz'
        have Hz := Lib.hid (show (ps.map Tx.Ch.tr)[a]? = some (u, v, gn) by rw [List.getElem?_map, hz]; rfl); have Hz' := Lib.hid (show (qs.map Tx.Ch.tr)[a]? = some (u', v', gn') by rw [List.getElem?_map, hz']; rfl)
        dsimp only at hc1 hc2 hc3 hc1' hc2' hc3'
        clear hz hz'
        have Hdn := Lib.hid (show ∀ q, ∃ k, wr.drewN q = w.drewN k from fun q => by obtain ⟨d, rfl⟩ := Hd.out; exact ⟨_, World.drewN_drewN _ _ _⟩)
        by_cases hu : u = u'
        · by_cases hv : v = v'
          · have t1 : (u == u') = true := by simpa using hu
            have t2 : (v == v') = true := by simpa using hv
            by_cases hg : gn = gn'
            · have He2 := Lib.hid (show (ps.map Tx.Ch.tr).take (a + 1) = (qs.map Tx.Ch.tr).take (a + 1) by rw [List.take_add_one, List.take_add_one, He.out, Hz.out, Hz'.out, hu, hv, hg])
              subst hg
              have t3 : (gn == gn) = true := by simp
              clear hu hv
              go_wp2_with fail
              go_big_quiet (fail)
              go_wp2_with fail
              exact ⟨⟨a + 1, by congr 1, by omega, He2.out, Hdn.out _⟩, by simp [intOf]; omega⟩
            · have Hne := Lib.hid (show ¬ ps.map Tx.Ch.tr = qs.map Tx.Ch.tr from fun h => by rw [h] at Hz; have := Hz.out.symm.trans Hz'.out; injection this with this; injection this with _ this; injection this with _ this; exact hg this)
              have t3 : (gn == gn') = false := by simpa using hg
              clear hu hv hg
              go_wp2_with fail
              go_big_quiet (fail)
              go_wp2_with fail
              go_ret
              exact ⟨by rw [decide_eq_false Hne.out]; rfl, Hdn.out _⟩
          · have Hne := Lib.hid (show ¬ ps.map Tx.Ch.tr = qs.map Tx.Ch.tr from fun h => by rw [h] at Hz; have := Hz.out.symm.trans Hz'.out; injection this with this; injection this with _ this; injection this with this _; exact hv this)
            have t1 : (u == u') = true := by simpa using hu
            have t2 : (v == v') = false := by simpa using hv
            clear hu hv
            go_wp2_with fail
            go_big_quiet (fail)
            go_wp2_with fail
            go_ret
            exact ⟨by rw [decide_eq_false Hne.out]; rfl, Hdn.out _⟩
        · have Hne := Lib.hid (show ¬ ps.map Tx.Ch.tr = qs.map Tx.Ch.tr from fun h => by rw [h] at Hz; have := Hz.out.symm.trans Hz'.out; injection this with this; injection this with this _; exact hu this)
          have t1 : (u == u') = false := by simpa using hu
          clear hu
          go_wp2_with fail
          go_big_quiet (fail)
          go_wp2_with fail
          go_ret
          exact ⟨by rw [decide_eq_false Hne.out]; rfl, Hdn.out _⟩
      · have hza : ps.map Tx.Ch.tr = qs.map Tx.Ch.tr := by
          have := He.out
          rwa [List.take_of_length_le (by rw [List.length_map, ← Hn.out]; omega), List.take_of_length_le (by rw [List.length_map, ← Hn'.out]; omega)] at this
        have Hza := Lib.hid hza; clear hza
        go_wp2_with fail
        go_ret
        exact ⟨by rw [decide_eq_true Hza.out]; rfl, Hd.out⟩
  · have hz : ((n : Int) != (n' : Int)) = true := by rw [bne_iff_ne]; omega
    have Hne := Lib.hid (show ¬ ps.map Tx.Ch.tr = qs.map Tx.Ch.tr from fun h => hnn (by rw [Hn.out, Hn'.out]; simpa using congrArg List.length h))
    clear hnn
    go_wp2_with fail
    go_ret
    exact ⟨by rw [decide_eq_false Hne.out]; rfl, 0, rfl⟩
end Go.Proofs.YtmeoafodcniliaaGreatDoor.C4
