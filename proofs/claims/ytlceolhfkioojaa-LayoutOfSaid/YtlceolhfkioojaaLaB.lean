/- Layout.Shard: the closure, sort.Search; Cuts -/
import Derived.Test.YtlceolhfkioojaaLaA
import Derived.Test.YtlceolhfkioojaaStepA
namespace Go.Proofs.Ytlceolhfkioojaa
open Go.RowKit
set_option linter.unusedSimpArgs false
set_option linter.unusedVariables false
theorem quiet_N (g : Nat) (A : Option Addr) (n cap base m : Nat) (zs : List Int) (w : World) (h : LayIs w base g A n cap zs) :
    Calls Try.prog 23 #[.pointer (some ⟨g, 0, none⟩)] (w.drewN m) fun e w' => e = .returned (.int .i64 (La.lastI 0 zs)) ∧ ∃ k, w' = w.drewN k :=
  (N_calls g A n cap base zs (w.drewN m) (h.below (below_drewN (Below.refl _ _) m))).mono fun _ _ ⟨he, k, hw⟩ => ⟨he, m + k, by rw [hw, World.drewN_drewN]⟩
set_option maxHeartbeats 1000000 in
theorem less_calls (bv bl g i n cap base : Nat) (A : Option Addr) (zs : List Int) (v : Int) (w : World) (h : LayIs w base g A n cap zs) (hv : w.cell? ⟨bv, 0, none⟩ = some (.int .i64 v)) (hl : w.cell? ⟨bl, 0, none⟩ = some (.pointer (some ⟨g, 0, none⟩))) (hi : i < n) :
    Calls Try.prog 36 (#[.int .i64 (i : Int)] ++ #[.pointer (some ⟨bv, 0, none⟩), .pointer (some ⟨bl, 0, none⟩)]) w fun e w' => e = .returned (.bool (decide (v < zs.getD i 0))) ∧ ∃ k, w' = w.drewN k := by
  have c0 := h.cell
  obtain ⟨p1, p2⟩ := own_cap h.2.1
  unfold maxLen at p2
  obtain ⟨b, off, rfl, _, hc⟩ := rd_get (own_rd h.2.1) (getD_some (zs := zs) (i := i) (by rw [← h.2.2.1]; exact hi))
  have hin : (i : Int) < (n : Int) := by omega
  generalize zs.getD i 0 = z at *
  clear h
  go_enter Try.func36, Try.ntmps36
  go_wp2_with fail
  go_quiet (fail)
  go_wp2_with fail
  go_ret
  exact ⟨rfl, nq, rfl⟩
set_option maxHeartbeats 2000000 in
theorem search_calls (n : Nat) (p : Nat → Bool) (cb : Array Value) (w : World) (hn : n < 4611686018427387904)
    (hf : ∀ (m i : Nat), i < n → Calls Try.prog 36 (#[.int .i64 (i : Int)] ++ cb) (w.drewN m) fun e w' => e = .returned (.bool (p i)) ∧ ∃ k, w' = (w.drewN m).drewN k)
    (hmono : ∀ a b, a ≤ b → b < n → p a = true → p b = true) :
    Calls Try.prog 35 #[.int .i64 (n : Int), .func (.func 36) #[] cb] w fun e w' => ∃ r : Nat, e = .returned (.int .i64 (r : Int)) ∧ r ≤ n ∧ (∀ t, t < r → p t = false) ∧ (∀ t, r ≤ t → t < n → p t = true) ∧ ∃ k, w' = w.drewN k := by
  have HF := Lib.hid hf; have HM := Lib.hid hmono
  clear hf hmono
  go_enter Try.func35, Try.ntmps35
  go_wp2_with fail
  go_loopw [5, 6] (fun s5 s6 wr => ∃ (lo hi : Nat), s5 = .int .i64 (lo : Int) ∧ s6 = .int .i64 (hi : Int) ∧ lo ≤ hi ∧ hi ≤ n ∧ (∃ q, wr = w.drewN q) ∧ (∀ t, t < lo → p t = false) ∧ (∀ t, hi ≤ t → t < n → p t = true)) (fun s5 s6 _ => (intOf s6).toNat - (intOf s5).toNat)
  case atStart => exact ⟨0, n, rfl, rfl, by omega, by omega, ⟨0, rfl⟩, fun t h => by omega, fun t h1 h2 => by omega⟩
  case round =>
    obtain ⟨lo, hi, rfl, rfl, hlh, hhn, ⟨q, rfl⟩, h1, h2⟩ := hrel
    have H1 := Lib.hid h1; have H2 := Lib.hid h2
    clear h1 h2
    by_cases hlt : lo < hi
    · have l1 : (lo : Int) < (hi : Int) := by omega
      have hc := HF.out q ((lo + hi) / 2) (by omega)
      rw [show (((lo + hi) / 2 : Nat) : Int) = ((lo : Int) + (hi : Int)) / 2 by omega] at hc
      cases hp : p ((lo + hi) / 2) <;> rw [hp] at hc
      · have HP := Lib.hid hp; have HC := Lib.hid hc
        clear hp hc
        go_wp2_with fail
        refine HC.out.mono ?_
        rintro e w' ⟨rfl, k, rfl⟩
        go_wp2_with fail
        refine ⟨⟨(lo + hi) / 2 + 1, hi, by congr 1, rfl, by omega, hhn, ⟨q + k, rfl⟩, fun t ht => ?_, H2.out⟩, by simp [intOf]; omega⟩
        cases h : p t with
        | false => rfl
        | true => have := HM.out t ((lo + hi) / 2) (by omega) (by omega) h; rw [HP.out] at this; cases this
      · have HP := Lib.hid hp; have HC := Lib.hid hc
        clear hp hc
        go_wp2_with fail
        refine HC.out.mono ?_
        rintro e w' ⟨rfl, k, rfl⟩
        go_wp2_with fail
        refine ⟨⟨lo, (lo + hi) / 2, rfl, by congr 1, by omega, by omega, ⟨q + k, rfl⟩, H1.out, fun t ht htn => HM.out ((lo + hi) / 2) t ht htn HP.out⟩, by simp [intOf]; omega⟩
    · have l1 : ¬ (lo : Int) < (hi : Int) := by omega
      obtain rfl : hi = lo := by omega
      go_wp2_with fail
      go_ret
      exact ⟨hi, rfl, hhn, H1.out, H2.out, q, rfl⟩
theorem shard_of (zs : List Int) (v : Int) (r : Nat) (h : La.rises 0 zs = true) (h0 : ¬ v < 0) (hv : ¬ La.lastI 0 zs ≤ v) (hr : r ≤ zs.length) (h1 : ∀ t, t < r → decide (v < zs.getD t 0) = false) (h2 : ∀ t, r ≤ t → t < zs.length → decide (v < zs.getD t 0) = true) : La.shardP zs v = (r : Int) := by
  have hlt : r < zs.length := by
    rcases Nat.lt_or_ge r zs.length with h3 | h3
    · exact h3
    · exfalso
      have hne : zs ≠ [] := by rintro rfl; simp [La.lastI] at hv; omega
      have hp : 0 < zs.length := List.length_pos_iff.2 hne
      have := h1 (zs.length - 1) (by omega)
      rw [← La.lastI_get zs 0 hne] at this
      simp at this; omega
  refine (La.shard_iff zs v r h hlt).2 ⟨?_, by simpa using h2 r (Nat.le_refl _) hlt⟩
  cases r with
  | zero => rw [La.lo_zero]; omega
  | succ r => rw [La.lo_succ]; simpa using h1 r (by omega)
set_option maxHeartbeats 2000000 in
theorem Shard_calls (g : Nat) (A : Option Addr) (n cap base : Nat) (zs : List Int) (v : Int) (w : World) (h : LayIs w base g A n cap zs) (hg : La.rises 0 zs = true) (hm : n ≤ 1099511627776) :
    Calls Try.prog 25 #[.pointer (some ⟨g, 0, none⟩), .int .i64 v] w fun e w' => e = .returned (.int .i64 (La.shardP zs v)) ∧ Below w.heap.size w w' := by
  have H := Lib.hid h
  have hgl := lt_heap h.1
  clear h
  go_enter Try.func25, Try.ntmps25
  go_upto_if 12 with fail
  obtain ⟨w2, hw2⟩ : ∃ x, x = (w.alloc (Obj.cells #[.pointer (some ⟨g, 0, none⟩)] 25)).alloc (Obj.cells #[.int .i64 v] 3) := ⟨_, rfl⟩
  rw [← hw2]
  have hb2 : Below w.heap.size w w2 := by rw [hw2]; exact ((Below.refl _ _).alloc (Nat.le_refl _) _).alloc (by simp) _
  have hs2 := hb2.size
  have cl : w2.cell? ⟨w.heap.size, 0, none⟩ = some (.pointer (some ⟨g, 0, none⟩)) := by rw [hw2]; simp [go_sem]
  have cv : w2.cell? ⟨w.heap.size + 1, 0, none⟩ = some (.int .i64 v) := by rw [hw2]; simp [go_sem]
  have H2 := Lib.hid (H.out.below hb2)
  have Hb2 := Lib.hid hb2
  have Hg := Lib.hid hg
  clear hw2 hb2 hg
  by_cases h0 : v < 0
  · have He := Lib.hid ((La.shard_neg zs v).2 (Or.inl h0))
    go_quiet (fail)
    go_wp2_with fail
    go_ret
    exact ⟨by rw [He.out]; rfl, below_drewN Hb2.out nq⟩
  · by_cases hl : La.lastI 0 zs ≤ v
    · have He := Lib.hid ((La.shard_neg zs v).2 (Or.inr hl))
      go_quiet ((go_at_call 23; exact quiet_N g A n cap base _ zs w2 H2.out))
      go_wp2_with fail
      go_ret
      exact ⟨by rw [He.out]; rfl, below_drewN Hb2.out nq⟩
    · have Hsh := Lib.hid (fun r => shard_of zs v r Hg.out h0 hl)
      have Hn := Lib.hid H2.out.2.2.1
      go_quiet ((go_at_call 23; exact quiet_N g A n cap base _ zs w2 H2.out))
      have c0 : (w2.drewN nq).cell? ⟨g, 0, none⟩ = some (.slice A n cap) := H2.out.cell
      clear hl
      go_wp2_with fail
      refine (search_calls n (fun i => decide (v < zs.getD i 0)) #[.pointer (some ⟨w.heap.size + 1, 0, none⟩), .pointer (some ⟨w.heap.size, 0, none⟩)] (w2.drewN nq) (by omega) ?_ ?_).mono ?_
      · intro m i hi
        exact less_calls _ _ g i n cap base A zs v ((w2.drewN nq).drewN m) (H2.out.below (below_drewN (below_drewN (Below.refl _ _) nq) m)) cv cl hi
      · intro a b hab hb ha
        rcases Nat.lt_or_ge a b with h1 | h1
        · have hlt : ∀ d a, a + d < zs.length → zs.getD a 0 ≤ zs.getD (a + d) 0 := by
            intro d
            induction d with
            | zero => intro a _; exact Int.le_refl _
            | succ d ih =>
              intro a had
              have h2 := ih a (by omega)
              have h3 := La.rises_step zs 0 (a + d) Hg.out (by omega)
              rw [← Nat.add_assoc]; omega
          have := hlt (b - a) a (by rw [← Hn.out]; omega)
          rw [show a + (b - a) = b by omega] at this
          simp only [decide_eq_true_eq] at ha ⊢; omega
        · rw [show b = a by omega]; exact ha
      · rintro e w3 ⟨r, rfl, hr, h1, h2, k, rfl⟩
        have He := Lib.hid (Hsh.out r (by rw [← Hn.out]; exact hr) h1 (by rw [← Hn.out]; exact h2))
        clear h1 h2 c0
        go_wp2_with fail
        go_ret
        exact ⟨by rw [He.out]; rfl, by have := below_drewN (below_drewN Hb2.out nq) k; rw [World.drewN_drewN] at this; exact this⟩
set_option maxHeartbeats 1000000 in
theorem Cuts_calls (g : Nat) (A : Option Addr) (n cap base : Nat) (zs : List Int) (w : World) (h : LayIs w base g A n cap zs) (hm : n ≤ 1099511627776) :
    Calls Try.prog 17 #[.pointer (some ⟨g, 0, none⟩)] w fun e w' => ∃ A' cap', e = .returned (.slice A' n cap') ∧ w'.ownsRow w.heap.size 3 1 (.slice A' n cap') n (zs.map VI) ∧ Below w.heap.size w w' := by
  have H := Lib.hid h
  have c0 := h.cell
  have hgl := lt_heap h.1
  obtain ⟨i0, hi, hz0, hz1, hz2⟩ := info_parts infoInt
  have Hi := Lib.hid hi
  clear h hi
  go_enter Try.func17, Try.ntmps17
  have hmk := make0_int n (by omega)
  have Hown := Lib.hid (World.ownsRow_made (base := w.heap.size) (e := 3) (size := 1) w (zerosI n) n (Nat.le_refl _) (by unfold maxLen; omega) (by rw [zerosI_size]; omega))
  have Hn := Lib.hid H.out.2.2.1
  have Hnil := Lib.hid (own_nil H.out.2.1)
  have Hr := Lib.hid (own_rd H.out.2.1)
  go_wp2_with fail
  have hst : (w.drew.cell? ⟨g, 0, none⟩ = some (.slice A n cap) ∧ True) ∧ Below w.heap.size w w.drew := ⟨⟨c0, trivial⟩, below_drewN (Below.refl _ _) 1⟩
  go_region_held3 (fun w' => (w'.cell? ⟨g, 0, none⟩ = some (.slice A n cap) ∧ True) ∧ Below w.heap.size w w')
    ((rename (_ ∧ _) ∧ Below _ _ _ => hS; first
      | exact hS2
      | exact hS
      | exact ⟨⟨c0, trivial⟩, below_drewN (Below.refl _ _) 1⟩
      | exact ⟨⟨(hS.2.alloc hS.2.size _).cell (show g < w.heap.size from hgl) |>.trans c0, trivial⟩, hS.2.alloc hS.2.size _⟩))
    ((rename (_ ∧ _) ∧ Below _ _ _ => hS; refine step_append_rd rfl _ _ 22 rfl w.heap.size 3 i0 _ 8 descInts Hi.out hz0 hz1 hz2 rfl _ 0 [] rfl Hown.out w.heap.size A n cap (zs.map VI) rfl (by rw [List.length_map]; exact Hn.out) Hnil.out (Hr.out.below hS.2 (Nat.le_refl _)) (vi_one zs) (by unfold maxLen; omega) (by omega) (by simp) ?_; intro v2 w2 hown2 hg2; have hb2 := hS.2.grown hg2.out (by simp) (fun k hk => by have hk : some w.heap.size = some k := hk; injection hk with hk; omega); have hS2 : (w2.cell? ⟨g, 0, none⟩ = some (.slice A n cap) ∧ True) ∧ Below w.heap.size w w2 := ⟨⟨(hb2.cell (show g < w.heap.size from hgl)).trans c0, trivial⟩, hb2⟩))
  rename (_ ∧ _) ∧ Below _ _ _ => hF
  have HF := Lib.hid hF.2
  have Hown2 := Lib.hid hown2.out
  rw [List.nil_append, Nat.zero_add] at Hown2
  obtain ⟨A2, cap2, rfl, _, _, _⟩ := own_form Hown2.out
  clear hF hS hb2 hS2 hg2 hown2 hst
  go_wp2_with fail
  go_ret
  exact ⟨A2, cap2, rfl, Hown2.out, HF.out⟩
end Go.Proofs.Ytlceolhfkioojaa
