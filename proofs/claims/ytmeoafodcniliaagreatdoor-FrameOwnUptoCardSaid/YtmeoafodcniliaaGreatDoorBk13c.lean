/- pithref.Frames: a copy of frames -/
import Derived.Test.YtmeoafodcniliaaGreatDoorBk13
namespace Go.Proofs.YtmeoafodcniliaaGreatDoor
open Go.RowKit
set_option linter.unusedSimpArgs false
set_option linter.unusedVariables false
namespace Bk
def zerosFr (n : Nat) : Array Value := madeCells (Value.agg #[.int .i64 0, .slice none 0 0]).cells (n * 2)
theorem zerosFr_size (n : Nat) : (zerosFr n).size = n * 2 := by unfold zerosFr; rw [size_madeCells]
theorem make0_Fr (c : Nat) (hc : c * 32 ≤ 140737488355328) (w : World) : (Instr.makeSlice 71 (.int .i64 0) (.int .i64 (c : Int))).run Tryz.prog w =
    .ok (.slice (some ⟨w.heap.size, 0, none⟩) 0 c) (w.alloc (.cells (zerosFr c) 74)) := by
  obtain ⟨i0, hi, hz0, hz1, hz2⟩ := info_parts info13
  have := run_make (P := Tryz.prog) w 71 74 i0 _ desc13 hi hz0 .i64 .i64 0 c (by omega) (by omega) (by rw [hz2]; omega) (by omega)
  rw [this, hz1]; rfl
theorem own_up {w : World} {t s n base : Nat} {v : Value} {xs : List Value} (h : w.ownsRow 0 t s v n xs) (hb : ∀ g, v.ownBlock = some g → base ≤ g) : w.ownsRow base t s v n xs := by
  obtain ⟨h1, h2⟩ := h
  refine ⟨h1, ?_⟩
  rcases h2 with h2 | ⟨g, cap, cur, h2, h3, h4⟩
  · exact .inl h2
  · exact .inr ⟨g, cap, cur, h2, hb g (by rw [h2]; rfl), h4⟩
/-- The same frames, payloads copied. -/
structure FrCopy (fs gs : List Fr) : Prop where
  len : gs.length ≤ fs.length
  same : ∀ (i : Nat) (g : Fr), gs[i]? = some g → ∃ f, fs[i]? = some f ∧ g.kind = f.kind ∧ g.pv = f.pv ∧ g.bs = f.bs
theorem FrCopy.snoc {fs gs : List Fr} (h : FrCopy fs gs) {f : Fr} (hf : fs[gs.length]? = some f) (q : Value) : FrCopy fs (gs ++ [⟨f.kind, f.pv, q, f.bs⟩]) := by
  have hl := (List.getElem?_eq_some_iff.1 hf).1
  refine ⟨by simp; omega, fun i g hg => ?_⟩
  rcases Nat.lt_trichotomy i gs.length with h1 | h1 | h1
  · rw [List.getElem?_append_left h1] at hg
    exact h.same i g hg
  · subst h1
    rw [List.getElem?_append_right (Nat.le_refl _), Nat.sub_self] at hg
    injection hg with hg
    subst hg
    exact ⟨f, hf, rfl, rfl, rfl⟩
  · rw [List.getElem?_eq_none (by simp; omega)] at hg; cases hg
set_option maxHeartbeats 4000000 in
set_option maxRecDepth 20000 in
theorem copyk13 (A : Option Addr) (n cap B : Nat) (fs : List Fr) (w : World) (hb : fs.length = n) (hm : n ≤ 1099511627776) (hcc : n ≤ cap) (hcm : cap ≤ maxLen) (hsm : ∀ f ∈ fs, f.bs.length ≤ 1099511627776) (hr : FrRd w B A (fs.map fr2)) (hB : B ≤ w.heap.size) :
    Calls Tryz.prog 81 #[.slice A n cap] w fun e w' => ∃ (A' : Option Addr) (c' : Nat) (gs : List Fr), e = .returned (.slice A' n c') ∧ gs.length = n ∧ FrCopy fs gs ∧ w'.ownsRow w.heap.size 74 2 (.slice A' n c') n (gs.flatMap fun g => [Value.int .i64 g.kind, g.qv]) ∧
      (∀ g ∈ gs, w'.ownsRow w.heap.size 5 1 g.qv g.bs.length (g.bs.map V8)) ∧ Below w.heap.size w w' := by
  obtain ⟨i0, hi, hz0, hz1, hz2⟩ := info_parts info13
  have hmk := make0_Fr n (by omega)
  have Hown := Lib.hid (World.ownsRow_made (base := w.heap.size) (e := 74) (size := 2) w (zerosFr n) n (Nat.le_refl _) (by unfold maxLen; omega) (zerosFr_size n))
  have Hr := Lib.hid hr; have Hsm := Lib.hid hsm
  have Hn := Lib.hid hb.symm
  clear hb hr hsm
  have Hi := Lib.hid hi
  clear hi
  unfold maxLen at hcm
  go_enter Tryz.func81, Tryz.ntmps81
  go_wp2_with fail
  go_loopw [3, 4] (fun lv iv wr => ∃ (a : Nat) (gs : List Fr), iv = .int .i64 (a : Int) ∧ a ≤ n ∧ gs.length = a ∧ FrCopy fs gs ∧ wr.ownsRow w.heap.size 74 2 lv a (gs.flatMap fun g => [Value.int .i64 g.kind, g.qv]) ∧ (∀ g ∈ gs, wr.ownsRow w.heap.size 5 1 g.qv g.bs.length (g.bs.map V8)) ∧ Below w.heap.size w wr) (fun _ iv _ => n - (intOf iv).toNat)
  case atStart => exact ⟨0, [], rfl, by omega, rfl, ⟨Nat.zero_le _, fun i g h => by simp at h⟩, Hown.out, (by simp), (Below.refl _ _).alloc (Nat.le_refl _) _⟩
  case round =>
    obtain ⟨a, gs, rfl, ha, hgl, hcp, hown, hqs, hbl⟩ := hrel
    obtain ⟨A1, cap1, rfl, _, _⟩ := own_hdr hown
    have Hgl := Lib.hid hgl; have Hcp := Lib.hid hcp; have Hown1 := Lib.hid hown; have Hqs := Lib.hid hqs; have Hbl := Lib.hid hbl
    have hsz := hbl.size
    clear hgl hcp hown hqs hbl
    by_cases hlt : a < n
    · have q1 : (a : Int) < (n : Int) := by omega
      obtain ⟨f, hf⟩ : ∃ f, fs[a]? = some f := ⟨fs[a]'(by rw [← Hn.out]; omega), List.getElem?_eq_getElem _⟩
      obtain ⟨b, off, A', cap', rfl, hbB, hc0, hc1, hnl, hpl, hpm, hrd⟩ := (Hr.out.below Hbl.out hB) a f.kind f.bs (by rw [List.getElem?_map, hf]; rfl)
      have hfl := Hsm.out f (List.mem_of_getElem? hf)
      have HF := Lib.hid hf; have Hnl := Lib.hid hnl; have Hrd := Lib.hid hrd
      obtain ⟨m, hm2⟩ : ∃ m, m = f.bs.length := ⟨_, rfl⟩
      rw [← hm2] at hc1 hfl
      have Hm := Lib.hid hm2
      obtain ⟨kd, hkd⟩ : ∃ k, k = f.kind := ⟨_, rfl⟩
      rw [← hkd] at hc0
      have Hkd := Lib.hid hkd
      clear hf hnl hrd hm2 hkd hpl hpm
      go_wp2_with fail
      refine (frame_calls kd A' m cap' B f.bs wr Hm.out (by omega) (fun h => by have := Hnl.out h; rw [← Hm.out] at this; exact this) (Nat.le_trans hB hsz) Hrd.out).mono ?_
      rintro e w2 ⟨hb2, A2, c2, rfl, hown2⟩
      have Hq2 := Lib.hid hown2
      have Hb2 := Lib.hid (Hbl.out.trans (hb2.mono hsz))
      have Hown2 := Lib.hid (own_below_any Hown1.out hb2)
      have Hqs2 := Lib.hid (fun g hg => own_below_any (Hqs.out g hg) hb2)
      clear hown2 hb2 hc0 hc1
      have HalA := Lib.hid (show Below w2.heap.size w2 ((w2.alloc (.cells #[.int .i64 kd, .slice A2 m c2] 74)).alloc (.cells #[.int .i64 kd, .slice A2 m c2] 74)) from ((Below.refl _ _).alloc (Nat.le_refl _) _).alloc (by simp) _)
      have HownA := Lib.hid (own_zero (own_below_any Hown2.out HalA.out))
      have HrdA := Lib.hid (show Rd ((w2.alloc (.cells #[.int .i64 kd, .slice A2 m c2] 74)).alloc (.cells #[.int .i64 kd, .slice A2 m c2] 74)) ((w2.alloc (.cells #[.int .i64 kd, .slice A2 m c2] 74)).heap.size + 1) (some ⟨w2.heap.size + 1, 0, none⟩) [.int .i64 kd, .slice A2 m c2] from by
        have he : (w2.alloc (.cells #[.int .i64 kd, .slice A2 m c2] 74)).heap.size = w2.heap.size + 1 := by simp
        rw [← he]; exact rd_fresh _ _ _ _ _ _ rfl rfl)
      have hs2 := Lib.hid Hb2.out.size
      have hnew : (w2.alloc (.cells #[.int .i64 kd, .slice A2 m c2] 74)).heap[w2.heap.size]? = some (.cells #[.int .i64 kd, .slice A2 m c2] 74 (0, 0)) := heap_alloc_new _ _
      have hq0 : (w2.alloc (.cells #[.int .i64 kd, .slice A2 m c2] 74)).cell? ⟨w2.heap.size, 0, none⟩ = some (.int .i64 kd) := by rw [cell_heap hnew]; rfl
      have hq1 : (w2.alloc (.cells #[.int .i64 kd, .slice A2 m c2] 74)).cell? ⟨w2.heap.size, 1, none⟩ = some (.slice A2 m c2) := by rw [cell_heap hnew]; rfl
      clear hnew
      go_wp2_with (at_builtin; refine wpList_append_two rfl _ _ 71 rfl 74 i0 _ 2 32 desc13 Hi.out hz0 hz1 hz2 rfl (by decide) (.slice A1 a cap1) a (gs.flatMap fun g => [Value.int .i64 g.kind, g.qv]) rfl HownA.out (some ⟨w2.heap.size + 1, 0, none⟩) 1 1 _ [.int .i64 kd, .slice A2 m c2] rfl (by decide) (by rfl) HrdA.out (by intro u hu; simp at hu; rcases hu with rfl | rfl <;> rfl) (by unfold maxLen; omega) (by omega) ?_)
      intro v5 w5 hown5 hold5 hk5 hblk5
      obtain ⟨A5, c5, rfl, _, _⟩ := own_hdr hown5
      have hb5 : Below w.heap.size w w5 := (Hb2.out.trans (HalA.out.mono hs2.out)).trans (hk5.below (Nat.le_trans hs2.out HalA.out.size) (fun k hk => (own_blk Hown1.out hk).1))
      have HR := Lib.hid (show w5.ownsRow w.heap.size 74 2 (.slice A5 (a + 1) c5) (a + 1) ((gs ++ [(⟨f.kind, f.pv, .slice A2 m c2, f.bs⟩ : Fr)]).flatMap fun g => [Value.int .i64 g.kind, g.qv]) from by
        have h := own_up (base := w.heap.size) hown5 (fun g hg => (hblk5 g hg).elim (fun h => (own_blk Hown1.out h).1) (fun h => by have := HalA.out.size; have := hs2.out; omega))
        rw [List.flatMap_append]
        rw [Hkd.out] at h
        exact h)
      have HQ := Lib.hid (show ∀ g ∈ gs ++ [(⟨f.kind, f.pv, .slice A2 m c2, f.bs⟩ : Fr)], w5.ownsRow w.heap.size 5 1 g.qv g.bs.length (g.bs.map V8) from fun g hg => by
        rcases List.mem_append.1 hg with h | h
        · have h1 := own_below_any (Hqs2.out g h) HalA.out
          exact own_kept h1 hk5 (fun x hx he => own_apart h1 HownA.out (by decide) hx he)
        · simp at h
          subst h
          have h1 := own_below_any Hq2.out HalA.out
          have h2 := own_kept h1 hk5 (fun x hx he => own_apart h1 HownA.out (by decide) hx he)
          have h3 := own_base h2 hsz
          show w5.ownsRow w.heap.size 5 1 (.slice A2 m c2) f.bs.length (f.bs.map V8)
          rw [← Hm.out]
          exact h3)
      have HB5 := Lib.hid hb5
      clear hown5 hold5 hk5 hblk5 hb5 hq0 hq1
      go_wp2_with fail
      exact ⟨⟨a + 1, _, by congr 1, by omega, by simp [Hgl.out], Hcp.out.snoc (by rw [Hgl.out]; exact HF.out) (.slice A2 m c2), HR.out, HQ.out, HB5.out⟩, by simp [intOf]; omega⟩
    · obtain rfl : a = n := by omega
      go_wp2_with fail
      go_ret
      exact ⟨A1, cap1, gs, rfl, Hgl.out, Hcp.out, Hown1.out, Hqs.out, Hbl.out⟩
end Bk
end Go.Proofs.YtmeoafodcniliaaGreatDoor
