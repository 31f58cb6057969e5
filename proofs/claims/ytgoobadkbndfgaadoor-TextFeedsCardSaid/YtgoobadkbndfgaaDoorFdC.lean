/- (*feeder).feed of an ended one; (*feeder).end -/
import Derived.Test.YtgoobadkbndfgaaDoorFdB
namespace Go.Proofs.YtgoobadkbndfgaaDoor
open Go.RowKit
set_option linter.unusedSimpArgs false
set_option linter.unusedVariables false
set_option maxHeartbeats 4000000 in
set_option maxRecDepth 40000 in
theorem feed_done (gf gs : Nat) (ks : List Nat) (c : List (BitVec 8)) (A : Option Addr) (n cap B : Nat) (cs : List (BitVec 8)) (w : World) (hl : FeDone w gf gs ks)
    (hn : n = cs.length) (hm : n ≤ 65536) (hcap : n ≤ cap) (hcm : cap ≤ maxLen) (hnil : A = none → n = 0 ∧ cap = 0) (hB : B ≤ w.heap.size) (hr : Rd w B A (cs.map V8)) :
    Calls Tryd.prog 22 #[.pointer (some ⟨gf, 0, none⟩), .slice A n cap] w (FeedSaid gf gs ks c n w) := by
  obtain ⟨fv, told, rv, L, F, N, b, h1, h2, hkse⟩ := hl
  have Hn := Lib.hid hn; have Hnil := Lib.hid hnil; have Hr := Lib.hid hr; have H1 := Lib.hid h1; have H2 := Lib.hid h2; have Hkse := Lib.hid hkse
  have hgf := h1.lt; have hgs := h2.lt
  clear hn hnil hr h1 h2 hkse
  go_enter Tryd.func22, Tryd.ntmps22
  go_wp2_with fail
  refine (room_calls A n cap B cs w Hn.out (by omega) Hnil.out hB Hr.out).mono ?_
  rintro en w1 ⟨g1, cap1, rfl, hc1, hcm1, hg1, hown1, hb1⟩
  have hz1 := hb1.size
  unfold maxLen at hcm1
  have F1 := Lib.hid (H1.out.below hb1 hgf); have E1 := Lib.hid (H2.out.below hb1 hgs)
  have Hown1 := Lib.hid hown1; have Hb1 := Lib.hid hb1
  have hg1l : g1 < w1.heap.size := (own_blk hown1 (g := g1) rfl).2
  clear hown1 hb1
  have Hfe := Lib.hid (Feed_ended gs rv L F N b (.slice (some ⟨g1, 0, none⟩) n (n + 3)) w1.drew E1.out)
  have f0 := F1.out.c0
  have i1 : (n : Int) ≤ (n : Int) + 3 := by omega
  have i2 : (n : Int) + 3 ≤ (cap1 : Int) := by omega
  have i3 : (n : Int) ≤ (cap1 : Int) := by omega
  go_wp2_with fail
  have hst : (w1.cell? ⟨gf, 0, none⟩ = some (.pointer (some ⟨gs, 0, none⟩)) ∧ True) ∧ True := ⟨⟨f0, trivial⟩, trivial⟩
  go_region_held3 (fun w' => (w'.cell? ⟨gf, 0, none⟩ = some (.pointer (some ⟨gs, 0, none⟩)) ∧ True) ∧ True)
    ((rename (_ ∧ _) ∧ _ => hS; first | exact hS | exact ⟨⟨hS.1.1, trivial⟩, trivial⟩))
    ((go_at_call 39; rename (_ ∧ _) ∧ _ => hS; refine (Hfe.out).mono ?_; rintro e w2 ⟨rfl, rfl⟩))
  (try simp only [Exit.then])
  have F2 := Lib.hid (show FeIs w1.drew gf (.pointer (some ⟨gs, 0, none⟩)) fv told true from F1.out); have E2 := Lib.hid (show EdIs w1.drew gs rv L F N b true from E1.out); have Hown2 := Lib.hid (show w1.drew.ownsRow w.heap.size 5 1 (.slice (some ⟨g1, 0, none⟩) (n + 3) cap1) (n + 3) ((cs ++ rm3).map V8) from Hown1.out); have Hb2 := Lib.hid (show Below w.heap.size w w1.drew from Hb1.out.drew)
  have hz2 : w1.drew.heap.size = w1.heap.size := rfl
  clear f0 hst Hfe F1 E1 Hown1 Hb1
  (rename (_ ∧ _) ∧ _ => hX; clear hX)
  generalize w1.drew = w2 at *
  go_wp2_with fail
  refine (room_calls A n cap B cs w2 Hn.out (by omega) Hnil.out (by omega) (Hr.out.below Hb2.out hB)).mono ?_
  rintro en w3 ⟨g3, cap3, rfl, hc3, hcm3, hg3, hown3, hb3⟩
  have hz3 := hb3.size
  have Hsb := Lib.hid (sameB_eq (some ⟨g1, 0, none⟩) (some ⟨g3, 0, none⟩) (n + 3) cap1 cap3 _ _ (cs ++ rm3) w3 (by rw [List.length_append, ← Hn.out]; rfl) (by intro h; cases h) (by intro h; cases h) ((own_rd Hown2.out).below hb3 (Nat.le_refl _)) (own_rd hown3))
  have F3 := Lib.hid (F2.out.below hb3 F2.out.lt); have E3 := Lib.hid (E2.out.below hb3 E2.out.lt); have Hown3 := Lib.hid (own_below Hown2.out hb3 (Nat.le_refl _)); have Hb3 := Lib.hid (Hb2.out.trans (hb3.mono (by omega)))
  clear hown3 hb3 F2 E2 Hown2 Hb2
  go_wp2_with fail
  refine (Hsb.out).mono ?_
  rintro en w9 ⟨rfl, rfl⟩
  clear Hsb
  go_wp2_with fail
  go_loopw [10] (fun iv wr => ∃ (a : Nat) (X : List (BitVec 8)), iv = .int .i64 (a : Int) ∧ a ≤ n + 3 ∧ wr.ownsRow w.heap.size 5 1 (.slice (some ⟨g1, 0, none⟩) (n + 3) cap1) (n + 3) (X.map V8) ∧ Keep [g1] w3 wr) (fun iv _ => n + 3 - (intOf iv).toNat)
  case atStart => exact ⟨0, _, rfl, by omega, Hown3.out, Keep.refl _ _⟩
  case round =>
    obtain ⟨a, X, rfl, ha, hown, hk⟩ := hrel
    have Hown := Lib.hid hown; have Hk := Lib.hid hk
    have hkz := hk.size
    clear hown hk
    by_cases hlt : a < n + 3
    · have q1 : (a : Int) < (n : Int) + 3 := by omega
      obtain ⟨v, hv⟩ := Hown.out.1 |> fun h => (show ∃ v, (X.map V8)[a]? = some v from ⟨(X.map V8)[a]'(by rw [h]; omega), List.getElem?_eq_getElem _⟩)
      obtain ⟨b, off, he, hb, hcell⟩ := own_rd Hown.out a v hv
      injection he with he; injection he with e1 e2; subst e1 e2
      rw [Nat.zero_add] at hcell
      have hfz : wr.frozen? ⟨g1, a, none⟩ = false := Hown.out.frozenAt a
      clear hv
      go_wp2_with fail
      go_roundw
      case rel =>
        refine ⟨a + 1, X.set a 57#8, by congr 1, by omega, ?_, Hk.out.trans (Keep.set wr a _)⟩
        have := (Hown.out.stored a (V8 57#8)).1
        rw [List.map_set]
        exact this
      case measure => simp [intOf]; omega
    · obtain rfl : a = n + 3 := by omega
      have F4 := Lib.hid (F3.out.keep Hk.out (by simp; omega)); have E4 := Lib.hid (E3.out.keep Hk.out (by simp; omega))
      have Hb4 := Lib.hid (Hb3.out.trans (Hk.out.below (by omega) (by simp; omega)))
      have c3 := F4.out.c3
      clear Hown Hk F3 E3 Hb3
      go_wp2_with (go_at_call 19; refine (num_calls _ _).mono ?_; rintro en w99 ⟨rfl, rfl⟩)
      go_ret
      exact ⟨rfl, ks, c, Or.inr ⟨_, _, _, _, _, _, _, F4.out, E4.out, Hkse.out⟩, by omega, keep_of_lt Hb4.out, fun k hk => Or.inl hk⟩
theorem feed_calls (gf gs : Nat) (ks : List Nat) (c : List (BitVec 8)) (A : Option Addr) (n cap B : Nat) (cs : List (BitVec 8)) (w : World) (hl : Fe w gf gs ks c) (hc : c.length ≤ 200000)
    (hn : n = cs.length) (hm : n ≤ 65536) (hcap : n ≤ cap) (hcm : cap ≤ maxLen) (hnil : A = none → n = 0 ∧ cap = 0) (hB : B ≤ w.heap.size) (hks : ∀ w', Keep ks w w' → Rd w' B A (cs.map V8)) (hr : Rd w B A (cs.map V8)) :
    Calls Tryd.prog 22 #[.pointer (some ⟨gf, 0, none⟩), .slice A n cap] w (FeedSaid gf gs ks c n w) := by
  rcases hl with h | h
  · exact feed_live gf gs ks c A n cap B cs w h hc hn hm hcap hcm hnil hB hks hr
  · exact feed_done gf gs ks c A n cap B cs w h hn hm hcap hcm hnil hB hr
set_option maxHeartbeats 4000000 in
set_option maxRecDepth 40000 in
theorem end_done (gf gs : Nat) (ks : List Nat) (c : List (BitVec 8)) (w : World) (hl : FeDone w gf gs ks) :
    Calls Tryd.prog 23 #[.pointer (some ⟨gf, 0, none⟩)] w (FeedSaid gf gs ks c 0 w) := by
  obtain ⟨fv, told, rv, L, F, N, b, h1, h2, hkse⟩ := hl
  have H1 := Lib.hid h1; have H2 := Lib.hid h2; have Hkse := Lib.hid hkse
  have f0 := h1.c0; have f3 := h1.c3
  have Hen := Lib.hid (End_ended gs rv L F N b w h2)
  clear h1 h2 hkse
  go_enter Tryd.func23, Tryd.ntmps23
  go_wp2_with fail
  refine (Hen.out).mono ?_
  rintro en w1 ⟨rfl, rfl⟩
  go_wp2_with (go_at_call 19; refine (num_calls _ _).mono ?_; rintro en w99 ⟨rfl, rfl⟩)
  go_ret
  exact ⟨rfl, ks, c, Or.inr ⟨_, _, _, _, _, _, _, H1.out, H2.out, Hkse.out⟩, by omega, Keep.refl _ _, fun k hk => Or.inl hk⟩
set_option maxHeartbeats 8000000 in
set_option maxRecDepth 40000 in
theorem end_live (gf gs : Nat) (ks : List Nat) (c : List (BitVec 8)) (w : World) (hl : FeLive w gf gs ks c) (hc : c.length ≤ 200000) :
    Calls Tryd.prog 23 #[.pointer (some ⟨gf, 0, none⟩)] w (FeedSaid gf gs ks c 0 w) := by
  have hmem := hl.mem
  obtain ⟨Af, capf, Ar, capr, h1, h2, h3, h4, h5, h6, hkse⟩ := hl
  have hgf := h1.lt; have hgs := h2.lt
  have Hmem := Lib.hid hmem; have H1 := Lib.hid h1; have H2 := Lib.hid h2; have H3 := Lib.hid h3; have H4 := Lib.hid h4; have H5 := Lib.hid h5; have H6 := Lib.hid h6; have Hkse := Lib.hid hkse
  have Hne := Lib.hid (show gf ≠ gs by
    rintro rfl
    unfold FeIs at h1; unfold EdIs at h2
    rw [h1] at h2; injection h2 with h2; injection h2 with _ h2; exact absurd h2 (by decide))
  have f0 := h1.c0
  have hwt := Tx.whole_tail_length c
  have hkc := Tx.run_k 0 false (Tx.whole c)
  have hpc := Tx.run_e_pairs 0 false (Tx.whole c)
  have hcr := own_cap h4
  have Hen := Lib.hid (End_calls gs Ar (Tx.tail c).length capr w.heap.size (Tx.tail c) (Tx.runW c).k 0 (Tx.runW c).n (Tx.runW c).begun w h2 (own_ne_ed h4 h2 (by decide)) (own_nil h4) hcr.1 rfl (by omega) (Nat.le_refl _) (own_rd h4) (by omega) (by show ((Tx.run 0 false (Tx.whole c)).k : Int) ≤ _; omega))
  unfold EndSaid at Hen
  obtain ⟨t1, t2, t3, t4⟩ := Tx.all_told_on (b := c) h6 rfl
  have hall := Tx.all_on (t := c) h6
  have hlp := Tx.lasts_pairs (Tx.runW c).n (Tx.runW c).begun (Tx.tail c)
  have hP1 : (Tx.runW c).pairs.length ≤ 200000 := by show (Tx.run 0 false (Tx.whole c)).pairs.length ≤ _; omega
  have hbg : (Tx.all c).begun = (Tx.run (Tx.runW c).n (Tx.runW c).begun (Tx.lasts (Tx.tail c))).begun := by rw [hall]
  have hpp : (Tx.all c).pairs = (Tx.runW c).pairs ++ (Tx.run (Tx.runW c).n (Tx.runW c).begun (Tx.lasts (Tx.tail c))).pairs := by rw [hall]
  have hn0 := Tx.run_n0 (Tx.lines c)
  have hYl : (Tx.run (Tx.runW c).n (Tx.runW c).begun (Tx.lasts (Tx.tail c))).pairs.length ≤ 2 := by
    have h7 := Tx.run_e_pairs (Tx.runW c).n (Tx.runW c).begun (Tx.lasts (Tx.tail c))
    have h8 := Tx.run_k (Tx.runW c).n (Tx.runW c).begun (Tx.lasts (Tx.tail c))
    have h9 : (Tx.lasts (Tx.tail c)).length ≤ 1 := by unfold Tx.lasts; split <;> simp
    omega
  rw [hlp] at Hen
  have Hrd := Lib.hid (fun w1 (hk : Keep [gs] w w1) => Read_calls Af c.length capf w1.heap.size c w1 rfl (by omega) (own_cap h3).1 (by have := (own_cap h3).2; unfold maxLen at this; omega) (own_nil h3) (Nat.le_refl _) (own_rd (own_keep h3 hk (fun g hg hm => by
    have := own_ne_ed h3 h2 (by decide)
    cases Af with
    | none => cases hg
    | some a => injection hg with hg; simp at hm; exact this a rfl (by rw [hg, hm])))))
  unfold ReadSaid at Hrd
  have hNB : (Tx.all c).n = if (Tx.all c).begun then (Tx.all c).n else 0 := by
    cases hb : (Tx.all c).begun with
    | true => rfl
    | false => exact hn0 hb
  rw [t2, t3, t4, hbg] at Hrd
  rw [t3, hbg] at hNB
  generalize Tx.run (Tx.runW c).n (Tx.runW c).begun (Tx.lasts (Tx.tail c)) = Y at *
  obtain ⟨PT, hPT⟩ : ∃ P, P = (Tx.all c).pairs := ⟨_, rfl⟩
  rw [← hPT] at Hrd hpp
  have Hpp := Lib.hid hpp; have HNB := Lib.hid hNB
  clear h1 h2 h3 h4 h5 h6 hkse hmem hwt hkc hpc hcr t1 t2 t3 t4 hall hlp hbg hpp hn0 hPT hNB
  go_enter Tryd.func23, Tryd.ntmps23
  go_wp2_with fail
  refine (Hen.out).mono ?_
  rintro en w1 ⟨Al, capl, rv, rfl, hl1, hk1, hed1⟩
  have hz1 := hk1.size
  have hF1 := H1.out.keep hk1 (by have := Hne.out; simp; exact this)
  have hlb : ∀ g, (Value.slice Al Y.pairs.length capl).ownBlock = some g → w.heap.size ≤ g := fun g hg => (own_blk hl1 hg).1
  have Hrd1 := Lib.hid (Hrd.out w1 hk1)
  have HF1 := Lib.hid hF1; have Hl1 := Lib.hid hl1; have Hk1 := Lib.hid hk1; have Hed1 := Lib.hid hed1
  have c1 := hF1.c1; have c3 := hF1.c3
  clear hl1 hk1 hed1 hF1 f0 hlb Hen Hrd
  obtain ⟨F, hF⟩ : ∃ F, F = Y.fEnd ((Tx.runW c).k : Int) 0 := ⟨_, rfl⟩
  obtain ⟨E, hE⟩ : ∃ E, E = Y.eEnd := ⟨_, rfl⟩
  rw [← hF, ← hE] at Hrd1
  rw [← hF] at Hed1
  rw [← hE]
  clear hF hE
  go_wp2_with fail
  refine (Hrd1.out).mono ?_
  rintro en w2 ⟨Ap, capp, rfl, hown2, hb2⟩
  have hz2 := hb2.size
  have hb3 : Below w2.heap.size w2 (w2.alloc (.cells #[.int .i64 Y.n, .bool Y.begun, .slice Ap PT.length capp, .int .i64 F, .int .i64 E] 88)) := (Below.refl _ _).alloc (Nat.le_refl _) _
  have hfi3 : FiIs (w2.alloc (.cells #[.int .i64 Y.n, .bool Y.begun, .slice Ap PT.length capp, .int .i64 F, .int .i64 E] 88)) w2.heap.size Y.n Y.begun (.slice Ap PT.length capp) F E := heap_alloc_new _ _
  have Hb13 := Lib.hid (hb2.trans (hb3.mono hz2))
  have hF3 := HF1.out.below Hb13.out HF1.out.lt
  have hE3 := Hed1.out.below Hb13.out Hed1.out.lt
  have hop3 := own_below_s hown2 hb3 (Nat.le_refl _)
  have hol3 := own_below_s Hl1.out Hb13.out (Nat.le_refl _)
  have hz3 : (w2.alloc (.cells #[.int .i64 Y.n, .bool Y.begun, .slice Ap PT.length capp, .int .i64 F, .int .i64 E] 88)).heap.size = w2.heap.size + 1 := by simp
  have hPl : PT.length - (Tx.runW c).pairs.length = Y.pairs.length := by rw [Hpp.out, List.length_append]; omega
  have hPl2 : PT.length = (Tx.runW c).pairs.length + Y.pairs.length := by rw [Hpp.out, List.length_append]
  have hPd : PT.drop (Tx.runW c).pairs.length = Y.pairs := by rw [Hpp.out, List.drop_left]
  have Htl2 := tells_calls gf (.pointer (some ⟨gs, 0, none⟩)) (.slice Af c.length capf) (Tx.runW c).pairs.length Al capl E Y.n Y.begun Ap capp F E PT (w2.heap.size + 1) (w2.heap.size + 1) (w2.alloc (.cells #[.int .i64 Y.n, .bool Y.begun, .slice Ap PT.length capp, .int .i64 F, .int .i64 E] 88)).drew hF3 (by omega) (by omega) (by rw [hPl]; exact (own_cap_s hol3).1) (own_cap_s hol3).2 (own_cap_s hop3).1 (own_cap_s hop3).2 (fun h => own_nil_s hop3 h) (by rw [hPd]; have := own_rd_s hol3; rw [hz3] at this; exact this) (by have := own_rd_s hop3; rw [hz3] at this; exact this)
  rw [hPl] at Htl2
  have HTl2 := Lib.hid Htl2
  have HF3 := Lib.hid hF3; have HE3 := Lib.hid hE3; have Hfi3 := Lib.hid hfi3; have HPl2 := Lib.hid hPl2
  have p0 := hfi3.c0; have p1 := hfi3.c1; have p2 := hfi3.c2; have p3 := hfi3.c3; have p4 := hfi3.c4
  clear hown2 hb2 hb3 hfi3 hF3 hE3 hop3 hol3 hPl hPl2 hPd Htl2 c1 c3 Hrd1
  have Hgdf := Lib.hid (show w2.heap.size ≠ gf by omega)
  go_upto_region 5 with fail
  have hst : (((w2.alloc (.cells #[.int .i64 Y.n, .bool Y.begun, .slice Ap PT.length capp, .int .i64 F, .int .i64 E] 88)).cell? ⟨w2.heap.size, 0, none⟩ = some (.int .i64 Y.n) ∧ (w2.alloc (.cells #[.int .i64 Y.n, .bool Y.begun, .slice Ap PT.length capp, .int .i64 F, .int .i64 E] 88)).cell? ⟨w2.heap.size, 1, none⟩ = some (.bool Y.begun)) ∧ ((w2.alloc (.cells #[.int .i64 Y.n, .bool Y.begun, .slice Ap PT.length capp, .int .i64 F, .int .i64 E] 88)).cell? ⟨w2.heap.size, 2, none⟩ = some (.slice Ap PT.length capp) ∧ (w2.alloc (.cells #[.int .i64 Y.n, .bool Y.begun, .slice Ap PT.length capp, .int .i64 F, .int .i64 E] 88)).cell? ⟨w2.heap.size, 3, none⟩ = some (.int .i64 F))) ∧ (w2.alloc (.cells #[.int .i64 Y.n, .bool Y.begun, .slice Ap PT.length capp, .int .i64 F, .int .i64 E] 88)).cell? ⟨w2.heap.size, 4, none⟩ = some (.int .i64 E) := ⟨⟨⟨p0, p1⟩, p2, p3⟩, p4⟩
  generalize hw3 : w2.alloc (.cells #[.int .i64 Y.n, .bool Y.begun, .slice Ap PT.length capp, .int .i64 F, .int .i64 E] 88) = w3 at *
  clear hw3 p0 p1 p2 p3 p4
  go_region_held3 (fun w' => ((w'.cell? ⟨w2.heap.size, 0, none⟩ = some (.int .i64 Y.n) ∧ w'.cell? ⟨w2.heap.size, 1, none⟩ = some (.bool Y.begun)) ∧ (w'.cell? ⟨w2.heap.size, 2, none⟩ = some (.slice Ap PT.length capp) ∧ w'.cell? ⟨w2.heap.size, 3, none⟩ = some (.int .i64 F))) ∧ w'.cell? ⟨w2.heap.size, 4, none⟩ = some (.int .i64 E))
    ((rename ((_ ∧ _) ∧ _ ∧ _) ∧ _ => hS; first | (with_reducible exact hS) | exact hS))
    ((first
      | (go_at_call 19; refine (num_calls _ _).mono ?_; rintro e w' ⟨rfl, rfl⟩)
      | (go_at_call 47; refine (HTl2.out).mono ?_; rintro e w8 ⟨rfl, hf8, hk8⟩; have Hf8 := Lib.hid hf8; have Hk8 := Lib.hid hk8; have hfi8 : FiIs w8 w2.heap.size Y.n Y.begun (.slice Ap PT.length capp) F E := FiIs.keep (show FiIs w3.drew w2.heap.size Y.n Y.begun (.slice Ap PT.length capp) F E from Hfi3.out) hk8 (by simp; exact Hgdf.out); have Hfi8 := Lib.hid hfi8; have hS9 : ((w8.cell? ⟨w2.heap.size, 0, none⟩ = some (.int .i64 Y.n) ∧ w8.cell? ⟨w2.heap.size, 1, none⟩ = some (.bool Y.begun)) ∧ (w8.cell? ⟨w2.heap.size, 2, none⟩ = some (.slice Ap PT.length capp) ∧ w8.cell? ⟨w2.heap.size, 3, none⟩ = some (.int .i64 F))) ∧ w8.cell? ⟨w2.heap.size, 4, none⟩ = some (.int .i64 E) := ⟨⟨⟨hfi8.c0, hfi8.c1⟩, hfi8.c2, hfi8.c3⟩, hfi8.c4⟩; clear hf8 hk8 hfi8)))
  (try simp only [Exit.then])
  have hk8 : Keep [gf] w3 w8 := ⟨Hk8.out.os, Hk8.out.tape, Hk8.out.output, Hk8.out.size, Hk8.out.block⟩
  have hF8 : FeIs w8 gf (.pointer (some ⟨gs, 0, none⟩)) (.slice Af c.length capf) ((PT.length : Nat) : Int) (E != 0) := Hf8.out
  have z3 := hF8.f 3; have y3 := hF8.c3
  have Hk8' := Lib.hid hk8; have HF8 := Lib.hid hF8
  clear hst hS9 hk8 hF8
  (rename ((_ ∧ _) ∧ _ ∧ _) ∧ _ => hX; clear hX)
  go_upto_region 7 with fail
  have hk9 : Keep [gf] w8 (w8.setCell ⟨gf, 3, none⟩ (.bool true)) := Keep.set w8 3 _
  have hF9 := HF8.out.s3 true
  have hfi9 := Hfi8.out.keep hk9 (by simp; exact Hgdf.out)
  have hE9 := (HE3.out.keep (Hk8'.out.trans hk9) (by have := Hne.out; simp; exact fun h => this h.symm))
  generalize w8.setCell ⟨gf, 3, none⟩ (.bool true) = w9 at *
  have Hst := Lib.hid (stands_calls gf gs _ _ _ rv _ F Y.n Y.begun true Y.n Y.begun (.slice Ap PT.length capp) E w9 hF9 hE9 HNB.out)
  have q0 := hfi9.c0; have q1 := hfi9.c1; have q2 := hfi9.c2; have q3 := hfi9.c3; have q4 := hfi9.c4
  have Hk9 := Lib.hid hk9; have HF9 := Lib.hid hF9; have HE9 := Lib.hid hE9
  clear hk9 hF9 hfi9 hE9 z3 y3
  go_wp2_with fail
  refine (Hst.out).mono ?_
  rintro en w10 ⟨rfl, hb10⟩
  have Hb10 := Lib.hid hb10
  clear hb10 Hst
  go_wp2_with fail
  go_ret
  have hkf : gf ∈ ks := by rw [Hkse.out]; simp
  have hks2 : gs ∈ ks := by rw [Hkse.out]; simp
  have hb13 := Hb13.out
  refine ⟨by simp, [gf, gs], c, Or.inr ⟨_, _, _, _, _, _, _, HF9.out.below Hb10.out HF9.out.lt, HE9.out.below Hb10.out HE9.out.lt, rfl⟩, by omega, ?_, ?_⟩
  · refine ((((Hk1.out.more fun k _ hk => by simp at hk; rw [hk]; exact hks2).trans (keep_of_lt hb13)).trans (Hk8'.out.more fun k _ hk => by simp at hk; rw [hk]; exact hkf)).trans (Hk9.out.more fun k _ hk => by simp at hk; rw [hk]; exact hkf)).trans (keep_of_lt Hb10.out)
  · intro k hk
    simp at hk
    rcases hk with rfl | rfl
    · exact Or.inl hkf
    · exact Or.inl hks2
theorem end_calls (gf gs : Nat) (ks : List Nat) (c : List (BitVec 8)) (w : World) (hl : Fe w gf gs ks c) (hc : c.length ≤ 200000) :
    Calls Tryd.prog 23 #[.pointer (some ⟨gf, 0, none⟩)] w (FeedSaid gf gs ks c 0 w) := by
  rcases hl with h | h
  · exact end_live gf gs ks c w h hc
  · exact end_done gf gs ks c w h
end Go.Proofs.YtgoobadkbndfgaaDoor
