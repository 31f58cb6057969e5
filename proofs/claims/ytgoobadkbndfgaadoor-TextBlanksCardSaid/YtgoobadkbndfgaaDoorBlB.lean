/- dressed -/
import Derived.Test.YtgoobadkbndfgaaDoorBlA
namespace Go.Proofs.YtgoobadkbndfgaaDoor
open Go.RowKit
set_option linter.unusedSimpArgs false
set_option linter.unusedVariables false
/-- A Dress in memory. -/
def DrIs (w : World) (g : Nat) (e a b c : Int) (h : Bool) (s : List (BitVec 8)) : Prop := w.heap[g]? = some (.cells #[.int .i64 e, .int .i64 a, .int .i64 b, .int .i64 c, .bool h, SS s] 64 (0, 0))
section
variable {w : World} {g : Nat} {e a b c : Int} {h : Bool} {s : List (BitVec 8)}
theorem DrIs.c0 (H : DrIs w g e a b c h s) : w.cell? ⟨g, 0, none⟩ = some (.int .i64 e) := by rw [cell_heap H]; rfl
theorem DrIs.c1 (H : DrIs w g e a b c h s) : w.cell? ⟨g, 1, none⟩ = some (.int .i64 a) := by rw [cell_heap H]; rfl
theorem DrIs.c2 (H : DrIs w g e a b c h s) : w.cell? ⟨g, 2, none⟩ = some (.int .i64 b) := by rw [cell_heap H]; rfl
theorem DrIs.c3 (H : DrIs w g e a b c h s) : w.cell? ⟨g, 3, none⟩ = some (.int .i64 c) := by rw [cell_heap H]; rfl
theorem DrIs.c4 (H : DrIs w g e a b c h s) : w.cell? ⟨g, 4, none⟩ = some (.bool h) := by rw [cell_heap H]; rfl
theorem DrIs.c5 (H : DrIs w g e a b c h s) : w.cell? ⟨g, 5, none⟩ = some (SS s) := by rw [cell_heap H]; rfl
theorem DrIs.below {w' : World} {B : Nat} (H : DrIs w g e a b c h s) (hb : Below B w w') (hg : g < B) : DrIs w' g e a b c h s := by
  unfold DrIs at H ⊢; rw [hb.block g hg]; exact H
end
def wl (ws : List (List (BitVec 8))) : Nat := (ws.map fun v => v.length + 9).sum
theorem wl_snoc (ws : List (List (BitVec 8))) (v : List (BitVec 8)) : wl (ws ++ [v]) = wl ws + v.length + 9 := by unfold wl; simp; omega
theorem wl_nil : wl [] = 0 := rfl
theorem text_snoc (xs : List (List (BitVec 8))) (l : List (BitVec 8)) : Tx.text xs ++ l ++ [10#8] = Tx.text (xs ++ [l]) := by rw [Tx.text_append]; simp [Tx.text]
theorem bls_noNl {l : List (BitVec 8)} (h : Bls l) : Tx.noNl l := by
  intro c hc
  rcases h c hc with h1 | h1 <;> subst h1 <;> decide
theorem bls_bl {l : List (BitVec 8)} (h : Bls l) : ∀ c ∈ l, Tx.isHash c = false ∧ Tx.isBl c = true := by
  intro c hc
  rcases h c hc with h1 | h1 <;> subst h1 <;> decide
theorem bls_words {l : List (BitVec 8)} (h : Bls l) : Tx.words l = [] := by
  have := (Tx.PreB.bls l [] Tx.PreB.nil (bls_bl h)).pre.end
  simpa using this
/-- What dressed answers. -/
def DrSaid (ws : List (List (BitVec 8))) (w : World) (en : Ending) (w' : World) : Prop := ∃ A X n cap xs body, en = .returned (.slice A n cap) ∧ Buf w w' (.slice A n cap) X ∧ n = X.length ∧ X = Tx.text (xs ++ [body]) ∧ (∀ x ∈ xs, Tx.noNl x ∧ Tx.words x = []) ∧ Tx.noNl body ∧ Tx.words body = ws ∧ X.length ≤ 1100 + wl ws
theorem buf_base {w0 w1 w : World} {v : Value} {X : List (BitVec 8)} (h : Buf w1 w v X) (hb : Below w0.heap.size w0 w1) : Buf w0 w v X :=
  ⟨own_base h.1 hb.size, hb.trans (h.2.mono hb.size)⟩
/-- The lines without words ahead. -/
def EmS (xs : List (List (BitVec 8))) (i : Nat) : Prop := (∀ x ∈ xs, Tx.noNl x ∧ Tx.words x = []) ∧ (Tx.text xs).length ≤ 9 * i
theorem EmS.nil : EmS [] 0 := ⟨fun _ h => (by cases h), by simp [Tx.text]⟩
theorem wl_take (ws : List (List (BitVec 8))) (i : Nat) : wl (ws.take i) ≤ wl ws := by
  have : wl ws = wl (ws.take i) + wl (ws.drop i) := by
    unfold wl; rw [← List.sum_append, ← List.map_append, List.take_append_drop]
  omega
/-- The line so far: i words of it. -/
def LnS (ws : List (List (BitVec 8))) (i : Nat) (P : List (BitVec 8)) : Prop := (i = 0 → Tx.PreB P []) ∧ Tx.Pre P (ws.take i) ∧ Tx.noNl P ∧ P.length ≤ 8 + wl (ws.take i)
theorem LnS.start {ws : List (List (BitVec 8))} {l : List (BitVec 8)} (hl : Bls l) (h8 : l.length ≤ 8) : LnS ws 0 l := by
  have h1 : Tx.PreB l [] := by simpa using Tx.PreB.bls l [] Tx.PreB.nil (bls_bl hl)
  exact ⟨fun _ => h1, by simpa using h1.pre, bls_noNl hl, by simp; omega⟩
theorem take_more {ws : List (List (BitVec 8))} {i : Nat} {v : List (BitVec 8)} (hv : ws[i]? = some v) : ws.take (i + 1) = ws.take i ++ [v] := by
  rw [List.take_add_one, hv]; rfl
theorem LnS.first {ws : List (List (BitVec 8))} {P v : List (BitVec 8)} {i : Nat} (h : LnS ws i P) (h0 : i = 0) (hv : ws[i]? = some v) (hc : Tx.clean v ∧ Tx.noNl v) : LnS ws (i + 1) (P ++ v) := by
  subst h0
  obtain ⟨h1, h2, h3, h4⟩ := h
  have h5 := (h1 rfl).word hc.1
  refine ⟨fun h => by omega, ?_, Tx.noNl_append h3 hc.2, ?_⟩
  · rw [take_more hv]; simpa using h5
  · rw [take_more hv, wl_snoc]; simp at h4 ⊢; omega
theorem LnS.more {ws : List (List (BitVec 8))} {P v l : List (BitVec 8)} {i : Nat} (h : LnS ws i P) (hl : Bls l) (h8 : l.length ≤ 8) (hv : ws[i]? = some v) (hc : Tx.clean v ∧ Tx.noNl v) : LnS ws (i + 1) (P ++ [32#8] ++ l ++ v) := by
  obtain ⟨h1, h2, h3, h4⟩ := h
  have h5 := (Tx.PreB.bls l _ (h2.bl (c := 32#8) (by decide) (by decide)) (bls_bl hl)).word hc.1
  refine ⟨fun h => by omega, ?_, Tx.noNl_append (Tx.noNl_append (Tx.noNl_append h3 Tx.noNl_blank) (bls_noNl hl)) hc.2, ?_⟩
  · rw [take_more hv]; exact h5
  · rw [take_more hv, wl_snoc]; simp; omega
theorem LnS.len {ws : List (List (BitVec 8))} {P : List (BitVec 8)} {i : Nat} (h : LnS ws i P) : P.length ≤ 8 + wl ws := by
  have := h.2.2.2; have := wl_take ws i; omega
theorem EmS.more {xs : List (List (BitVec 8))} {i : Nat} (h : EmS xs i) {l : List (BitVec 8)} (hl : Bls l) (h8 : l.length ≤ 8) : EmS (xs ++ [l]) (i + 1) := by
  refine ⟨?_, ?_⟩
  · intro x hx
    rcases List.mem_append.1 hx with h1 | h1
    · exact h.1 x h1
    · simp at h1; subst h1; exact ⟨bls_noNl hl, bls_words hl⟩
  · have := h.2
    rw [← text_snoc]; simp; omega
set_option maxHeartbeats 8000000 in
set_option maxRecDepth 40000 in
theorem dressed_calls (A : Option Addr) (k cap : Nat) (ws : List (List (BitVec 8))) (e a b c : Int) (h : Bool) (s : List (BitVec 8)) (B : Nat) (w : World) (hk : k = ws.length) (hcl : ∀ v ∈ ws, Tx.clean v ∧ Tx.noNl v) (hwl : wl ws ≤ 10000000) (hr : Rd w B A (ws.map SS)) (hB : B ≤ w.heap.size)
    (he : 0 ≤ e ∧ e ≤ 9223372036854775807) (ha : 0 ≤ a ∧ a ≤ 9223372036854775807) (hb : 0 ≤ b ∧ b ≤ 9223372036854775807) (hc : 0 ≤ c ∧ c ≤ 9223372036854775807) (hs : s.length ≤ 1000) (hkm : k ≤ 10000000) :
    Calls Tryd.prog 32 #[.slice A k cap, .agg #[.int .i64 e, .int .i64 a, .int .i64 b, .int .i64 c, .bool h, SS s]] w (DrSaid ws w) := by
  obtain ⟨M, hM, hM8⟩ : ∃ M : Nat, Int.tmod e 4 = (M : Int) ∧ M ≤ 3 := ⟨(e % 4).toNat, by rw [Int.tmod_eq_emod_of_nonneg he.1]; omega, by omega⟩
  have Hk := Lib.hid hk; have Hcl := Lib.hid hcl; have Hr := Lib.hid hr; have Hwl := Lib.hid hwl; have Hs := Lib.hid hs
  have hb1 : Below w.heap.size w (w.alloc (.cells #[.int .i64 e, .int .i64 a, .int .i64 b, .int .i64 c, .bool h, SS s] 64)) := (Below.refl _ _).alloc (Nat.le_refl _) _
  have hd1 : DrIs (w.alloc (.cells #[.int .i64 e, .int .i64 a, .int .i64 b, .int .i64 c, .bool h, SS s] 64)) w.heap.size e a b c h s := heap_alloc_new _ _
  have hz1 : (w.alloc (.cells #[.int .i64 e, .int .i64 a, .int .i64 b, .int .i64 c, .bool h, SS s] 64)).heap.size = w.heap.size + 1 := by simp
  obtain ⟨sb, hsb⟩ : ∃ sb, sb = strOf s := ⟨_, rfl⟩
  have Hb1 := Lib.hid hb1; have Hd1 := Lib.hid hd1
  clear hk hcl hr hwl hs hb1 hd1
  go_enter Tryd.func32, Tryd.ntmps32
  go_wp2_with fail
  generalize hw1 : w.alloc (.cells #[.int .i64 e, .int .i64 a, .int .i64 b, .int .i64 c, .bool h, .string (strOf s)] 64) = w1 at *
  clear hw1
  go_loopw [5, 6] (fun bv iv wr => ∃ (i : Nat) (xs : List (List (BitVec 8))), iv = .int .i64 (i : Int) ∧ i ≤ 3 ∧ EmS xs i ∧ Buf w1 wr bv (Tx.text xs)) (fun _ iv _ => 3 - (intOf iv).toNat)
  case atStart => exact ⟨0, [], rfl, by omega, EmS.nil, Buf.nil (Below.refl _ _)⟩
  case round =>
    obtain ⟨i, xs, rfl, hi, hem, hbu⟩ := hrel
    obtain ⟨A1, cap1, rfl, hcc, hcm⟩ := hbu.form
    obtain ⟨n1, hn1⟩ : ∃ n, n = (Tx.text xs).length := ⟨_, rfl⟩
    rw [← hn1] at hbu hcc ⊢
    have hdr := Hd1.out.below hbu.2 (by omega)
    have c0 := hdr.c0; have c2 := hdr.c2
    have Hem := Lib.hid hem; have Hbu := Lib.hid hbu; have Hn1 := Lib.hid hn1; have Hdr := Lib.hid hdr
    clear hem hbu hn1 hdr
    by_cases hlt : i < M
    · have q1 : (i : Int) < (M : Int) := by omega
      go_wp2_with fail
      refine (blanks_calls b _ hb.1 hb.2).mono ?_
      rintro en w2 ⟨A2, l, cap2, rfl, hl, hl8, hbl⟩
      have Hb2 := Lib.hid (Hbu.out.below hbl.2)
      have Hrd := Lib.hid hbl.rd; have Hnn := Lib.hid hbl.nn
      have Hl := Lib.hid hl
      obtain ⟨m, hm⟩ : ∃ m, m = l.length := ⟨_, rfl⟩
      rw [← hm]
      have Hm := Lib.hid hm
      clear hbl hl hm
      go_upto_region 6 with (at_builtin; refine wpList_buf_rd (w0 := w1) rfl _ _ rfl _ (Tx.text xs) rfl Hb2.out A2 m cap2 _ l rfl Hm.out (by have := Hnn.out; rw [Hm.out]; exact this) Hrd.out (by have := Hem.out.2; omega) ?_; intro A3 n3 cap3 w3 e3 hb3 hk3; have E3 := Lib.hid e3; have Hb3 := Lib.hid hb3; clear e3 hb3 hk3)
      go_wp2_with (at_builtin; refine wpList_buf_byte (w0 := w1) rfl _ _ rfl _ (Tx.text xs ++ l) rfl Hb3.out 10#8 _ rfl rfl (by have := Hem.out.2; simp; omega) ?_; intro A4 n4 cap4 w4 e4 hb4 hk4; have E4 := Lib.hid e4; have Hb4 := Lib.hid hb4; clear e4 hb4 hk4)
      go_roundw
      case rel => exact ⟨i + 1, xs ++ [l], by congr 1, by omega, Hem.out.more Hl.out hl8, by rw [← text_snoc]; exact Hb4.out⟩
      case measure => simp [intOf]; omega
    · have q1 : ¬ (i : Int) < (M : Int) := by omega
      have hi3 := Hem.out.2
      have c1 := Hdr.out.c1
      clear c2
      go_wp2_with fail
      refine (blanks_calls a _ ha.1 ha.2).mono ?_
      rintro en w2 ⟨A2, l, cap2, rfl, hl, hl8, hbl⟩
      have Hb2 := Lib.hid (Hbu.out.below hbl.2)
      have Hrd := Lib.hid hbl.rd; have Hnn := Lib.hid hbl.nn
      have Hl := Lib.hid hl
      obtain ⟨m, hm⟩ : ∃ m, m = l.length := ⟨_, rfl⟩
      rw [← hm]
      have Hm := Lib.hid hm
      clear hbl hl hm
      go_wp2_with (at_builtin; refine wpList_buf_rd (w0 := w1) rfl _ _ rfl _ (Tx.text xs) rfl Hb2.out A2 m cap2 _ l rfl Hm.out (by have := Hnn.out; rw [Hm.out]; exact this) Hrd.out (by have := Hem.out.2; omega) ?_; intro A3 n3 cap3 w3 e3 hb3 hk3; have E3 := Lib.hid e3; have Hb3 := Lib.hid hb3; clear e3 hb3 hk3)
      clear c0 c1 q1
      have hcm3 := Hb3.out
      go_loopw [5, 7] (fun bv iv wr => ∃ (i : Nat) (P : List (BitVec 8)), iv = .int .i64 (i : Int) ∧ i ≤ k ∧ LnS ws i P ∧ Buf w1 wr bv (Tx.text xs ++ P)) (fun _ iv _ => k - (intOf iv).toNat)
      case atStart => exact ⟨0, l, rfl, by omega, LnS.start Hl.out hl8, Hb3.out⟩
      case round =>
        obtain ⟨j, P, rfl, hj, hP, hbp⟩ := hrel
        obtain ⟨A5, cap5, rfl, hcc5, hcm5⟩ := hbp.form
        obtain ⟨n5, hn5⟩ : ∃ n, n = (Tx.text xs ++ P).length := ⟨_, rfl⟩
        rw [← hn5] at hbp hcc5 ⊢
        have hdr := Hd1.out.below hbp.2 (by omega)
        have hlP := hP.len
        have hPx : (Tx.text xs ++ P).length ≤ 10000100 := by have := Hwl.out; rw [List.length_append]; omega
        have HP := Lib.hid hP; have Hbp := Lib.hid hbp; have Hn5 := Lib.hid hn5; have Hdr5 := Lib.hid hdr; have HPx := Lib.hid hPx; have HlP := Lib.hid hlP
        clear hP hn5 hcm3 hPx hlP
        by_cases hjk : j < k
        · have q2 : (j : Int) < (k : Int) := by omega
          obtain ⟨v, hv⟩ : ∃ v, ws[j]? = some v := ⟨ws[j]'(by rw [← Hk.out]; exact hjk), List.getElem?_eq_getElem _⟩
          have Hv := Lib.hid hv
          have Hcv := Lib.hid (Hcl.out v (List.mem_of_getElem? hv))
          have hlv : v.length ≤ 10000000 := by
            have h1 := wl_take ws (j + 1); rw [take_more hv, wl_snoc] at h1; have := Hwl.out; omega
          have hrr := ((Hr.out.below Hb1.out hB).below hbp.2 (by omega))
          obtain ⟨bb, off, rfl, hbb, hcell⟩ := hrr j (SS v) (by rw [List.getElem?_map, hv]; rfl)
          clear hv hrr
          by_cases hj0 : j = 0
          · have q3 : ¬ (0 : Int) < (j : Int) := by omega
            have Hj0 := Lib.hid hj0
            clear hj0
            clear hbp hdr hjk
            go_wp2_with (at_builtin; refine wpList_buf_str (w0 := w1) rfl _ _ rfl _ (Tx.text xs ++ P) rfl Hbp.out v rfl (by have := HPx.out; omega) ?_; intro A6 n6 cap6 w6 e6 hb6 hk6; have E6 := Lib.hid e6; have Hb6 := Lib.hid hb6; clear e6 hb6 hk6)
            go_roundw
            case rel => exact ⟨j + 1, P ++ v, by congr 1, by omega, HP.out.first Hj0.out Hv.out Hcv.out, by rw [← List.append_assoc]; exact Hb6.out⟩
            case measure => simp [intOf]; omega
          · have q3 : (0 : Int) < (j : Int) := by omega
            clear hbp hdr hjk
            go_upto_region 13 with (at_builtin; refine wpList_buf_byte (w0 := w1) rfl _ _ rfl _ (Tx.text xs ++ P) rfl Hbp.out 32#8 _ rfl rfl (by have := HPx.out; omega) ?_; intro A6 n6 cap6 w6 e6 hb6 hk6; have E6 := Lib.hid e6; have Hb6 := Lib.hid hb6; have c2 := (Hd1.out.below hb6.2 (by omega)).c2; clear e6 hb6 hk6)
            clear hcell
            go_wp2_with fail
            refine (blanks_calls b _ hb.1 hb.2).mono ?_
            rintro en w7 ⟨A7, l7, cap7, rfl, hl7, hl78, hbl7⟩
            have Hb7 := Lib.hid (Hb6.out.below hbl7.2)
            have Hrd7 := Lib.hid hbl7.rd; have Hnn7 := Lib.hid hbl7.nn
            have Hl7 := Lib.hid hl7
            obtain ⟨m7, hm7⟩ : ∃ m, m = l7.length := ⟨_, rfl⟩
            rw [← hm7]
            have Hm7 := Lib.hid hm7
            clear hbl7 hl7 hm7 c2
            go_upto_region 14 with (at_builtin; refine wpList_buf_rd (w0 := w1) rfl _ _ rfl _ (Tx.text xs ++ P ++ [32#8]) rfl Hb7.out A7 m7 cap7 _ l7 rfl Hm7.out (by have := Hnn7.out; rw [Hm7.out]; exact this) Hrd7.out (by have := HPx.out; rw [List.length_append]; simp at this ⊢; omega) ?_; intro A8 n8' cap8 w8 e8 hb8 hk8; have E8 := Lib.hid e8; have Hb8 := Lib.hid hb8; clear e8 hb8 hk8)
            obtain ⟨bb2, off2, he2, hbb2, hcell⟩ := ((Hr.out.below Hb1.out hB).below Hb8.out.2 (by omega)) j (SS v) (by rw [List.getElem?_map, Hv.out]; rfl)
            injection he2 with he2; injection he2 with e1 e2; subst e1 e2
            go_wp2_with (at_builtin; refine wpList_buf_str (w0 := w1) rfl _ _ rfl _ (Tx.text xs ++ P ++ [32#8] ++ l7) rfl Hb8.out v rfl (by have := HPx.out; simp at this ⊢; omega) ?_; intro A9 n9 cap9 w9 e9 hb9 hk9; have E9 := Lib.hid e9; have Hb9 := Lib.hid hb9; clear e9 hb9 hk9)
            go_roundw
            case rel => exact ⟨j + 1, P ++ [32#8] ++ l7 ++ v, by congr 1, by omega, HP.out.more Hl7.out hl78 Hv.out Hcv.out, by simpa [List.append_assoc] using Hb9.out⟩
            case measure => simp [intOf]; omega
        · have q2 : ¬ (j : Int) < (k : Int) := by omega
          have HPre := Lib.hid (show Tx.Pre P ws by have := HP.out.2.1; rwa [List.take_of_length_le (by rw [← Hk.out]; omega)] at this)
          have Hno := Lib.hid HP.out.2.2.1
          have c3 := hdr.c3
          clear hbp hdr hjk
          go_wp2_with fail
          refine (blanks_calls c _ hc.1 hc.2).mono ?_
          rintro en w7 ⟨A7, l7, cap7, rfl, hl7, hl78, hbl7⟩
          have Hb7 := Lib.hid (Hbp.out.below hbl7.2)
          have Hrd7 := Lib.hid hbl7.rd; have Hnn7 := Lib.hid hbl7.nn
          have Hl7 := Lib.hid hl7
          obtain ⟨m7, hm7⟩ : ∃ m, m = l7.length := ⟨_, rfl⟩
          rw [← hm7]
          have Hm7 := Lib.hid hm7
          clear hbl7 hl7 hm7 c3 q2
          go_upto_region 16 with (at_builtin; refine wpList_buf_rd (w0 := w1) rfl _ _ rfl _ (Tx.text xs ++ P) rfl Hb7.out A7 m7 cap7 _ l7 rfl Hm7.out (by have := Hnn7.out; rw [Hm7.out]; exact this) Hrd7.out (by have := HPx.out; omega) ?_; intro A8 n8' cap8 w8 e8 hb8 hk8; have E8 := Lib.hid e8; have Hb8 := Lib.hid hb8; clear e8 hb8 hk8)
          obtain ⟨P2, hP2⟩ : ∃ P2, P2 = P ++ l7 := ⟨_, rfl⟩
          have HPre2 := Lib.hid (show Tx.Pre P2 ws by rw [hP2]; exact HPre.out.bls (bls_bl Hl7.out))
          have Hno2 := Lib.hid (show Tx.noNl P2 by rw [hP2]; exact Tx.noNl_append Hno.out (bls_noNl Hl7.out))
          have Hln2 := Lib.hid (show (Tx.text xs ++ P2).length ≤ 43 + wl ws by have := HlP.out; have := Hem.out.2; rw [hP2, List.length_append, List.length_append]; omega)
          have Hb9 := Lib.hid (show Buf w1 w8 (.slice A8 n8' cap8) (Tx.text xs ++ P2) by rw [hP2, ← List.append_assoc]; exact Hb8.out)
          have hdr8 := Hd1.out.below Hb9.out.2 (by omega)
          have c4 := hdr8.c4
          clear hP2 hdr8 Hb8
          have Hwl2 := Lib.hid (show (Tx.text xs ++ P2).length ≤ 10000043 by have := Hln2.out; have := Hwl.out; omega)
          cases h with
          | false =>
            go_wp2_with (at_builtin; refine wpList_buf_byte (w0 := w1) rfl _ _ rfl _ (Tx.text xs ++ P2) rfl Hb9.out 10#8 _ rfl rfl (by have := Hwl2.out; omega) ?_; intro A10 n10 cap10 w10 e10 hb10 hk10; have E10 := Lib.hid e10; have Hb10 := Lib.hid hb10; clear e10 hb10 hk10)
            go_ret
            exact ⟨A10, _, n10, cap10, xs, P2, rfl, buf_base Hb10.out Hb1.out, E10.out, text_snoc xs P2, Hem.out.1, Hno2.out, HPre2.out.end, by have := Hln2.out; rw [List.length_append]; simp only [List.length_cons, List.length_nil]; omega⟩
          | true =>
            go_wp2_with (at_builtin; refine wpList_buf_byte (w0 := w1) rfl _ _ rfl _ (Tx.text xs ++ P2) rfl Hb9.out 35#8 _ rfl rfl (by have := Hwl2.out; omega) ?_; intro A10 n10 cap10 w10 e10 hb10 hk10; have E10 := Lib.hid e10; have Hb10 := Lib.hid hb10; clear e10 hb10 hk10)
            clear c4
            obtain ⟨ns, hns⟩ : ∃ ns, ns = s.length := ⟨_, rfl⟩
            have hsz : sb.size = ns := by rw [hsb, hns, strOf_size]
            have Hidx := Lib.hid (fun (i : Nat) (c : BitVec 8) (hc : s[i]? = some c) (w : World) => by have := idx_str hc w; rw [← hsb] at this; exact this)
            have Hc5 := Lib.hid (fun (w' : World) (hb : Below w1.heap.size w1 w') => by have := (Hd1.out.below hb (by omega)).c5; unfold SS at this; rw [← hsb] at this; exact this)
            have Hns := Lib.hid hns
            have hns1 : ns ≤ 1000 := by rw [hns]; exact Hs.out
            have Hhe := Lib.hid (Tx.noNl_append Hno2.out (show Tx.noNl [35#8] by unfold Tx.noNl; decide))
            clear hns hsb
            go_loopw [5, 8] (fun bv iv wr => ∃ (i : Nat) (S : List (BitVec 8)), iv = .int .i64 (i : Int) ∧ i ≤ ns ∧ S.length = i ∧ Tx.noNl S ∧ Buf w1 wr bv (Tx.text xs ++ P2 ++ [35#8] ++ S)) (fun _ iv _ => ns - (intOf iv).toNat)
            case atStart => exact ⟨0, [], rfl, by omega, rfl, fun _ h => (by cases h), by rw [List.append_nil]; exact Hb10.out⟩
            case round =>
              obtain ⟨q, S, rfl, hq, hSl, hSn, hbq⟩ := hrel
              obtain ⟨A11, cap11, rfl, hcc11, hcm11⟩ := hbq.form
              obtain ⟨n11, hn11⟩ : ∃ n, n = (Tx.text xs ++ P2 ++ [35#8] ++ S).length := ⟨_, rfl⟩
              rw [← hn11] at hbq hcc11 ⊢
              have c5 := Hc5.out wr hbq.2
              have HSx := Lib.hid (show (Tx.text xs ++ P2 ++ [35#8] ++ S).length ≤ 10002000 by have := Hwl2.out; simp at this ⊢; omega)
              have HSn := Lib.hid hSn; have HSl := Lib.hid hSl; have Hbq := Lib.hid hbq
              clear hSl hSn hn11 hbq
              by_cases hqs : q < ns
              · have q2 : (q : Int) < (ns : Int) := by omega
                obtain ⟨ch, hch⟩ : ∃ ch, s[q]? = some ch := ⟨s[q]'(by rw [← Hns.out]; exact hqs), List.getElem?_eq_getElem _⟩
                have hidx := Hidx.out q ch hch
                clear hch hqs
                by_cases h10 : n8 ch = 10
                · have t1 : ((n8 ch : Int) == 10) = true := by simp; omega
                  clear h10
                  go_wp2_with (at_builtin; refine wpList_buf_byte (w0 := w1) rfl _ _ rfl _ (Tx.text xs ++ P2 ++ [35#8] ++ S) rfl Hbq.out 46#8 _ rfl rfl (by have := HSx.out; omega) ?_; intro A12 n12 cap12 w12 e12 hb12 hk12; have E12 := Lib.hid e12; have Hb12 := Lib.hid hb12; clear e12 hb12 hk12)
                  go_roundw
                  case rel => exact ⟨q + 1, S ++ [46#8], by congr 1, by omega, by rw [List.length_append, HSl.out]; rfl, Tx.noNl_append HSn.out (by unfold Tx.noNl; decide), by rw [← List.append_assoc]; exact Hb12.out⟩
                  case measure => simp [intOf]; omega
                · have t1 : ((n8 ch : Int) == 10) = false := by simp; omega
                  have Hn10 := Lib.hid h10
                  clear h10
                  go_wp2_with (at_builtin; refine wpList_buf_byte (w0 := w1) rfl _ _ rfl _ (Tx.text xs ++ P2 ++ [35#8] ++ S) rfl Hbq.out ch _ rfl rfl (by have := HSx.out; omega) ?_; intro A12 n12 cap12 w12 e12 hb12 hk12; have E12 := Lib.hid e12; have Hb12 := Lib.hid hb12; clear e12 hb12 hk12)
                  go_roundw
                  case rel => exact ⟨q + 1, S ++ [ch], by congr 1, by omega, by rw [List.length_append, HSl.out]; rfl, Tx.noNl_append HSn.out (fun d hd => by simp at hd; subst hd; exact Hn10.out), by rw [← List.append_assoc]; exact Hb12.out⟩
                  case measure => simp [intOf]; omega
              · have q2 : ¬ (q : Int) < (ns : Int) := by omega
                clear hqs
                go_wp2_with (at_builtin; refine wpList_buf_byte (w0 := w1) rfl _ _ rfl _ (Tx.text xs ++ P2 ++ [35#8] ++ S) rfl Hbq.out 10#8 _ rfl rfl (by have := HSx.out; omega) ?_; intro A12 n12 cap12 w12 e12 hb12 hk12; have E12 := Lib.hid e12; have Hb12 := Lib.hid hb12; clear e12 hb12 hk12)
                go_ret
                refine ⟨A12, _, n12, cap12, xs, P2 ++ 35#8 :: S, rfl, buf_base Hb12.out Hb1.out, E12.out, ?_, Hem.out.1, ?_, HPre2.out.hash (by decide) S, ?_⟩
                · rw [← text_snoc]; simp
                · have := Tx.noNl_append Hhe.out HSn.out; simpa using this
                · have := Hln2.out; have := HSl.out; simp at this ⊢; simp at *; omega
end Go.Proofs.YtgoobadkbndfgaaDoor
