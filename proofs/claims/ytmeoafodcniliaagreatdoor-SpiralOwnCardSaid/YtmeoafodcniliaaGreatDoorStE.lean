/- slices.symMergeCmpFunc over ints, with a closure that only reads -/
import Derived.Test.YtmeoafodcniliaaGreatDoorStD
import Derived.Deep.DeepCutAuto
namespace Go.Proofs.YtmeoafodcniliaaGreatDoor.C24
open Go.RowKit
set_option linter.unusedSimpArgs false
set_option linter.unusedVariables false
theorem St.bef_sub {A B A' B' : List Int} (h : St.Bef A B) (hA : ∀ z ∈ A', z ∈ A) (hB : ∀ z ∈ B', z ∈ B) : St.Bef A' B' := fun x hx y hy => h x (hA x hx) y (hB y hy)
theorem getD_some {A : List Int} {k : Nat} (h : k < A.length) : A[k]? = some (A.getD k 0) := by simp [List.getD, List.getElem?_eq_getElem h]
/-- Two sorted lists, parted crosswise: all that the rest of a merge asks. -/
structure SymT (L : Int → Int → Prop) (X P A B A1 A2 B1 B2 S : List Int) (a m b i e mid n d : Nat) : Prop where
  pa : a = P.length
  hi : i = a + A1.length
  hmid : mid = i + B1.length
  hm : m = i + A2.length
  he : e = m + B1.length
  hb : b = e + B2.length
  len : P.length + A1.length + A2.length + B1.length + B2.length + S.length = n
  sA1 : A1.Pairwise L
  sA2 : A2.Pairwise L
  sB1 : B1.Pairwise L
  sB2 : B2.Pairwise L
  be1 : St.Bef A1 B1
  be2 : St.Bef A2 B2
  x1 : ∀ z ∈ A1 ++ B1, z ∈ X
  x2 : ∀ z ∈ A2 ++ B2, z ∈ X
  d1 : A1.length + B1.length ≤ d
  d2 : A2.length + B2.length ≤ d
  split : ∀ R1 R2 : List Int, R1.Perm (A1 ++ B1) → R2.Perm (A2 ++ B2) → R1.Pairwise L → R2.Pairwise L → (R1 ++ R2).Perm (A ++ B) ∧ (R1 ++ R2).Pairwise L
set_option maxHeartbeats 16000000 in
set_option maxRecDepth 20000 in
theorem sym_calls (c : Int → Int → Int) (L : Int → Int → Prop) (hL : St.Ord c L) (X : List Int) (g n cap base : Nat) (cb : Array Value) (hn2 : n ≤ 1099511627776) : ∀ (d : Nat) (P A B S : List Int) (a m b : Nat) (w : World), A.length + B.length ≤ d → a = P.length → m = P.length + A.length → b = P.length + A.length + B.length →
    1 ≤ A.length → 1 ≤ B.length → A.Pairwise L → B.Pairwise L → St.Bef A B → (P ++ (A ++ (B ++ S))).length = n → (∀ z ∈ A ++ B, z ∈ X) → Reads g X c cb w →
    w.ownsRow base 3 1 (.slice (some ⟨g, 0, none⟩) n cap) n ((P ++ (A ++ (B ++ S))).map VI) →
    Calls Tryz.prog 245 #[.slice (some ⟨g, 0, none⟩) n cap, .int .i64 (a : Int), .int .i64 (m : Int), .int .i64 (b : Int), .func (.func 98) #[] cb] w (MergeSaid g n cap base L P A B S w) := by
  intro d
  induction d with
  | zero => intro P A B S a m b w h _ _ _ h1; omega
  | succ d ih =>
  intro P A B S a m b w hd ha hm hb hA1 hB1 hA hB hbef hn hX hc hown
  by_cases hA2 : A.length = 1
  · obtain ⟨x, rfl⟩ := List.length_eq_one_iff.1 hA2
    exact symL_calls c L hL X g n cap base a m b P B S x cb w ha (by simpa using hm) (by simpa using hb) hB (fun y hy => hbef x (by simp) y hy) (by simpa using hn) hn2 hX hc (by simpa using hown)
  by_cases hB2 : B.length = 1
  · obtain ⟨y, rfl⟩ := List.length_eq_one_iff.1 hB2
    exact symR_calls c L hL X g n cap base a m b P A S y cb w ha hm (by simpa using hb) (by omega) hA (fun x hx => hbef x hx y (by simp)) (by simpa using hn) hn2 hX hc (by simpa using hown)
  have hla : 2 ≤ A.length := by omega
  have hlb : 2 ≤ B.length := by omega
  have hk : b ≤ n := by simp at hn; omega
  have e1 : (((A.length : Nat) : Int) == 1) = false := by rw [beq_eq_false_iff_ne]; omega
  have e0 : (m : Int) - (a : Int) = ((A.length : Nat) : Int) := by omega
  have e3 : (((B.length : Nat) : Int) == 1) = false := by rw [beq_eq_false_iff_ne]; omega
  have e2 : (b : Int) - (m : Int) = ((B.length : Nat) : Int) := by omega
  obtain ⟨mid, hmid⟩ : ∃ mid, mid = (a + b) / 2 := ⟨_, rfl⟩
  obtain ⟨nn, hnn⟩ : ∃ nn, nn = mid + m := ⟨_, rfl⟩
  obtain ⟨p, hp⟩ : ∃ p, p = nn - 1 := ⟨_, rfl⟩
  obtain ⟨lo, r0, hlr⟩ : ∃ lo r0, (mid < m ∧ lo = nn - b ∧ r0 = mid) ∨ (¬ mid < m ∧ lo = a ∧ r0 = m) := by
    by_cases h : mid < m
    · exact ⟨_, _, Or.inl ⟨h, rfl, rfl⟩⟩
    · exact ⟨_, _, Or.inr ⟨h, rfl, rfl⟩⟩
  have HF1 := Lib.hid (show a < mid ∧ mid < b ∧ a ≤ lo ∧ lo ≤ r0 ∧ r0 ≤ m ∧ r0 ≤ mid ∧ nn ≤ b + lo from by rcases hlr with h | h <;> omega)
  have HF2 := Lib.hid (show lo = a ∨ lo + b = nn from by rcases hlr with h | h <;> omega)
  have HF3 := Lib.hid (show r0 = m ∨ r0 + m = nn from by rcases hlr with h | h <;> omega)
  have em : ((a : Int) + (b : Int)) / 2 = (mid : Int) := by omega
  have en : (mid : Int) + (m : Int) = (nn : Int) := by omega
  have ep : (nn : Int) - 1 = (p : Int) := by omega
  have bb : (b : Int) ≤ 1099511627776 := by omega
  have ba : (a : Int) ≤ 1099511627776 := by omega
  have bm : (m : Int) ≤ 1099511627776 := by omega
  have bn : (nn : Int) ≤ 2199023255552 := by omega
  have bmid : (mid : Int) ≤ 1099511627776 := by omega
  have Hlr := Lib.hid hlr; have Hmid := Lib.hid hmid; have Hnn := Lib.hid hnn; have Hp := Lib.hid hp; have Hla := Lib.hid hla; have Hlb := Lib.hid hlb
  have Ha := Lib.hid ha; have Hm := Lib.hid hm; have Hb := Lib.hid hb; have HA := Lib.hid hA; have HB := Lib.hid hB; have Hbef := Lib.hid hbef; have Hn := Lib.hid hn; have HX := Lib.hid hX; have HC := Lib.hid hc; have Hown := Lib.hid hown
  have IH := Lib.hid ih; have Hd := Lib.hid hd; have Hbn := Lib.hid hk
  clear ha hm hb hA hB hA1 hB1 hA2 hB2 hbef hn hX hc hown hlr hmid hnn hp hla hlb ih hd hk
  go_enter Tryz.func245, Tryz.ntmps245
  go_upto_if 140 with fail
  go_cut [20, 21] (fun s r w' => s = .int .i64 (lo : Int) ∧ r = .int .i64 (r0 : Int) ∧ w = w')
  case first =>
    as_aux_lemma =>
    rcases Hlr.out with ⟨h1, h2, h3⟩ | ⟨h1, h2, h3⟩
    · have l1 : (mid : Int) < (m : Int) := by omega
      have el : (nn : Int) - (b : Int) = (lo : Int) := by have := Hmid.out; have := Hnn.out; omega
      subst h3
      clear h1 h2
      go_wp2_with fail
      go_meet
      exact ⟨rfl, rfl, rfl⟩
    · have l1 : ¬ (mid : Int) < (m : Int) := by omega
      subst h2
      subst h3
      clear h1
      go_wp2_with fail
      go_meet
      exact ⟨rfl, rfl, rfl⟩
  case rest =>
    as_aux_lemma =>
    obtain ⟨rfl, rfl, rfl⟩ := hcut
    clear Hlr
    go_wp2_with fail
    go_loopw [20, 21] (fun sv rv wr => ∃ (s r : Nat), sv = .int .i64 (s : Int) ∧ rv = .int .i64 (r : Int) ∧ lo ≤ s ∧ s ≤ r ∧ r ≤ r0 ∧ (s = lo ∨ L (A.getD (s - 1 - a) 0) (B.getD (nn - s - m) 0)) ∧ (r = r0 ∨ L (B.getD (p - r - m) 0) (A.getD (r - a) 0)) ∧ ∃ k, wr = w.drewN k) (fun sv rv _ => (intOf rv).toNat - (intOf sv).toNat)
    case atStart => exact ⟨lo, r0, rfl, rfl, Nat.le_refl _, HF1.out.2.2.2.1, Nat.le_refl _, Or.inl rfl, Or.inl rfl, 0, rfl⟩
    case round =>
      obtain ⟨i, j, rfl, rfl, hi, hij, hj, h1, h2, hdr⟩ := hrel
      have Hi := Lib.hid hi; have Hij := Lib.hid hij; have Hj := Lib.hid hj; have H1 := Lib.hid h1; have H2 := Lib.hid h2; have Hdr := Lib.hid hdr
      clear hi hij hj h1 h2 hdr
      have hjn : (j : Int) ≤ 1099511627776 := by have := Hj.out; have := HF1.out; omega
      by_cases hlt : i < j
      · as_aux_lemma =>
        have l1 : (i : Int) < (j : Int) := by omega
        obtain ⟨h, hh⟩ : ∃ h, h = (i + j) / 2 := ⟨_, rfl⟩
        have hh1 : i ≤ h ∧ h < j := by omega
        have eh : ((i : Int) + (j : Int)) / 2 = (h : Int) := by omega
        obtain ⟨v, hv⟩ : ∃ v, v = p - h := ⟨_, rfl⟩
        have hF1 := HF1.out
        have hvb : m ≤ v ∧ v < b ∧ h + 1 ≤ nn := by have := Hp.out; have := Hnn.out; have := Hi.out; have := Hj.out; omega
        have ev : (p : Int) - (h : Int) = (v : Int) := by have := Hp.out; omega
        have hvB : v - m < B.length := by have := Hb.out; have := Hm.out; omega
        have hhA : h - a < A.length := by have := Hm.out; have := Ha.out; have := Hj.out; have := Hi.out; omega
        obtain ⟨y, hy⟩ : ∃ y, B.getD (v - m) 0 = y := ⟨_, rfl⟩
        obtain ⟨x, hx⟩ : ∃ x, A.getD (h - a) 0 = x := ⟨_, rfl⟩
        have hyB := getD_some hvB
        rw [hy] at hyB
        have hxA := getD_some hhA
        rw [hx] at hxA
        have g1 : (P ++ (A ++ (B ++ S)))[v]? = some y := by
          have := Hm.out
          rw [← List.append_assoc, List.getElem?_append_right (by rw [List.length_append]; omega), List.length_append, show v - (P.length + A.length) = v - m by omega, List.getElem?_append_left hvB]; exact hyB
        have g2 : (P ++ (A ++ (B ++ S)))[h]? = some x := by
          have := Ha.out; have := Hi.out
          rw [List.getElem?_append_right (by omega), show h - P.length = h - a by omega, List.getElem?_append_left hhA]; exact hxA
        have Ho := Lib.hid (show wr.ownsRow base 3 1 (.slice (some ⟨g, 0, none⟩) n cap) n ((P ++ (A ++ (B ++ S))).map VI) by obtain ⟨k, rfl⟩ := Hdr.out; exact own_below Hown.out (below_drewN (Below.refl _ _) _) (Nat.le_refl _))
        obtain ⟨c1, f1⟩ := own_get Ho.out Hn.out g1
        obtain ⟨c2, f2⟩ := own_get Ho.out Hn.out g2
        have hcc := HC.out wr y x (by obtain ⟨k, rfl⟩ := Hdr.out; exact Upd.drewN g _ _) (HX.out y (by simp [List.mem_of_getElem? hyB])) (HX.out x (by simp [List.mem_of_getElem? hxA]))
        have Hdn := Lib.hid (show ∀ q, ∃ k, wr.drewN q = w.drewN k from fun q => by obtain ⟨d, rfl⟩ := Hdr.out; exact ⟨_, World.drewN_drewN _ _ _⟩)
        have hxy := Hbef.out x (List.mem_of_getElem? hxA) y (List.mem_of_getElem? hyB)
        have Hyes := Lib.hid (hL.yes x y hxy)
        have Hno := Lib.hid (hL.no x y hxy)
        have hb1 : (h : Int) < (n : Int) := by have := Hj.out; have := Hbn.out; omega
        have hb2 : (v : Int) < (n : Int) := by have := Hbn.out; omega
        have Hv := Lib.hid hv; have Hy := Lib.hid hy; have Hx := Lib.hid hx; have Hh := Lib.hid hh1; have Hlt := Lib.hid hlt; have Hvb := Lib.hid hvb
        clear hv hy hx hh1 hyB hxA g1 g2 hvB hhA hh hxy hlt hF1 hvb
        go_wp2_with fail
        by_cases hcv : c y x < 0
        · go_big_quiet (first | (go_at_call 98; refine Calls.quiet_of (hcc _)))
          go_wp2_with fail
          exact ⟨⟨i, h, rfl, rfl, Hi.out, Hh.out.1, by have := Hh.out; have := Hj.out; omega, H1.out, Or.inr (by rw [show p - h - m = v - m by have := Hv.out; omega, Hy.out, Hx.out]; exact Hyes.out (by omega)), Hdn.out _⟩, by simp [intOf]; have := Hh.out; omega⟩
        · go_big_quiet (first | (go_at_call 98; refine Calls.quiet_of (hcc _)))
          go_wp2_with fail
          exact ⟨⟨h + 1, j, by congr 1, rfl, by have := Hi.out; have := Hh.out; omega, by have := Hh.out; omega, Hj.out, Or.inr (by rw [show h + 1 - 1 - a = h - a by omega, show nn - (h + 1) - m = v - m by have := Hv.out; have := Hp.out; omega, Hy.out, Hx.out]; exact Hno.out (by omega)), H2.out, Hdn.out _⟩, by simp [intOf]; have := Hh.out; omega⟩
      · as_aux_lemma =>
        obtain rfl : i = j := by have := Hij.out; omega
        clear hlt
        have hF1 := HF1.out
        have hi := Hi.out
        have hj := Hj.out
        obtain ⟨sa, hsa⟩ : ∃ sa, i = a + sa := ⟨i - a, by omega⟩
        obtain ⟨qb, hqb⟩ : ∃ qb, mid = i + qb := ⟨mid - i, by omega⟩
        obtain ⟨e, he⟩ : ∃ e, e = nn - i := ⟨_, rfl⟩
        have hsA : sa ≤ A.length := by have := Ha.out; have := Hm.out; omega
        have hqB : qb ≤ B.length := by have := Hb.out; have := Hm.out; have := Hnn.out; omega
        have hem : e = m + qb := by have := Hnn.out; omega
        have HS := Lib.hid (fun (R1 R2 : List Int) => St.sym_split hL (A := A) (B := B) (R1 := R1) (R2 := R2) (s := sa) (q := qb) HA.out HB.out hsA hqB (by
          rcases H1.out with e1 | e1
          · rcases HF2.out with e2 | e2
            · exact Or.inl (by omega)
            · exact Or.inr (Or.inl (by have := Hnn.out; have := Hb.out; have := Hm.out; omega))
          · rw [show i - 1 - a = sa - 1 by omega, show nn - i - m = qb by have := Hnn.out; omega] at e1; exact Or.inr (Or.inr e1)) (by
          rcases H2.out with e1 | e1
          · rcases HF3.out with e2 | e2
            · exact Or.inl (by have := Ha.out; have := Hm.out; omega)
            · exact Or.inr (Or.inl (by have := Hnn.out; omega))
          · rw [show p - i - m = qb - 1 by have := Hnn.out; have := Hp.out; omega, show i - a = sa by omega] at e1; exact Or.inr (Or.inr e1)))
        have Ho := Lib.hid (show wr.ownsRow base 3 1 (.slice (some ⟨g, 0, none⟩) n cap) n ((P ++ (A ++ (B ++ S))).map VI) by obtain ⟨k, rfl⟩ := Hdr.out; exact own_below Hown.out (below_drewN (Below.refl _ _) _) (Nat.le_refl _))
        have Hu := Lib.hid (show Upd g w wr by obtain ⟨k, rfl⟩ := Hdr.out; exact Upd.drewN g _ _)
        have ee : (nn : Int) - (i : Int) = (e : Int) := by omega
        have be : (e : Int) ≤ 1099511627776 := by have := Hbn.out; have := Hb.out; have := Hm.out; omega
        have HlA1 : (A.take sa).length = sa := by simp; omega
        have HlB1 : (B.take qb).length = qb := by simp; omega
        have HlA2 : (A.drop sa).length + sa = A.length := by simp; omega
        have HlB2 : (B.drop qb).length + qb = B.length := by simp; omega
        have T : SymT L X P A B (A.take sa) (A.drop sa) (B.take qb) (B.drop qb) S a m b i e mid n d := by
          have ha := Ha.out; have hm := Hm.out; have hb := Hb.out; have hn := Hn.out; have hd := Hd.out
          simp at hn
          refine ⟨ha, by omega, by omega, by omega, by omega, by omega, by omega, HA.out.sublist (List.take_sublist sa A), HA.out.sublist (List.drop_sublist sa A), HB.out.sublist (List.take_sublist qb B), HB.out.sublist (List.drop_sublist qb B),
            St.bef_sub Hbef.out (fun z hz => List.mem_of_mem_take hz) (fun z hz => List.mem_of_mem_take hz), St.bef_sub Hbef.out (fun z hz => List.mem_of_mem_drop hz) (fun z hz => List.mem_of_mem_drop hz), fun z hz => ?_, fun z hz => ?_, by omega, by omega, fun R1 R2 h1 h2 h3 h4 => HS.out R1 R2 h1 h2 h3 h4⟩
          · rcases List.mem_append.1 hz with h | h
            · exact HX.out z (List.mem_append_left _ (List.mem_of_mem_take h))
            · exact HX.out z (List.mem_append_right _ (List.mem_of_mem_take h))
          · rcases List.mem_append.1 hz with h | h
            · exact HX.out z (List.mem_append_left _ (List.mem_of_mem_drop h))
            · exact HX.out z (List.mem_append_right _ (List.mem_of_mem_drop h))
        have HeA := List.take_append_drop sa A
        have HeB := List.take_append_drop qb B
        generalize A.take sa = A1 at *
        generalize A.drop sa = A2 at *
        generalize B.take qb = B1 at *
        generalize B.drop qb = B2 at *
        have Ho := Lib.hid (show wr.ownsRow base 3 1 (.slice (some ⟨g, 0, none⟩) n cap) n ((P ++ (A1 ++ (A2 ++ (B1 ++ (B2 ++ S))))).map VI) by have := Ho.out; rw [← HeA, ← HeB] at this; simpa using this)
        have HCw := Lib.hid (HC.out.upd Hu.out)
        clear hF1 hi hj hsa hqb he hsA hqB hem H1 H2 Hdr hjn Hown HlA1 HlB1 HlA2 HlB2 HeA HeB HS HF1 HF2 HF3 Hmid Hnn Hp Hla Hlb Ha Hm Hb HA HB Hbef Hn HX Hd Hbn Hi Hij Hj e0 e1 e2 e3 em en ep bb ba bm bn bmid
        generalize wr = w1 at *
        go_upto_region 39 with fail
        have we : wrap64 (e : Int) = (e : Int) := IntWalk.wrap64_in _ (by omega)
        (try rw [we])
        clear ee be we
        go_cut [185] (fun v w' => v = .bool (decide ((i : Int) < (m : Int) ∧ (m : Int) < (e : Int))) ∧ w1 = w')
        case first =>
          as_aux_lemma =>
          clear Ho Hu HC IH T
          by_cases t1 : (i : Int) < (m : Int)
          · by_cases t2 : (m : Int) < (e : Int)
            · go_wp2_with fail
              go_meet
              exact ⟨by rw [decide_eq_true (show (i : Int) < (m : Int) ∧ (m : Int) < (e : Int) from ⟨by omega, by omega⟩)], rfl⟩
            · go_wp2_with fail
              go_meet
              exact ⟨by rw [decide_eq_false (show ¬ ((i : Int) < (m : Int) ∧ (m : Int) < (e : Int)) from fun h => by omega)], rfl⟩
          · go_wp2_with fail
            go_meet
            exact ⟨by rw [decide_eq_false (show ¬ ((i : Int) < (m : Int) ∧ (m : Int) < (e : Int)) from fun h => by omega)], rfl⟩
        case rest =>
        as_aux_lemma =>
        obtain ⟨rfl, rfl⟩ := hcut
        go_upto_if 185 with fail
        go_cut [] (fun w' => w'.ownsRow base 3 1 (.slice (some ⟨g, 0, none⟩) n cap) n ((P ++ (A1 ++ (B1 ++ (A2 ++ (B2 ++ S))))).map VI) ∧ Upd g w w')
        case first =>
          as_aux_lemma =>
          clear HC IH HCw
          by_cases hh : (i : Int) < (m : Int) ∧ (m : Int) < (e : Int)
          · rw [decide_eq_true hh]
            have Hh := Lib.hid hh
            clear hh
            go_wp2_with fail
            refine (rot_calls g n cap base i m e (P ++ A1) A2 B1 (B2 ++ S) cb w1 (by have := T.pa; have := T.hi; simp; omega) (by have := T.pa; have := T.hi; have := T.hm; simp; omega) (by have := T.pa; have := T.hi; have := T.hm; have := T.he; simp; omega) (by have := T.hm; have := Hh.out.1; omega) (by have := T.he; have := Hh.out.2; omega) (by have := T.len; simp; omega) hn2 (by have := Ho.out; simpa using this)).mono ?_
            rintro e w2 ⟨rfl, ho2, hu2⟩
            have Ho2 := Lib.hid ho2; have Hu2 := Lib.hid (Hu.out.trans hu2)
            clear ho2 hu2 Ho Hu
            go_wp2_with fail
            go_meet
            exact ⟨by have := Ho2.out; simpa using this, Hu2.out⟩
          · rw [decide_eq_false hh]
            have Hx := Lib.hid (show A2 = [] ∨ B1 = [] from by
              have := T.hm; have := T.he
              by_cases h : (i : Int) < (m : Int)
              · exact Or.inr (List.eq_nil_of_length_eq_zero (by omega))
              · exact Or.inl (List.eq_nil_of_length_eq_zero (by omega)))
            clear hh
            go_wp2_with fail
            go_meet
            exact ⟨by have := Ho.out; rcases Hx.out with h | h <;> rw [h] at this ⊢ <;> simpa using this, Hu.out⟩
        case rest =>
          as_aux_lemma =>
          have Ho2 := Lib.hid hcut.1; have Hu2 := Lib.hid hcut.2
          have HCw := Lib.hid (HC.out.upd hcut.2)
          clear hcut Ho Hu
          generalize wc = w2 at *
          go_upto_region 41 with fail
          go_cut [199] (fun v w' => v = .bool (decide ((a : Int) < (i : Int) ∧ (i : Int) < (mid : Int))) ∧ w2 = w')
          case first =>
            as_aux_lemma =>
            clear Ho2 Hu2 HC IH T HCw
            by_cases t1 : (a : Int) < (i : Int)
            · by_cases t2 : (i : Int) < (mid : Int)
              · go_wp2_with fail
                go_meet
                exact ⟨by rw [decide_eq_true (show (a : Int) < (i : Int) ∧ (i : Int) < (mid : Int) from ⟨by omega, by omega⟩)], rfl⟩
              · go_wp2_with fail
                go_meet
                exact ⟨by rw [decide_eq_false (show ¬ ((a : Int) < (i : Int) ∧ (i : Int) < (mid : Int)) from fun h => by omega)], rfl⟩
            · go_wp2_with fail
              go_meet
              exact ⟨by rw [decide_eq_false (show ¬ ((a : Int) < (i : Int) ∧ (i : Int) < (mid : Int)) from fun h => by omega)], rfl⟩
          case rest =>
          as_aux_lemma =>
          obtain ⟨rfl, rfl⟩ := hcut
          go_upto_if 199 with fail
          go_cut [] (fun w' => ∃ R1, R1.Perm (A1 ++ B1) ∧ R1.Pairwise L ∧ w'.ownsRow base 3 1 (.slice (some ⟨g, 0, none⟩) n cap) n ((P ++ (R1 ++ (A2 ++ (B2 ++ S)))).map VI) ∧ Upd g w w')
          case first =>
            as_aux_lemma =>
            by_cases hh : (a : Int) < (i : Int) ∧ (i : Int) < (mid : Int)
            · rw [decide_eq_true hh]
              have Hh := Lib.hid hh
              clear hh
              go_wp2_with fail
              refine (IH.out P A1 B1 (A2 ++ (B2 ++ S)) a i mid w2 T.d1 T.pa (by have := T.pa; have := T.hi; omega) (by have := T.pa; have := T.hi; have := T.hmid; omega) (by have := T.hi; have := Hh.out.1; omega) (by have := T.hmid; have := Hh.out.2; omega) T.sA1 T.sB1 T.be1 (by have := T.len; simp; omega) T.x1 HCw.out (by have := Ho2.out; simpa using this)).mono ?_
              rintro e w3 ⟨rfl, R1, r1, r2, r3, r4⟩
              have Hr := Lib.hid (show R1.Perm (A1 ++ B1) ∧ R1.Pairwise L ∧ w3.ownsRow base 3 1 (.slice (some ⟨g, 0, none⟩) n cap) n ((P ++ (R1 ++ (A2 ++ (B2 ++ S)))).map VI) ∧ Upd g w w3 from ⟨r1, r2, r3, Hu2.out.trans r4⟩)
              clear r1 r2 r3 r4 Ho2 Hu2 HCw HC
              go_wp2_with fail
              go_meet
              exact ⟨R1, Hr.out⟩
            · rw [decide_eq_false hh]
              have Hx := Lib.hid (show A1 = [] ∨ B1 = [] from by
                have := T.hi; have := T.hmid
                by_cases h : (a : Int) < (i : Int)
                · exact Or.inr (List.eq_nil_of_length_eq_zero (by omega))
                · exact Or.inl (List.eq_nil_of_length_eq_zero (by omega)))
              clear hh
              go_wp2_with fail
              go_meet
              exact ⟨A1 ++ B1, List.Perm.refl _, by rcases Hx.out with h | h <;> rw [h] <;> simp <;> first | exact T.sB1 | exact T.sA1, by have := Ho2.out; simpa using this, Hu2.out⟩
          case rest =>
            as_aux_lemma =>
            obtain ⟨R1, r1, r2, r3, r4⟩ := hcut
            have HCw := Lib.hid (HC.out.upd r4)
            have Hr1 := Lib.hid r1; have Hr2 := Lib.hid r2; have Hr3 := Lib.hid r3; have Hr4 := Lib.hid r4; have HrL := Lib.hid (show R1.length = A1.length + B1.length by have := r1.length_eq; simpa using this)
            clear r1 r2 r3 r4 Ho2 Hu2 HC
            generalize wc = w3 at *
            by_cases t1 : (mid : Int) < (e : Int)
            · by_cases t2 : (e : Int) < (b : Int)
              · have Ht1 := Lib.hid t1; have Ht2 := Lib.hid t2
                go_wp2_with fail
                refine (IH.out (P ++ R1) A2 B2 S mid e b w3 T.d2 (by have := T.pa; have := T.hi; have := T.hmid; have := HrL.out; simp; omega) (by have := T.pa; have := T.hi; have := T.hm; have := T.he; have := HrL.out; simp; omega) (by have := T.pa; have := T.hi; have := T.hm; have := T.he; have := T.hb; have := HrL.out; simp; omega) (by have := T.hmid; have := T.hm; have := T.he; have := Ht1.out; omega) (by have := T.hb; have := Ht2.out; omega) T.sA2 T.sB2 T.be2 (by have := T.len; have := HrL.out; simp; omega) T.x2 HCw.out (by have := Hr3.out; simpa using this)).mono ?_
                rintro e w4 ⟨rfl, R2, q1, q2, q3, q4⟩
                obtain ⟨z1, z2⟩ := T.split R1 R2 Hr1.out q1 Hr2.out q2
                have HZ := Lib.hid (show MergeSaid g n cap base L P A B S w (.returned (.tuple #[])) w4 from ⟨rfl, R1 ++ R2, z1, z2, by simpa using q3, Hr4.out.trans q4⟩)
                clear q1 q2 q3 q4 z1 z2 Hr1 Hr2 Hr3 Hr4 IH HCw T
                go_wp2_with fail
                go_end0
                exact HZ.out
              · have hx : B2 = [] := List.eq_nil_of_length_eq_zero (by have := T.hb; omega)
                obtain ⟨z1, z2⟩ := T.split R1 A2 Hr1.out (by rw [hx]; simp) Hr2.out T.sA2
                have HZ := Lib.hid (show MergeSaid g n cap base L P A B S w (.returned (.tuple #[])) w3 from ⟨rfl, R1 ++ A2, z1, z2, by have := Hr3.out; rw [hx] at this; simpa using this, Hr4.out⟩)
                clear hx z1 z2 Hr1 Hr2 Hr3 Hr4 IH HCw T
                go_wp2_with fail
                go_end0
                exact HZ.out
            · have hx : A2 = [] := List.eq_nil_of_length_eq_zero (by have := T.hmid; have := T.hm; have := T.he; omega)
              obtain ⟨z1, z2⟩ := T.split R1 B2 Hr1.out (by rw [hx]; simp) Hr2.out T.sB2
              have HZ := Lib.hid (show MergeSaid g n cap base L P A B S w (.returned (.tuple #[])) w3 from ⟨rfl, R1 ++ B2, z1, z2, by have := Hr3.out; rw [hx] at this; simpa using this, Hr4.out⟩)
              clear hx z1 z2 Hr1 Hr2 Hr3 Hr4 IH HCw T
              go_wp2_with fail
              go_end0
              exact HZ.out
end Go.Proofs.YtmeoafodcniliaaGreatDoor.C24
