/- the reference's Lines and Words -/
import Derived.Test.YtgoobadkbndfgaaDoorRfM
import Derived.BigQuiet
import Derived.Laws.DeepStrings4
import Derived.Test.YtgoobadkbndfgaaDoorTxR
namespace Go.Proofs.YtgoobadkbndfgaaDoor
open Go.RowKit
set_option linter.unusedSimpArgs false
set_option linter.unusedVariables false
theorem infoSt : (Tryd.prog.info? 9).map (fun i => (i.zero, i.size, i.bytes)) = some (some (.string ⟨#[]⟩), 1, 16) := by kernel_rfl
theorem descSts : Tryd.prog.underlying 61 = some (.slice 9) := by kernel_rfl
theorem ss_one (ls : List (List (BitVec 8))) : ∀ u ∈ ls.map SS, u.oneCell' = true := by
  intro u hu; obtain ⟨b, _, rfl⟩ := List.mem_map.1 hu; rfl
/-- What Lines and Words answer. -/
def RowSaid (ls : List (List (BitVec 8))) (w : World) (en : Ending) (w' : World) : Prop :=
  ∃ A' cap', en = .returned (.slice A' ls.length cap') ∧ w'.ownsRow w.heap.size 9 1 (.slice A' ls.length cap') ls.length (ls.map SS) ∧ Below w.heap.size w w'
set_option maxHeartbeats 4000000 in
set_option maxRecDepth 20000 in
theorem Lines_calls (A : Option Addr) (n cap B : Nat) (bs : List (BitVec 8)) (w : World) (hn : n = bs.length) (hm : n ≤ 1099511627776) (hcap : n ≤ cap) (hcm : cap ≤ 9223372036854775807) (hnil : A = none → n = 0 ∧ cap = 0) (hB : B ≤ w.heap.size) (hr : Rd w B A (bs.map V8)) :
    Calls Tryd.prog 31 #[.slice A n cap] w (RowSaid (Tx.lines bs) w) := by
  obtain ⟨i0, hi0, hz0, hz1, hz2⟩ := info_parts infoSt
  have Hi := Lib.hid hi0
  have Hn := Lib.hid hn; have Hnil := Lib.hid hnil; have Hr := Lib.hid hr
  clear hn hnil hr hi0
  go_enter Tryd.func31, Tryd.ntmps31
  go_wp2_with fail
  go_loopw [3, 4, 5] (fun v fv iv wr => ∃ (done : List (List (BitVec 8))) (f i : Nat), fv = .int .i64 (f : Int) ∧ iv = .int .i64 (i : Int) ∧ wr.ownsRow w.heap.size 9 1 v done.length (done.map SS) ∧ Below w.heap.size w wr ∧ f ≤ i ∧ i ≤ n ∧ done.length ≤ i ∧ Tx.NoNl bs f i ∧ Tx.lines bs = done ++ Tx.lines (bs.drop f)) (fun _ _ iv _ => n - (intOf iv).toNat)
  case atStart => exact ⟨[], 0, 0, rfl, rfl, World.ownsRow_nil _ _ _ _, Below.refl _ _, by omega, by omega, by simp, Tx.NoNl.start _ _, rfl⟩
  case round =>
    obtain ⟨done, f, i, rfl, rfl, hown, hbr, hfi, hin, hdl, hno, hl⟩ := hrel
    obtain ⟨A1, cap1, rfl, hcc, hcm1, _⟩ := own_form hown
    have Hown := Lib.hid hown; have Hbr := Lib.hid hbr; have Hno := Lib.hid hno; have Hl := Lib.hid hl
    have hszr := hbr.size
    clear hown hbr hno hl
    by_cases hlt : i < n
    · have q1 : (i : Int) < (n : Int) := by omega
      obtain ⟨c, hc⟩ : ∃ c, bs[i]? = some c := ⟨bs[i]'(by rw [← Hn.out]; omega), List.getElem?_eq_getElem _⟩
      obtain ⟨b, off, rfl, hb, hcell⟩ := (Hr.out.below Hbr.out hB) i (V8 c) (by rw [List.getElem?_map, hc]; rfl)
      have Hc := Lib.hid hc
      clear hc
      by_cases h10 : n8 c = 10
      · have t1 : ((n8 c : Int) == 10) = true := by simp; omega
        have Hfin := Lib.hid (Tx.lines_at Hno.out hfi Hc.out h10)
        clear h10
        have hpl : ((bs.drop f).take (i - f)).length = i - f := by simp; have := Hn.out; omega
        have hrp : Rd wr B (some ⟨b, off + f, none⟩) (((bs.drop f).take (i - f)).map V8) := by
          have h0 := Hr.out.below Hbr.out hB
          intro k v hv
          rw [List.getElem?_map, List.getElem?_take] at hv
          split at hv
          · rw [List.getElem?_drop] at hv
            obtain ⟨b', off', he, hb', hcell'⟩ := h0 (f + k) v (by rw [List.getElem?_map]; exact hv)
            injection he with he; injection he with e1 e2 e3
            subst e1 e2
            exact ⟨b, off + f, rfl, hb', by rw [Nat.add_assoc]; exact hcell'⟩
          · cases hv
        have hcv := str_run (cap := cap - f) (n := i - f) hpl.symm (by intro h; cases h) hrp
        obtain ⟨piece, hp⟩ : ∃ p, p = (bs.drop f).take (i - f) := ⟨_, rfl⟩
        rw [← hp] at hcv hpl Hfin
        clear hrp hp
        have hb9 : Below wr.heap.size wr (wr.alloc (.cells #[SS piece] 9)) := (Below.refl _ _).alloc (Nat.le_refl _) _
        have Hoy := Lib.hid (own_below Hown.out hb9 (Nat.le_refl _))
        have Hrd := Lib.hid (rd_new wr [SS piece] #[SS piece] 9 rfl)
        have Hby := Lib.hid (Hbr.out.trans (hb9.mono (by omega)))
        have hsb : w.heap.size ≤ (wr.alloc (.cells #[SS piece] 9)).heap.size := by simp; omega
        have q2 : (f : Int) ≤ (i : Int) := by omega
        have q3 : (i : Int) ≤ (cap : Int) := by omega
        clear hb9
        go_wp2_with (at_builtin; refine wpList_append_rd rfl _ _ 61 rfl w.heap.size 9 i0 _ 16 descSts Hi.out hz0 hz1 hz2 rfl _ done.length (done.map SS) rfl Hoy.out _ (some ⟨wr.heap.size, 0, none⟩) 1 1 [SS piece] rfl rfl (by intro h; cases h) Hrd.out (by intro u hu; simp at hu; subst hu; rfl) (by unfold maxLen; omega) (by omega) hsb ?_; intro v9 w9 hown9 hg9; have Hown9 := Lib.hid hown9; have Hgw := Lib.hid (show World.grownBy _ w9 (Value.slice A1 done.length cap1).ownBlock from hg9); clear hown9 hg9)
        go_roundw
        case rel =>
          refine ⟨done ++ [piece], i + 1, i + 1, by congr 1, by congr 1, ?_, Hby.out.grown Hgw.out hsb (fun x hx => (Hoy.out.lt x hx).1), by omega, by omega, by simp; omega, Tx.NoNl.start _ _, ?_⟩
          · rw [List.length_append, List.map_append]; exact Hown9.out
          · rw [Hl.out, Hfin.out, List.append_assoc]; rfl
        case measure => simp [intOf]; omega
      · have t1 : ((n8 c : Int) == 10) = false := by simp; omega
        have Hno2 := Lib.hid (Hno.out.more Hc.out h10)
        clear h10
        go_wp2_with fail
        go_roundw
        case rel => exact ⟨done, f, i + 1, rfl, by congr 1, Hown.out, Hbr.out, by omega, by omega, by omega, Hno2.out, Hl.out⟩
        case measure => simp [intOf]; omega
    · obtain rfl : n = i := by omega
      have Hfin := Lib.hid (show Tx.lines bs = done ++ Tx.lasts (bs.drop f) by rw [Hl.out, Tx.lines_end Hno.out (by rw [Hn.out]; exact Nat.le_refl _)])
      by_cases hf : f < n
      · have q2 : (f : Int) < (n : Int) := by omega
        obtain ⟨c, hc⟩ : ∃ c, bs[f]? = some c := ⟨bs[f]'(by rw [← Hn.out]; omega), List.getElem?_eq_getElem _⟩
        obtain ⟨b, off, rfl, hb, hcell⟩ := (Hr.out.below Hbr.out hB) f (V8 c) (by rw [List.getElem?_map, hc]; rfl)
        have hpl : (bs.drop f).length = n - f := by simp; have := Hn.out; omega
        have hne : bs.drop f ≠ [] := by intro h; rw [h] at hpl; simp at hpl; omega
        have Hfin2 := Lib.hid (show Tx.lines bs = done ++ [bs.drop f] by rw [Hfin.out]; unfold Tx.lasts; rw [if_neg hne])
        have hrp : Rd wr B (some ⟨b, off + f, none⟩) ((bs.drop f).map V8) := by
          have h0 := Hr.out.below Hbr.out hB
          intro k v hv
          rw [List.getElem?_map, List.getElem?_drop] at hv
          obtain ⟨b', off', he, hb', hcell'⟩ := h0 (f + k) v (by rw [List.getElem?_map]; exact hv)
          injection he with he; injection he with e1 e2 e3
          subst e1 e2
          exact ⟨b, off + f, rfl, hb', by rw [Nat.add_assoc]; exact hcell'⟩
        have hcv := str_run (cap := cap - f) (n := n - f) hpl.symm (by intro h; cases h) hrp
        obtain ⟨piece, hp⟩ : ∃ p, p = bs.drop f := ⟨_, rfl⟩
        rw [← hp] at hcv Hfin2
        clear hrp hp hc hpl hne hcell
        have hb9 : Below wr.heap.size wr (wr.alloc (.cells #[SS piece] 9)) := (Below.refl _ _).alloc (Nat.le_refl _) _
        have Hoy := Lib.hid (own_below Hown.out hb9 (Nat.le_refl _))
        have Hrd := Lib.hid (rd_new wr [SS piece] #[SS piece] 9 rfl)
        have Hby := Lib.hid (Hbr.out.trans (hb9.mono (by omega)))
        have hsb : w.heap.size ≤ (wr.alloc (.cells #[SS piece] 9)).heap.size := by simp; omega
        have q3 : (f : Int) ≤ (n : Int) := by omega
        have q4 : (n : Int) ≤ (cap : Int) := by omega
        have q5 : ¬ cap = f := by omega
        clear hb9
        go_wp2_with (at_builtin; refine wpList_append_rd rfl _ _ 61 rfl w.heap.size 9 i0 _ 16 descSts Hi.out hz0 hz1 hz2 rfl _ done.length (done.map SS) rfl Hoy.out _ (some ⟨wr.heap.size, 0, none⟩) 1 1 [SS piece] rfl rfl (by intro h; cases h) Hrd.out (by intro u hu; simp at hu; subst hu; rfl) (by unfold maxLen; omega) (by omega) hsb ?_; intro v9 w9 hown9 hg9; have Hown9 := Lib.hid hown9; have Hgw := Lib.hid (show World.grownBy _ w9 (Value.slice A1 done.length cap1).ownBlock from hg9); clear hown9 hg9)
        go_ret
        have ho := Hown9.out
        obtain ⟨A9, cap9, rfl, _⟩ := own_form ho
        unfold RowSaid
        rw [Hfin2.out]
        refine ⟨A9, cap9, ?_, ?_, Hby.out.grown Hgw.out hsb (fun x hx => (Hoy.out.lt x hx).1)⟩
        · rw [List.length_append]; rfl
        · rw [List.length_append, List.map_append]; exact ho
      · have q2 : ¬ (f : Int) < (n : Int) := by omega
        have Hfin2 := Lib.hid (show Tx.lines bs = done by rw [Hfin.out, List.drop_eq_nil_of_le (by rw [← Hn.out]; omega)]; simp [Tx.lasts])
        go_wp2_with fail
        go_ret
        unfold RowSaid
        rw [Hfin2.out]
        exact ⟨_, _, rfl, Hown.out, Hbr.out⟩
theorem idx_str {bs : List (BitVec 8)} {i : Nat} {c : BitVec 8} (hc : bs[i]? = some c) (w : World) : (Instr.index 9 (.string (strOf bs)) (.int .i64 (i : Int))).run Tryd.prog w = .ok (V8 c) w := by
  have hi : i < bs.length := (List.getElem?_eq_some_iff.1 hc).1
  rw [run_index_string w 9 (strOf bs) .i64 (i : Int) descStr, dif_pos ⟨by omega, by rw [strOf_size]; omega⟩]
  have h : (strOf bs)[i]'(by rw [strOf_size]; exact hi) = UInt8.ofBitVec c := by
    have h1 := (List.getElem?_eq_some_iff.1 hc).2
    show (strOf bs).data[i]'_ = _
    simp [strOf, h1]
  show Result.ok (Value.int .u8 (((strOf bs)[i]'_).toNat : Int)) w = _
  rw [h]; rfl
theorem cut_str (bs : List (BitVec 8)) (f i : Nat) (hf : f ≤ i) (hi : i ≤ bs.length) (w : World) : (Instr.slice 9 (.string (strOf bs)) (some (.int .i64 (f : Int))) (some (.int .i64 (i : Int))) none).run Tryd.prog w = .ok (SS ((bs.drop f).take (i - f))) w := by
  rw [run_slice_string_if w 9 (strOf bs) .i64 .i64 (f : Int) (i : Int) descStr, if_pos ⟨by omega, by rw [strOf_size]; omega⟩, if_pos ⟨by omega, by omega⟩]
  show Result.ok (Value.string ((strOf bs).extract f i)) w = _
  rw [strOf_extract bs f i hi]
set_option maxHeartbeats 4000000 in
set_option maxRecDepth 20000 in
theorem Words_calls (bs : List (BitVec 8)) (w : World) (hm : bs.length ≤ 1099511627776) :
    Calls Tryd.prog 33 #[SS bs] w (RowSaid (Tx.words bs) w) := by
  obtain ⟨i0, hi0, hz0, hz1, hz2⟩ := info_parts infoSt
  have Hi := Lib.hid hi0
  obtain ⟨s, hs⟩ : ∃ s, s = strOf bs := ⟨_, rfl⟩
  obtain ⟨n, hn⟩ : ∃ n, n = bs.length := ⟨_, rfl⟩
  have hsz : s.size = n := by rw [hs, hn, strOf_size]
  have Hidx := Lib.hid (fun (i : Nat) (c : BitVec 8) (hc : bs[i]? = some c) (w : World) => by have := idx_str hc w; rw [← hs] at this; exact this)
  have Hcut := Lib.hid (fun (f i : Nat) (hf : f ≤ i) (hi : i ≤ bs.length) (w : World) => by have := cut_str bs f i hf hi w; rw [← hs] at this; exact this)
  show Calls Tryd.prog 33 #[.string (strOf bs)] w (RowSaid (Tx.words bs) w)
  rw [← hs]
  rw [← hn] at hm
  have Hn := Lib.hid hn
  clear hi0 hs hn
  go_enter Tryd.func33, Tryd.ntmps33
  go_wp2_with fail
  go_loopw [3, 4, 5] (fun v fv iv wr => ∃ (done : List (Nat × Nat)) (f i : Nat), fv = .int .i64 (f : Int) ∧ iv = .int .i64 (i : Int) ∧ wr.ownsRow w.heap.size 9 1 v done.length (done.map (fun p => SS (Tx.cutOut bs p))) ∧ Below w.heap.size w wr ∧ f ≤ i ∧ i ≤ n ∧ done.length ≤ i ∧ Tx.spans bs = done ++ Tx.sS (Tx.wst f i) i (bs.drop i)) (fun _ _ iv _ => n - (intOf iv).toNat)
  case atStart => exact ⟨[], 0, 0, rfl, rfl, World.ownsRow_nil _ _ _ _, Below.refl _ _, by omega, by omega, by simp, rfl⟩
  case round =>
    obtain ⟨done, f, i, rfl, rfl, hown, hbr, hfi, hin, hdl, hl⟩ := hrel
    obtain ⟨A1, cap1, rfl, hcc, hcm1, _⟩ := own_form hown
    have Hown := Lib.hid hown; have Hbr := Lib.hid hbr; have Hl := Lib.hid hl
    have hszr := hbr.size
    clear hown hbr hl
    have hstop : (i < n ∧ ∃ c, bs[i]? = some c ∧ Tx.isHash c = false) ∨ (∀ c r, bs.drop i = c :: r → Tx.isHash c = true) := by
      by_cases hlt : i < n
      · have h1 : i < bs.length := by rw [← Hn.out]; exact hlt
        have hdrop : bs.drop i = bs[i] :: bs.drop (i + 1) := List.drop_eq_getElem_cons h1
        cases hh : Tx.isHash bs[i] with
        | true => right; intro c r h; rw [hdrop] at h; injection h with h _; subst h; exact hh
        | false => exact Or.inl ⟨hlt, bs[i], List.getElem?_eq_getElem h1, hh⟩
      · right; intro c r h
        rw [List.drop_of_length_le (by rw [← Hn.out]; omega)] at h; cases h
    rcases hstop with ⟨hlt, c, hc, hh⟩ | hend
    · have q1 : (i : Int) < (n : Int) := by omega
      have hdrop : bs.drop i = c :: bs.drop (i + 1) := by
        have h1 : i < bs.length := (List.getElem?_eq_some_iff.1 hc).1
        rw [List.drop_eq_getElem_cons h1]; congr 1
        exact (List.getElem?_eq_some_iff.1 hc).2
      rw [hdrop] at Hl
      have hidx := Hidx.out i c hc
      have t0 : ((n8 c : Int) != 35) = true := by unfold Tx.isHash at hh; simp at hh ⊢; omega
      clear hc hdrop
      cases hbl : Tx.isBl c with
      | true =>
        have t2 : ((n8 c : Int) == 32) = true ∨ (((n8 c : Int) == 32) = false ∧ ((n8 c : Int) == 9) = true) := by unfold Tx.isBl at hbl; simp at hbl ⊢; omega
        by_cases hf : f < i
        · have Hfin := Lib.hid (show Tx.spans bs = (done ++ [(f, i - f)]) ++ Tx.sS (Tx.wst (i + 1) (i + 1)) (i + 1) (bs.drop (i + 1)) by rw [Hl.out, Tx.sS_blank_w hf hh hbl, List.append_assoc]; rfl)
          have q2 : (f : Int) < (i : Int) := by omega
          have hcut := Hcut.out f i hfi (by rw [← Hn.out]; exact hin)
          obtain ⟨piece, hp⟩ : ∃ p, p = (bs.drop f).take (i - f) := ⟨_, rfl⟩
          rw [← hp] at hcut
          have Hp := Lib.hid hp
          clear hh hbl hp
          have hb9 : Below wr.heap.size wr (wr.alloc (.cells #[SS piece] 9)) := (Below.refl _ _).alloc (Nat.le_refl _) _
          have Hoy := Lib.hid (own_below Hown.out hb9 (Nat.le_refl _))
          have Hrd := Lib.hid (rd_new wr [SS piece] #[SS piece] 9 rfl)
          have Hby := Lib.hid (Hbr.out.trans (hb9.mono (by omega)))
          have hsb : w.heap.size ≤ (wr.alloc (.cells #[SS piece] 9)).heap.size := by simp; omega
          clear hb9
          rcases t2 with t2 | ⟨t2, t3⟩
          all_goals
            go_wp2_with (at_builtin; refine wpList_append_rd rfl _ _ 61 rfl w.heap.size 9 i0 _ 16 descSts Hi.out hz0 hz1 hz2 rfl _ done.length (done.map (fun p => SS (Tx.cutOut bs p))) rfl Hoy.out _ (some ⟨wr.heap.size, 0, none⟩) 1 1 [SS piece] rfl rfl (by intro h; cases h) Hrd.out (by intro u hu; simp at hu; subst hu; rfl) (by unfold maxLen; omega) (by omega) hsb ?_; intro v9 w9 hown9 hg9; have Hown9 := Lib.hid hown9; have Hgw := Lib.hid (show World.grownBy _ w9 (Value.slice A1 done.length cap1).ownBlock from hg9); clear hown9 hg9)
            go_roundw
            case rel =>
              refine ⟨done ++ [(f, i - f)], i + 1, i + 1, by congr 1, by congr 1, ?_, Hby.out.grown Hgw.out hsb (fun x hx => (Hoy.out.lt x hx).1), by omega, by omega, by simp; omega, Hfin.out⟩
              rw [List.length_append, List.map_append]
              have := Hown9.out
              rw [Hp.out] at this
              exact this
            case measure => simp [intOf]; omega
        · have Hfin := Lib.hid (show Tx.spans bs = done ++ Tx.sS (Tx.wst (i + 1) (i + 1)) (i + 1) (bs.drop (i + 1)) by rw [Hl.out, Tx.sS_blank_n hf hh hbl])
          have q2 : ¬ (f : Int) < (i : Int) := by omega
          clear hh hbl
          rcases t2 with t2 | ⟨t2, t3⟩
          all_goals
            go_wp2_with fail
            go_roundw
            case rel => exact ⟨done, i + 1, i + 1, by congr 1, by congr 1, Hown.out, Hbr.out, by omega, by omega, by omega, Hfin.out⟩
            case measure => simp [intOf]; omega
      | false =>
        have Hfin := Lib.hid (show Tx.spans bs = done ++ Tx.sS (Tx.wst f (i + 1)) (i + 1) (bs.drop (i + 1)) by rw [Hl.out, Tx.sS_letter hfi hh hbl])
        have t2 : ((n8 c : Int) == 32) = false := by unfold Tx.isBl at hbl; simp at hbl ⊢; omega
        have t3 : ((n8 c : Int) == 9) = false := by unfold Tx.isBl at hbl; simp at hbl ⊢; omega
        clear hh hbl
        go_wp2_with fail
        go_roundw
        case rel => exact ⟨done, f, i + 1, rfl, by congr 1, Hown.out, Hbr.out, by omega, by omega, by omega, Hfin.out⟩
        case measure => simp [intOf]; omega
    · have tests : (¬ (i : Int) < (n : Int)) ∨ ((i : Int) < (n : Int) ∧ ∃ c : BitVec 8, (∀ w, (Instr.index 9 (.string s) (.int .i64 (i : Int))).run Tryd.prog w = .ok (V8 c) w) ∧ ((n8 c : Int) != 35) = false) := by
        by_cases hlt : i < n
        · right
          refine ⟨by omega, ?_⟩
          have h1 : i < bs.length := by rw [← Hn.out]; exact hlt
          refine ⟨bs[i], Hidx.out i _ (List.getElem?_eq_getElem h1), ?_⟩
          have := hend _ _ (List.drop_eq_getElem_cons h1)
          unfold Tx.isHash at this
          simp at this ⊢; omega
        · left; omega
      by_cases hf : f < i
      · have Hfin := Lib.hid (show Tx.spans bs = done ++ [(f, i - f)] by rw [Hl.out, Tx.sS_stop_w hf hend])
        have q2 : (f : Int) < (i : Int) := by omega
        have hcut := Hcut.out f i hfi (by rw [← Hn.out]; exact hin)
        obtain ⟨piece, hp⟩ : ∃ p, p = (bs.drop f).take (i - f) := ⟨_, rfl⟩
        rw [← hp] at hcut
        have Hp := Lib.hid hp
        clear hend hp
        have hb9 : Below wr.heap.size wr (wr.alloc (.cells #[SS piece] 9)) := (Below.refl _ _).alloc (Nat.le_refl _) _
        have Hoy := Lib.hid (own_below Hown.out hb9 (Nat.le_refl _))
        have Hrd := Lib.hid (rd_new wr [SS piece] #[SS piece] 9 rfl)
        have Hby := Lib.hid (Hbr.out.trans (hb9.mono (by omega)))
        have hsb : w.heap.size ≤ (wr.alloc (.cells #[SS piece] 9)).heap.size := by simp; omega
        clear hb9
        rcases tests with q1 | ⟨q1, c, hidx, t0⟩
        all_goals
          go_wp2_with (at_builtin; refine wpList_append_rd rfl _ _ 61 rfl w.heap.size 9 i0 _ 16 descSts Hi.out hz0 hz1 hz2 rfl _ done.length (done.map (fun p => SS (Tx.cutOut bs p))) rfl Hoy.out _ (some ⟨wr.heap.size, 0, none⟩) 1 1 [SS piece] rfl rfl (by intro h; cases h) Hrd.out (by intro u hu; simp at hu; subst hu; rfl) (by unfold maxLen; omega) (by omega) hsb ?_; intro v9 w9 hown9 hg9; have Hown9 := Lib.hid hown9; have Hgw := Lib.hid (show World.grownBy _ w9 (Value.slice A1 done.length cap1).ownBlock from hg9); clear hown9 hg9)
          go_ret
          have ho := Hown9.out
          obtain ⟨A9, cap9, rfl, _⟩ := own_form ho
          unfold RowSaid Tx.words
          rw [Hfin.out]
          refine ⟨A9, cap9, ?_, ?_, Hby.out.grown Hgw.out hsb (fun x hx => (Hoy.out.lt x hx).1)⟩
          · rw [List.length_map, List.length_append]; rfl
          · rw [List.length_map, List.length_append, List.map_map, List.map_append]
            rw [Hp.out] at ho
            exact ho
      · have Hfin := Lib.hid (show Tx.spans bs = done by rw [Hl.out, Tx.sS_stop_n hf hend, List.append_nil])
        have q2 : ¬ (f : Int) < (i : Int) := by omega
        clear hend
        rcases tests with q1 | ⟨q1, c, hidx, t0⟩
        all_goals
          go_wp2_with fail
          go_ret
          unfold RowSaid Tx.words
          rw [Hfin.out]
          refine ⟨A1, cap1, ?_, ?_, Hbr.out⟩
          · rw [List.length_map]; rfl
          · rw [List.length_map, List.map_map]
            exact Hown.out
end Go.Proofs.YtgoobadkbndfgaaDoor
