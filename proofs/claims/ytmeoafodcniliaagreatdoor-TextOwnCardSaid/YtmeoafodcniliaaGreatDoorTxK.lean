/- text.Changes -/
import Derived.Test.YtmeoafodcniliaaGreatDoorTxE
namespace Go.Proofs.YtmeoafodcniliaaGreatDoor.C4
open Go.RowKit
set_option linter.unusedSimpArgs false
set_option linter.unusedVariables false
namespace Tx
theorem split_le : ∀ (k : Nat) (bs : List By), ∀ l ∈ (split k bs).1, l.length ≤ bs.length
  | 0, bs => by simp [split]
  | k + 1, bs => by
    unfold split
    cases hi : nlIdx bs with
    | none => simp
    | some i =>
      intro l hl
      dsimp only at hl
      rcases List.mem_cons.1 hl with rfl | hl
      · simp; omega
      · have := split_le k (bs.drop (i + 1)) l hl
        simp at this; omega
theorem pieces_le (bs l : List By) (h : l ∈ pieces bs) : l.length ≤ bs.length := by
  unfold pieces at h
  rcases List.mem_append.1 h with h | h
  · exact split_le _ _ l h
  · simp at h; subst h
    have := whole_tail_length bs; omega
/-- What lines say as changes up to the first fault. -/
structure CRun where
  cs : List Ch
  k : Nat
  e : Int
def chRun (n : Int) : List (List By) → CRun
  | [] => ⟨[], 0, 0⟩
  | l :: ls =>
    if words l = [] then ⟨(chRun n ls).cs, (chRun n ls).k + 1, (chRun n ls).e⟩
    else if (change (words l) n).e ≠ 0 then ⟨[], 1, (change (words l) n).e⟩
    else ⟨change (words l) n :: (chRun n ls).cs, (chRun n ls).k + 1, (chRun n ls).e⟩
def CRun.out (R : CRun) : List Ch := if R.e = 0 then R.cs else []
def CRun.line (R : CRun) : Int := if R.e = 0 then 0 else R.k
theorem chRun_blank {n : Int} {l : List By} {ls : List (List By)} (h : words l = []) : chRun n (l :: ls) = ⟨(chRun n ls).cs, (chRun n ls).k + 1, (chRun n ls).e⟩ := by
  rw [chRun, if_pos h]
theorem chRun_fault {n : Int} {l : List By} {ls : List (List By)} (h : words l ≠ []) (he : (change (words l) n).e ≠ 0) : chRun n (l :: ls) = ⟨[], 1, (change (words l) n).e⟩ := by
  rw [chRun, if_neg h, if_pos he]
theorem chRun_says {n : Int} {l : List By} {ls : List (List By)} (h : words l ≠ []) (he : (change (words l) n).e = 0) : chRun n (l :: ls) = ⟨change (words l) n :: (chRun n ls).cs, (chRun n ls).k + 1, (chRun n ls).e⟩ := by
  rw [chRun, if_neg h, if_neg (by rw [he]; simp)]
end Tx
/-- The cells of changes. -/
def chs (cs : List Tx.Ch) : List Value := cs.flatMap fun c => [.int .i64 c.u, .int .i64 c.v, .bool c.gone]
theorem chs_append (a b : List Tx.Ch) : chs (a ++ b) = chs a ++ chs b := by unfold chs; rw [List.flatMap_append]
theorem chs_length (a : List Tx.Ch) : (chs a).length = a.length * 3 := by
  induction a with
  | nil => rfl
  | cons p a ih => rw [show chs (p :: a) = [.int .i64 p.u, .int .i64 p.v, .bool p.gone] ++ chs a from rfl, List.length_append, ih]; simp; omega
theorem infoCh : (Tryz.prog.info? 130).map (fun i => (i.zero, i.size, i.bytes)) = some (some (.agg #[.int .i64 0, .int .i64 0, .bool false]), 3, 24) := by kernel_rfl
theorem descChs : Tryz.prog.underlying 54 = some (.slice 130) := by kernel_rfl
/-- What Changes answers. -/
def ChangesSaid (R : Tx.CRun) (w : World) (en : Ending) (w' : World) : Prop :=
  ∃ Al capl, en = .returned (.tuple #[.slice Al R.out.length capl, .int .i64 R.line, .int .i64 R.e]) ∧ w'.ownsRow w.heap.size 130 3 (.slice Al R.out.length capl) R.out.length (chs R.out) ∧ Below w.heap.size w w'
set_option maxHeartbeats 8000000 in
set_option maxRecDepth 20000 in
theorem Changes_calls (A : Option Addr) (m cap B : Nat) (bs : List (BitVec 8)) (n : Int) (w : World) (hn : m = bs.length) (hm : m ≤ 4294960000) (hcap : m ≤ cap) (hc63 : cap ≤ maxLen) (hnil : A = none → m = 0 ∧ cap = 0) (hB : B ≤ w.heap.size) (hr : Rd w B A (bs.map V8)) :
    Calls Tryz.prog 13 #[.slice A m cap, .int .i64 n] w (ChangesSaid (Tx.chRun n (Tx.pieces bs)) w) := by
  have hlen : (Tx.pieces bs).length ≤ bs.length + 1 := by
    have := Tx.whole_tail_length bs
    unfold Tx.pieces; simp; omega
  have hall : ∀ (i : Nat) (l : List (BitVec 8)), (Tx.pieces bs)[i]? = some l → l.length ≤ bs.length := fun i l h => Tx.pieces_le bs l (List.mem_of_getElem? h)
  have Hall := Lib.hid hall
  have hsz0 : (w.alloc (.cells #[.int .u8 10] 5)).heap.size = w.heap.size + 1 := by simp
  have hb0 : Below w.heap.size w (w.alloc (.cells #[.int .u8 10] 5)) := (Below.refl _ _).alloc (Nat.le_refl _) _
  have Hsp := Lib.hid (Split_calls A m cap B w.heap.size bs (w.alloc (.cells #[.int .u8 10] 5)) hn hm hcap hc63 hnil (by rw [hsz0]; omega) (hr.below hb0 hB) (by rw [World.cell?_alloc_new]; rfl))
  have hlm : (Tx.pieces bs).length ≤ 4294970000 := by omega
  have hbl : bs.length ≤ 4294960000 := by omega
  have Hb0 := Lib.hid hb0
  clear hn hnil hr hlen hall hb0
  generalize Tx.pieces bs = ls at *
  go_enter Tryz.func13, Tryz.ntmps13
  go_wp2_with fail
  refine (Hsp.out).mono ?_
  rintro en w2 ⟨vs, rfl, hpi, hrv, hb2, hsz2⟩
  rw [hsz0] at hrv hsz2 hb2
  have hB2 : B ≤ w2.heap.size := by omega
  have Hpi := Lib.hid hpi; have Hrv := Lib.hid hrv
  have Hb2 := Lib.hid (Hb0.out.trans (show Below w.heap.size (w.alloc (.cells #[.int .u8 10] 5)) w2 from hb2.mono (by omega)))
  clear hpi hrv hb2 Hsp Hb0
  go_wp2_with fail
  go_loopw [7, 17] (fun l iv wr => ∃ (i : Nat) (P : List Tx.Ch), iv = .int .i64 (i : Int) ∧ wr.ownsRow w2.heap.size 130 3 l P.length (chs P) ∧ Below w2.heap.size w2 wr ∧ i ≤ ls.length ∧ P.length ≤ i ∧
    Tx.chRun n ls = ⟨P ++ (Tx.chRun n (ls.drop i)).cs, i + (Tx.chRun n (ls.drop i)).k, (Tx.chRun n (ls.drop i)).e⟩) (fun l iv wr => ls.length - (intOf iv).toNat)
  case atStart =>
    exact ⟨0, [], rfl, World.ownsRow_nil w2 _ _ _, Below.refl _ _, by omega, by simp, by simp⟩
  case round =>
    obtain ⟨i, P, rfl, hl, hbr, hil, hPi, hrun⟩ := hrel
    obtain ⟨Al, capl, rfl⟩ := own_size hl
    have Hl := Lib.hid hl; have Hbr := Lib.hid hbr; have Hrun := Lib.hid hrun
    have hszr := hbr.size
    clear hl hbr hrun
    by_cases hlt : i < ls.length
    · have hlti : (i : Int) < (ls.length : Int) := by omega
      obtain ⟨l, hli⟩ : ∃ l, ls[i]? = some l := ⟨_, List.getElem?_eq_getElem hlt⟩
      obtain ⟨v, hvi, A1, cap1, rfl, hc1, hnil1, hr1⟩ := Hpi.out.at hli
      obtain ⟨b, off, he, hbl2, hcell⟩ := (Hrv.out.below Hbr.out (by omega)) i _ hvi
      injection he with he; injection he with h1 h2
      subst h1 h2
      rw [Nat.zero_add] at hcell
      have hll := Hall.out i l hli
      have hdrop : ls.drop i = l :: ls.drop (i + 1) := by
        rw [List.drop_eq_getElem_cons hlt]; congr 1
        exact (List.getElem?_eq_some_iff.1 hli).2
      have Hrun1 := Lib.hid (show Tx.chRun n ls = ⟨P ++ (Tx.chRun n (l :: ls.drop (i + 1))).cs, i + (Tx.chRun n (l :: ls.drop (i + 1))).k, (Tx.chRun n (l :: ls.drop (i + 1))).e⟩ by rw [← hdrop]; exact Hrun.out)
      have hll2 : l.length ≤ 4294960000 := by omega
      have hr1' := hr1.below Hbr.out hB2
      have Hwd := Lib.hid (words_calls A1 l.length cap1 B l wr rfl (by omega) hc1 hnil1 (by omega) hr1')
      have Hr1 := Lib.hid hr1'
      clear hli hvi hnil1 hr1 hr1' hdrop Hrun hbl2 hll
      go_wp2_with fail
      refine (Hwd.out).mono ?_
      rintro en w4 ⟨A4, cap4, rfl, hown4, hb4⟩
      have hrow4 := own_rd hown4
      have hcap4 := own_cap hown4
      have hsz4 := hb4.size
      have hl4 := own_below_s Hl.out hb4 (Nat.le_refl _)
      have hbr4 := Hbr.out.trans (hb4.mono hszr)
      have hr4 := Hr1.out.below hb4 (by omega)
      have Hrow := Lib.hid hrow4; have Hl4 := Lib.hid hl4; have Hbr4 := Lib.hid hbr4; have Hr4 := Lib.hid hr4
      clear hrow4 hown4 hb4 hl4 hbr4 hr4 Hl Hbr Hr1 Hwd
      by_cases hsp : Tx.spans l = []
      · have hw : Tx.words l = [] := by unfold Tx.words; rw [hsp]; rfl
        have HR := Lib.hid (Tx.chRun_blank (n := n) (ls := ls.drop (i + 1)) hw)
        rw [hsp]
        have hl0 : (([] : List (Nat × Nat)).length : Int) = 0 := rfl
        clear Hrow hcap4 hsp hw
        go_wp2_with fail
        go_roundw
        case rel =>
          refine ⟨i + 1, P, rfl, Hl4.out, Hbr4.out, by omega, by omega, ?_⟩
          rw [Hrun1.out, HR.out]
          dsimp only
          congr 1
          omega
        case measure => simp [intOf]; omega
      · have hw : Tx.words l ≠ [] := by unfold Tx.words; intro h; exact hsp (List.map_eq_nil_iff.1 h)
        have hA4 : Tx.spans l ≠ [] → ∃ a, A1 = some a ∧ a.spot = none := by
          intro hne
          have h0 : 0 < l.length := by
            rcases Nat.eq_zero_or_pos l.length with h | h
            · have : l = [] := List.eq_nil_of_length_eq_zero h
              subst this; exact absurd rfl hne
            · exact h
          obtain ⟨b', off', he, _, _⟩ := Hr4.out 0 (V8 l[0]) (by rw [List.getElem?_map, List.getElem?_eq_getElem h0]; rfl)
          exact ⟨_, he, rfl⟩
        have hpos : 0 < (Tx.spans l).length := List.length_pos_iff.2 hsp
        have hpos2 : (((Tx.spans l).length : Int) == 0) = false := by simp; omega
        have Hch := Lib.hid (change_calls A1 l A4 cap4 B w4.heap.size n w4 (by omega) (by omega) (Nat.le_refl _) hA4 Hrow.out Hr4.out hcap4.1)
        have HRf := Lib.hid (fun he => Tx.chRun_fault (n := n) (ls := ls.drop (i + 1)) hw he)
        have HRs := Lib.hid (fun he => Tx.chRun_says (n := n) (ls := ls.drop (i + 1)) hw he)
        generalize (Tx.spans l).length = L at *
        generalize Tx.change (Tx.words l) n = C at *
        obtain ⟨cu, cv, cg, ce⟩ := C
        dsimp only at Hch HRf HRs
        clear hsp hw hA4 Hrow hcap4 hpos
        go_wp2_with fail
        refine (Hch.out).mono ?_
        rintro en w5 ⟨rfl, hb5⟩
        have hl5 := own_below_s Hl4.out hb5 (Nat.le_refl _)
        have hbr5 := Hbr4.out.trans (hb5.mono (by omega))
        have hsz5 := hb5.size
        have Hl5 := Lib.hid hl5; have Hbr5 := Lib.hid hbr5
        clear hl5 hbr5 hb5 Hl4 Hbr4 Hr4 Hch
        by_cases he : ce = 0
        · subst he
          have HR := Lib.hid (HRs.out rfl)
          have hb8 : Below w5.heap.size w5 ((w5.alloc (.cells #[.int .i64 cu, .int .i64 cv, .bool cg] 130)).alloc (.cells #[.int .i64 cu, .int .i64 cv, .bool cg] 130)) := ((Below.refl _ _).alloc (Nat.le_refl _) _).alloc (by simp) _
          have hl8 := own_below_s Hl5.out hb8 (Nat.le_refl _)
          have hbr8 := Hbr5.out.trans (hb8.mono (by omega))
          have hnew : ((w5.alloc (.cells #[.int .i64 cu, .int .i64 cv, .bool cg] 130)).alloc (.cells #[.int .i64 cu, .int .i64 cv, .bool cg] 130)).heap[w5.heap.size + 1]? = some (.cells #[.int .i64 cu, .int .i64 cv, .bool cg] 130 (0, 0)) := by
            have := heap_alloc_new (w5.alloc (.cells #[.int .i64 cu, .int .i64 cv, .bool cg] 130)) (.cells #[.int .i64 cu, .int .i64 cv, .bool cg] 130)
            simpa using this
          have Hc8 := Lib.hid (show ∀ (j : Nat) (u : Value), [Value.int .i64 cu, .int .i64 cv, .bool cg][j]? = some u → ((w5.alloc (.cells #[.int .i64 cu, .int .i64 cv, .bool cg] 130)).alloc (.cells #[.int .i64 cu, .int .i64 cv, .bool cg] 130)).cell? ((⟨w5.heap.size + 1, 0, none⟩ : Addr).add j) = some u from fun j u hu => by
            rw [Addr.add_lit, Nat.zero_add, cell_heap hnew]; simpa using hu)
          have Hone := Lib.hid (show ∀ u ∈ ([.int .i64 cu, .int .i64 cv, .bool cg] : List Value), u.oneCell' = true by intro u hu; simp at hu; rcases hu with rfl | rfl | rfl <;> rfl)
          have Hsb := Lib.hid (show w2.heap.size ≤ ((w5.alloc (.cells #[.int .i64 cu, .int .i64 cv, .bool cg] 130)).alloc (.cells #[.int .i64 cu, .int .i64 cv, .bool cg] 130)).heap.size by simp; omega)
          have Hl8 := Lib.hid hl8; have Hbr8 := Lib.hid hbr8
          have hPb : P.length ≤ 4294970000 := by omega
          obtain ⟨i0, hi0, hz0, hz1, hz2⟩ := info_parts infoCh
          have Hi := Lib.hid hi0
          have Hge := Lib.hid (show ∀ x ∈ (Value.slice Al P.length capl).ownBlock.toList, w2.heap.size ≤ x from fun x hx => (own_blk hl8 (by simpa using hx)).1)
          clear hb8 hl8 hbr8 hnew hi0
          go_wp2_with (at_builtin; refine wpList_append_own _ rfl _ _ 54 rfl w2.heap.size 130 i0 _ 3 24 descChs Hi.out hz0 hz1 hz2 rfl (by decide) _ P.length (chs P) rfl Hl8.out ⟨w5.heap.size + 1, 0, none⟩ 1 1 [.int .i64 cu, .int .i64 cv, .bool cg] rfl rfl Hc8.out Hone.out (by unfold maxLen; omega) (by omega) Hsb.out ?_; intro v9 w9 hown9 hg9 _; obtain ⟨A9, cap9, rfl⟩ := own_size hown9; have Hkg := Lib.hid (show Keep ((Value.slice Al P.length capl).ownBlock.toList) _ w9 from Keep.grown hg9); have Hown9 := Lib.hid hown9; clear hown9 hg9)
          go_roundw
          case rel =>
            refine ⟨i + 1, P ++ [⟨cu, cv, cg, 0⟩], rfl, ?_, Hbr8.out.trans (Hkg.out.below Hsb.out Hge.out), by omega, by simp; omega, ?_⟩
            · rw [List.length_append, chs_append]; exact Hown9.out
            · rw [Hrun1.out, HR.out]
              simp only [List.append_assoc, List.singleton_append]
              congr 1
              omega
          case measure => simp [intOf]; omega
        · have hne : (ce != 0) = true := by simpa using he
          have HR := Lib.hid (HRf.out he)
          have He := Lib.hid he
          clear he HRf HRs
          go_wp2_with fail
          go_ret3
          unfold ChangesSaid
          have hall : Tx.chRun n ls = ⟨P, i + 1, ce⟩ := by rw [Hrun1.out, HR.out]; simp
          rw [hall]
          unfold Tx.CRun.out Tx.CRun.line
          dsimp only
          rw [if_neg He.out, if_neg He.out]
          exact ⟨none, 0, rfl, World.ownsRow_nil _ _ _ _, Hb2.out.trans ((Hbr5.out.mono (by omega)).trans ((Below.refl _ _).alloc (by omega) _))⟩
    · have hlti : ((i : Int) < (ls.length : Int)) = False := by simp; omega
      have hall : Tx.chRun n ls = ⟨P, i, 0⟩ := by
        rw [Hrun.out, List.drop_eq_nil_of_le (by omega)]; simp [Tx.chRun]
      have Hall2 := Lib.hid hall
      clear hall
      go_wp2_with fail
      go_ret3
      unfold ChangesSaid
      rw [Hall2.out]
      unfold Tx.CRun.out Tx.CRun.line
      dsimp only
      exact ⟨Al, capl, rfl, own_base_s Hl.out (by omega), Hb2.out.trans (Hbr.out.mono (by omega))⟩
end Go.Proofs.YtmeoafodcniliaaGreatDoor.C4
