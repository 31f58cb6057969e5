/- bytes.Split at newlines -/
import Derived.Test.YtmeoafodcniliaaGreatDoorTxD
import Derived.Lib.SplitLaws
import Derived.Lib.IndexBytes
import Derived.Deep.RegionHeld
namespace Go.Proofs.YtmeoafodcniliaaGreatDoor.C4
open Go.RowKit
set_option linter.unusedSimpArgs false
set_option linter.unusedVariables false
/-- Pieces that lie in memory. -/
def Piece (w : World) (B : Nat) (v : Value) (l : List (BitVec 8)) : Prop := ∃ A cap, v = .slice A l.length cap ∧ l.length ≤ cap ∧ (A = none → l.length = 0 ∧ cap = 0) ∧ Rd w B A (l.map V8)
def Pieces (w : World) (B : Nat) : List Value → List (List (BitVec 8)) → Prop
  | [], [] => True
  | v :: vs, l :: ls => Piece w B v l ∧ Pieces w B vs ls
  | _, _ => False
theorem Piece.below {w w' : World} {B : Nat} {v : Value} {l : List (BitVec 8)} {b : Nat} (h : Piece w B v l) (hb : Below b w w') (hB : B ≤ b) : Piece w' B v l := by
  obtain ⟨A, cap, h1, h2, h3, h4⟩ := h
  exact ⟨A, cap, h1, h2, h3, h4.below hb hB⟩
theorem Pieces.below {w w' : World} {B : Nat} {b : Nat} (hb : Below b w w') (hB : B ≤ b) : ∀ {vs : List Value} {ls : List (List (BitVec 8))}, Pieces w B vs ls → Pieces w' B vs ls
  | [], [], _ => trivial
  | _ :: _, _ :: _, h => ⟨h.1.below hb hB, Pieces.below hb hB h.2⟩
theorem Pieces.length {w : World} {B : Nat} : ∀ {vs : List Value} {ls : List (List (BitVec 8))}, Pieces w B vs ls → vs.length = ls.length
  | [], [], _ => rfl
  | _ :: _, _ :: _, h => by simp [Pieces.length h.2]
theorem Pieces.at {w : World} {B : Nat} : ∀ {vs : List Value} {ls : List (List (BitVec 8))} {i : Nat} {l : List (BitVec 8)}, Pieces w B vs ls → ls[i]? = some l → ∃ v, vs[i]? = some v ∧ Piece w B v l
  | [], [], i, l, _, h => by simp at h
  | v :: vs, l0 :: ls, 0, l, h, hi => by
    simp at hi; subst hi; exact ⟨v, rfl, h.1⟩
  | v :: vs, l0 :: ls, i + 1, l, h, hi => by
    simp at hi
    obtain ⟨u, h1, h2⟩ := Pieces.at h.2 hi
    exact ⟨u, by simpa using h1, h2⟩
namespace Tx
theorem count_none {bs : List By} (h : nlIdx bs = none) : (bs.map UInt8.ofBitVec).count 10 = 0 := by
  induction bs with
  | nil => rfl
  | cons c r ih =>
    unfold nlIdx at h
    split at h
    · cases h
    · rename_i hc
      rw [List.map_cons, List.count_cons, ih (by cases hr : nlIdx r with | none => rfl | some j => rw [hr] at h; cases h)]
      have : (UInt8.ofBitVec c == 10) = false := by
        rw [beq_eq_false_iff_ne]
        intro h2
        apply hc
        have := congrArg UInt8.toNat h2
        unfold n8; simpa using this
      rw [this]; rfl
theorem count_some {bs : List By} {i : Nat} (h : nlIdx bs = some i) : (bs.map UInt8.ofBitVec).count 10 = ((bs.drop (i + 1)).map UInt8.ofBitVec).count 10 + 1 := by
  induction bs generalizing i with
  | nil => cases h
  | cons c r ih =>
    unfold nlIdx at h
    split at h
    · rename_i hc
      injection h with h; subst h
      have : UInt8.ofBitVec c = 10 := by
        have : c = 10#8 := n8_inj hc
        subst this; rfl
      rw [List.map_cons, List.count_cons, this]; simp
    · rename_i hc
      cases hr : nlIdx r with
      | none => rw [hr] at h; cases h
      | some j =>
        rw [hr] at h; simp at h; subst h
        rw [List.map_cons, List.count_cons, ih hr]
        have : (UInt8.ofBitVec c == 10) = false := by
          rw [beq_eq_false_iff_ne]
          intro h2
          apply hc
          have := congrArg UInt8.toNat h2
          unfold n8; simpa using this
        rw [this]; rfl
theorem count_whole : ∀ (k : Nat) (bs : List By), bs.length ≤ k → (bs.map UInt8.ofBitVec).count 10 = (whole bs).length
  | 0, bs, h => by
    have : bs = [] := List.eq_nil_of_length_eq_zero (by omega)
    subst this; rfl
  | k + 1, bs, h => by
    cases hi : nlIdx bs with
    | none => rw [count_none hi, (whole_none hi).1]; rfl
    | some i =>
      have hl := nlIdx_lt hi
      rw [count_some hi, (whole_some hi).1, count_whole k _ (by simp; omega)]; rfl
/-- The pieces of a text between its newlines. -/
def pieces (bs : List By) : List (List By) := whole bs ++ [tail bs]
end Tx
theorem index_nl (bs : List (BitVec 8)) : Lib.index (bs.map UInt8.ofBitVec) [10] = match Tx.nlIdx bs with | none => -1 | some i => (i : Int) := by
  rw [Lib.index_one, indexByte_nl]
  cases Tx.nlIdx bs <;> rfl
theorem splitV_pieces (w : World) (B : Nat) : ∀ (k : Nat) (a : Addr) (cap : Nat) (bs : List (BitVec 8)), (Tx.whole bs).length ≤ k → bs.length ≤ cap → Rd w B (some a) (bs.map V8) → Pieces w B (Lib.splitV [10] 0 k a cap (bs.map UInt8.ofBitVec)) (Tx.pieces bs)
  | 0, a, cap, bs, hk, hc, hr => by
    have hn : Tx.nlIdx bs = none := by
      cases hi : Tx.nlIdx bs with
      | none => rfl
      | some i => rw [(Tx.whole_some hi).1] at hk; simp at hk
    unfold Tx.pieces
    rw [(Tx.whole_none hn).1, (Tx.whole_none hn).2]
    refine ⟨⟨some a, cap, by simp, hc, by simp, hr⟩, trivial⟩
  | k + 1, a, cap, bs, hk, hc, hr => by
    unfold Lib.splitV
    have hidx := index_nl bs
    cases hi : Tx.nlIdx bs with
    | none =>
      rw [hi] at hidx
      have e : Lib.index (bs.map UInt8.ofBitVec) [10] = -1 := hidx
      unfold Tx.pieces
      rw [(Tx.whole_none hi).1, (Tx.whole_none hi).2, e, if_pos (by decide)]
      exact ⟨⟨some a, cap, by simp, hc, by simp, hr⟩, trivial⟩
    | some i =>
      have hl := Tx.nlIdx_lt hi
      rw [hi] at hidx
      have e : Lib.index (bs.map UInt8.ofBitVec) [10] = (i : Int) := hidx
      unfold Tx.pieces
      rw [(Tx.whole_some hi).1, (Tx.whole_some hi).2, e, if_neg (by simp only [beq_iff_eq]; omega)]
      rw [(Tx.whole_some hi).1] at hk
      have htl : (bs.take i).length = i := by simp; omega
      refine ⟨⟨some a, i, by rw [htl]; simp, by omega, by simp, ?_⟩, ?_⟩
      · exact rd_take i hr
      · rw [← List.map_drop]
        have he : ((i : Int).toNat + [(10 : UInt8)].length) = i + 1 := by simp
        rw [he]
        refine splitV_pieces w B k _ _ (bs.drop (i + 1)) (by simpa using hk) (by simp; omega) ?_
        intro j v hv
        rw [List.getElem?_map, List.getElem?_drop] at hv
        have hj : i + 1 + j < bs.length := by
          cases hq : bs[i + 1 + j]? with
          | none => rw [hq] at hv; cases hv
          | some c => exact (List.getElem?_eq_some_iff.1 hq).1
        obtain ⟨b, off, hae, hb, hcell⟩ := hr (i + 1 + j) v (by rw [List.getElem?_map]; exact hv)
        injection hae with hae; subst hae
        unfold Lib.tailAddr
        rw [if_neg (by omega)]
        exact ⟨b, off + (i + 1), rfl, hb, by rw [Nat.add_assoc]; exact hcell⟩
set_option maxHeartbeats 2000000 in
set_option maxRecDepth 20000 in
theorem Split_calls (A : Option Addr) (n cap B b2 : Nat) (bs : List (BitVec 8)) (w : World) (hn : n = bs.length) (hm : n ≤ 4294960000) (hcap : n ≤ cap) (hc63 : cap ≤ maxLen) (hnil : A = none → n = 0 ∧ cap = 0) (hB : B ≤ w.heap.size) (hr : Rd w B A (bs.map V8)) (hc2 : w.cell? ⟨b2, 0, none⟩ = some (.int .u8 10)) :
    Calls Tryz.prog 64 #[.slice A n cap, .slice (some ⟨b2, 0, none⟩) 1 1] w fun e w' => ∃ vs, e = .returned (.slice (some ⟨w.heap.size, 0, none⟩) (Tx.pieces bs).length (Tx.pieces bs).length) ∧
      Pieces w' B vs (Tx.pieces bs) ∧ Rd w' (w.heap.size + 1) (some ⟨w.heap.size, 0, none⟩) vs ∧ Below w.heap.size w w' ∧ w'.heap.size = w.heap.size + 1 := by
  cases A with
  | none =>
    obtain ⟨rfl, rfl⟩ := hnil rfl
    have : bs = [] := List.eq_nil_of_length_eq_zero hn.symm
    subst this
    refine (Tryz.bytes_Split_nil (some ⟨b2, 0, none⟩) 1 1 w (by omega) (by omega) (fun _ => ⟨b2, 0, 10, rfl, hc2⟩)).mono ?_
    rintro e w' ⟨rfl, rfl⟩
    refine ⟨[.slice none 0 0], rfl, ⟨⟨none, 0, rfl, Nat.le_refl _, fun _ => ⟨rfl, rfl⟩, Rd.nil _ _ _⟩, trivial⟩, ?_, (Below.refl _ _).alloc (Nat.le_refl _) _, by simp⟩
    intro k v hv
    match k with
    | 0 =>
      simp at hv; subst hv
      exact ⟨w.heap.size, 0, rfl, by omega, by rw [World.cell?_alloc_new]; rfl⟩
    | k + 1 => simp at hv
  | some a =>
    subst hn
    have hnp : (Tx.pieces bs).length = (Tx.whole bs).length + 1 := by unfold Tx.pieces; simp
    have hwl : (Tx.whole bs).length ≤ bs.length := by have := Tx.whole_tail_length bs; omega
    have hcells : ∀ i, i < bs.length → w.cell? (a.add i) = some (.int .u8 ((bs.map fun b => (n8 b : Int)).getD i 0)) := by
      intro i hi
      have hb : bs[i]? = some (bs[i]'(by omega)) := List.getElem?_eq_getElem _
      obtain ⟨b, off, he, _, hc⟩ := hr i (V8 (bs[i]'(by omega))) (by rw [List.getElem?_map, hb]; rfl)
      injection he with he; subst he
      rw [Addr.add_lit, hc]
      simp [List.getD, hb]
    have hcnt : Lib.count (Lib.bytesOf (bs.map fun b => (n8 b : Int))) [10] = (Tx.whole bs).length := by
      rw [bytesOf_v8, Lib.count_one, Tx.count_whole bs.length bs (Nat.le_refl _)]
    have hg := Tryz.bytes_genSplit_core a ⟨b2, 0, none⟩ bs.length cap 1 1 (bs.map fun b => (n8 b : Int)) [10] 0 (-1) ((Tx.whole bs).length + 1) w (by simp)
      (by intro x hx; obtain ⟨b, _, rfl⟩ := List.mem_map.1 hx; have := n8_lt b; omega) hcells hcap (by omega) (by unfold maxLen at hc63; omega) (by omega) (by omega) rfl (by omega)
      (by
        intro a1 zs ln cap1 q c h1 _ h3 h4 h5
        refine (Tryz.bytes_Index_one_at a1 ln cap1 b2 0 1 zs 10 ((w.alloc (.cells c 22)).drewN q) h1 (fun i hi => ?_) ?_).mono ?_
        · have h6 := h3 i hi
          show (w.alloc (.cells c 22)).cell? _ = _
          rw [World.cell?_alloc_some _ _ _ (by rw [h6]; rfl)]; exact h6
        · show (w.alloc (.cells c 22)).cell? _ = _
          rw [World.cell?_alloc_some _ _ _ (by rw [hc2]; rfl)]; exact hc2
        · rintro e w' ⟨rfl, rfl⟩
          exact ⟨by rw [Lib.index_one]; rfl, q, rfl⟩)
      (by
        refine (Tryz.bytes_Count_one_at a bs.length cap b2 0 1 (bs.map fun b => (n8 b : Int)) 10 w (by simp) hcells hc2).mono ?_
        rintro e w' ⟨rfl, rfl⟩
        exact ⟨by rw [Lib.count_one]; rfl, 0, rfl⟩)
      (by decide) (by decide) (by rw [hcnt, if_pos (by decide)]; omega)
    rw [Nat.add_sub_cancel, bytesOf_v8] at hg
    have hp := splitV_pieces w B (Tx.whole bs).length a cap bs (Nat.le_refl _) (by omega) hr
    have hpl := hp.length
    generalize Lib.splitV [10] 0 (Tx.whole bs).length a cap (bs.map UInt8.ofBitVec) = vs at *
    rw [hpl, ← hnp] at hg
    have HG := Lib.hid (show Calls Tryz.prog 101 #[.slice (some a) bs.length cap, .slice (some ⟨b2, 0, none⟩) 1 1, .int .i64 0, .int .i64 (-1)] w fun e w' =>
      e = .returned (.slice (some ⟨w.heap.size, 0, none⟩) (Tx.pieces bs).length (Tx.pieces bs).length) ∧ ∃ q, w' = (w.alloc (.cells (Lib.cellsOfV vs (Tx.pieces bs).length) 22)).drewN q from hg)
    have Hnp := Lib.hid hnp; have Hpl := Lib.hid hpl
    clear hg hcells hnp hwl hpl
    go_enter Tryz.func64, Tryz.ntmps64
    go_wp2_with fail
    refine (HG.out).mono ?_
    rintro e w' ⟨rfl, q, rfl⟩
    go_wp2_with fail
    go_ret
    have hfull : Lib.cellsOfV vs (Tx.pieces bs).length = vs.toArray := by rw [← Hpl.out]; exact Lib.cellsOfV_full vs
    rw [hfull]
    have hb : Below w.heap.size w ((w.alloc (.cells vs.toArray 22)).drewN q) := below_drewN ((Below.refl _ _).alloc (Nat.le_refl _) _) q
    refine ⟨vs, rfl, ?_, ?_, hb, by show (w.alloc (.cells vs.toArray 22)).heap.size = _; simp⟩
    · exact hp.below hb hB
    · intro k v hv
      refine ⟨w.heap.size, 0, rfl, by omega, ?_⟩
      show (w.alloc (.cells vs.toArray 22)).cell? _ = _
      rw [Nat.zero_add, World.cell?_alloc_new]
      simpa using hv
end Go.Proofs.YtmeoafodcniliaaGreatDoor.C4
