/- TextOwn: a scanner that was fed; what the walk holds -/
import Derived.Test.YtmeoafodcniliaaGreatDoorTxU
import Derived.Test.YtmeoafodcniliaaGreatDoorTxV
import Derived.Test.YtmeoafodcniliaaGreatDoorTxK
import Derived.Test.YtmeoafodcniliaaGreatDoorTxB
import Derived.Test.YtmeoafodcniliaaGreatDoorBk0
import Derived.Test.YtmeoafodcniliaaGreatDoorBk7
import Derived.Test.YtmeoafodcniliaaGreatDoorBk8
import Derived.Test.YtmeoafodcniliaaGreatDoorBkE
import Derived.Test.YtmeoafodcniliaaGreatDoorBkL
namespace Go.Proofs.YtmeoafodcniliaaGreatDoor
open Go.RowKit
open C4 (EdIs Keep)
open Bk (Row Is Sep Kept)
set_option linter.unusedSimpArgs false
set_option linter.unusedVariables false
set_option maxRecDepth 20000
namespace Bk
def usedT : Nat → Bool := only [0, 7, 8]
theorem usedT_ok : UsedOK usedT := by intro K hK; revert K; decide
theorem allT : All usedT := by
  intro K hK
  match K, hK with
  | 0, _ => exact kind0.mono (fun _ _ => trivial)
  | 1, _ => exact empty1.mono (fun l h => h.resolve_left (by decide))
  | 2, _ => exact empty2.mono (fun l h => h.resolve_left (by decide))
  | 3, _ => exact empty3.mono (fun l h => h.resolve_left (by decide))
  | 4, _ => exact empty4.mono (fun l h => h.resolve_left (by decide))
  | 5, _ => exact empty5.mono (fun l h => h.resolve_left (by decide))
  | 6, _ => exact empty6.mono (fun l h => h.resolve_left (by decide))
  | 7, _ => exact kind7.mono (fun _ _ => trivial)
  | 8, _ => exact kind8.mono (fun _ _ => trivial)
  | 9, _ => exact empty9.mono (fun l h => h.resolve_left (by decide))
  | 10, _ => exact empty10.mono (fun l h => h.resolve_left (by decide))
  | 11, _ => exact empty11.mono (fun l h => h.resolve_left (by decide))
  | 12, _ => exact empty12.mono (fun l h => h.resolve_left (by decide))
  | 13, _ => exact empty13.mono (fun l h => h.resolve_left (by decide))
  | 14, _ => exact empty14.mono (fun l h => h.resolve_left (by decide))
  | 15, _ => exact empty15.mono (fun l h => h.resolve_left (by decide))
  | 16, _ => exact empty16.mono (fun l h => h.resolve_left (by decide))
  | K + 17, h => omega
theorem Kept.of_keep {ks : List Nat} {F : Nat → Prop} {w w' : World} (h : C4.Keep ks w w') (hF : ∀ x ∈ ks, F x) : Kept F w w' :=
  ⟨h.os, h.tape, h.output, h.size, fun k hk hn => h.block k hk (fun hm => hn (hF k hm))⟩
end Bk
abbrev RunW := C4.Tx.runW
abbrev Tail := C4.Tx.tail
abbrev Told := C4.Tx.told
abbrev EAll (F : List (BitVec 8)) : Int := (C4.Tx.all F).eEnd
/-- A scanner that was fed F; rv is the row that it keeps the rest in. -/
def Sc (w : World) (g : Nat) (rv : Value) (F : List (BitVec 8)) : Prop :=
  ((RunW F).e = 0 ∧ EdIs w g rv (RunW F).k 0 (RunW F).n (RunW F).begun false ∧ w.ownsRow 0 5 1 rv (Tail F).length ((Tail F).map V8)) ∨
  ((RunW F).e ≠ 0 ∧ rv = .slice none 0 0 ∧ ∃ v L f n b, EdIs w g v L f n b true)
section
variable {w w' : World} {g : Nat} {rv : Value} {F : List (BitVec 8)} {G : Nat → Prop}
theorem Sc.lt (h : Sc w g rv F) : g < w.heap.size := by
  rcases h with ⟨_, h, _⟩ | ⟨_, _, v, L, f, n, b, h⟩
  · exact h.lt
  · exact h.lt
theorem Sc.rlt (h : Sc w g rv F) {x : Nat} (hx : rv.ownBlock = some x) : x < w.heap.size := by
  rcases h with ⟨_, _, h⟩ | ⟨_, h, _⟩
  · exact (Bk.own_blk h hx).2
  · rw [h] at hx; cases hx
theorem Sc.kept (h : Sc w g rv F) (hk : Kept G w w') (hg : ¬ G g) (hr : ∀ x, rv.ownBlock = some x → ¬ G x) : Sc w' g rv F := by
  have hb := hk.block g h.lt hg
  rcases h with ⟨h0, h, ho⟩ | ⟨h0, hv, v, L, f, n, b, h⟩
  · exact .inl ⟨h0, hb.trans h, Bk.own_kept ho hk hr⟩
  · exact .inr ⟨h0, hv, v, L, f, n, b, hb.trans h⟩
theorem Sc.below (h : Sc w g rv F) (hb : Below w.heap.size w w') : Sc w' g rv F := h.kept (G := fun _ => False) (Kept.of_below hb) (fun h => h) (fun _ _ h => h)
theorem sc_sizes (F : List (BitVec 8)) : (RunW F).pairs.length ≤ F.length ∧ (RunW F).k ≤ F.length ∧ (Tail F).length ≤ F.length := by
  have h1 := C4.Tx.run_k 0 false (C4.Tx.whole F)
  have h2 := C4.Tx.run_e_pairs 0 false (C4.Tx.whole F)
  have h3 := C4.Tx.whole_tail_length F
  refine ⟨?_, ?_, ?_⟩
  · show (C4.Tx.run 0 false (C4.Tx.whole F)).pairs.length ≤ _; omega
  · show (C4.Tx.run 0 false (C4.Tx.whole F)).k ≤ _; omega
  · show (C4.Tx.tail F).length ≤ _; omega
end
/-- What Feed answers, and what becomes of the scanner. -/
def FeedSc (g : Nat) (rv : Value) (F cs : List (BitVec 8)) (w : World) (en : Ending) (w' : World) : Prop :=
  ∃ (Al : Option Addr) (capl : Nat) (ps : List (Int × Int)) (e : Int) (rv' : Value), en = .returned (.tuple #[.slice Al ps.length capl, .int .i64 e]) ∧ w'.ownsRow w.heap.size 127 2 (.slice Al ps.length capl) ps.length (C4.pcs ps) ∧
    Kept (fun x => x = g ∨ rv.ownBlock = some x) w w' ∧ Sc w' g rv' (F ++ cs) ∧ (∀ x, rv'.ownBlock = some x → w.heap.size ≤ x) ∧ ps.length ≤ F.length + cs.length ∧
    ((RunW F).e = 0 → (RunW (F ++ cs)).pairs = (RunW F).pairs ++ ps ∧ (RunW (F ++ cs)).e = e) ∧ ((RunW F).e ≠ 0 → RunW (F ++ cs) = RunW F)
theorem feed_sc {w : World} {g : Nat} {rv : Value} {F : List (BitVec 8)} (h : Sc w g rv F) (hF : F.length ≤ 100000) (A : Option Addr) (n cap B : Nat) (cs : List (BitVec 8))
    (hn : n = cs.length) (hm : n ≤ 100000) (hcap : n ≤ cap) (hnil : A = none → n = 0 ∧ cap = 0) (hB : B ≤ w.heap.size) (hr : Rd w B A (cs.map V8)) :
    Calls Tryz.prog 15 #[.pointer (some ⟨g, 0, none⟩), .slice A n cap] w (FeedSc g rv F cs w) := by
  obtain ⟨s1, s2, s3⟩ := sc_sizes F
  rcases h with ⟨h0, hed, hown⟩ | ⟨h0, rfl, v, L, f, N, b, hed⟩
  · obtain ⟨A0, cap0, rfl⟩ := C4.own_size hown
    refine (C4.Feed_calls g A0 (Tail F).length cap0 0 (Tail F) (RunW F).k 0 (RunW F).n (RunW F).begun A n cap B cs w hed hown (C4.own_ne_ed hown hed (by decide)) (Nat.zero_le _) hn (by omega) hcap hnil hB hr (by omega) (by omega) (by omega)).mono ?_
    rintro en w' ⟨Al, capl, rfl, hl, hk, hs⟩
    have ho : RunW (F ++ cs) = _ := C4.Tx.runW_on (c := F) cs h0
    have ht : Tail (F ++ cs) = Tail (Tail F ++ cs) := C4.Tx.tail_append F cs
    have hlen := C4.Tx.whole_tail_length (Tail F ++ cs)
    have hk1 := C4.Tx.run_k (RunW F).n (RunW F).begun (C4.Tx.whole (Tail F ++ cs))
    have hk2 := C4.Tx.run_e_pairs (RunW F).n (RunW F).begun (C4.Tx.whole (Tail F ++ cs))
    have hkp : Kept (fun x => x = g ∨ (Value.slice A0 (Tail F).length cap0).ownBlock = some x) w w' := Bk.Kept.of_keep hk (fun x hx => by
      rcases List.mem_cons.1 hx with h | h
      · exact .inl h
      · exact .inr (by simpa using h))
    rw [List.length_append] at hlen
    generalize hR : C4.Tx.run (RunW F).n (RunW F).begun (C4.Tx.whole (Tail F ++ cs)) = R at *
    rcases hs with ⟨e0, Ar, capr, hed', hown'⟩ | ⟨e1, rv', hed'⟩
    · refine ⟨Al, capl, R.pairs, R.e, .slice Ar (Tail (F ++ cs)).length capr, rfl, hl, hkp, .inl ⟨?_, ?_, ?_⟩, ?_, by omega, fun _ => ?_, fun h => absurd h0 h⟩
      · rw [ho]; exact e0
      · rw [ho]; rw [ht, Int.natCast_add]; exact hed'
      · rw [ht]; exact Bk.own_zero hown'
      · rw [ht]; exact fun x hx => (Bk.own_blk hown' hx).1
      · rw [ho]; exact ⟨rfl, rfl⟩
    · refine ⟨Al, capl, R.pairs, R.e, .slice none 0 0, rfl, hl, hkp, .inr ⟨?_, rfl, _, _, _, _, _, hed'⟩, (fun x hx => by cases hx), by omega, fun _ => ?_, fun h => absurd h0 h⟩
      · rw [ho]; exact e1
      · rw [ho]; exact ⟨rfl, rfl⟩
  · refine (C4.Feed_ended g v L f N b (.slice A n cap) w hed).mono ?_
    rintro en w' ⟨rfl, rfl⟩
    have ho := C4.Tx.runW_fault (c := F) cs h0
    exact ⟨none, 0, [], 43, .slice none 0 0, rfl, World.ownsRow_nil _ _ _ _, Kept.refl _ _, .inr ⟨by rw [show RunW (F ++ cs) = _ from ho]; exact h0, rfl, _, _, _, _, _, hed⟩, (fun x hx => by cases hx), by simp, fun h => absurd h h0, fun _ => ho⟩
/-- What End answers. -/
def EndSc (g : Nat) (F : List (BitVec 8)) (w : World) (en : Ending) (w' : World) : Prop :=
  ∃ (Al : Option Addr) (capl : Nat) (ps : List (Int × Int)) (e : Int), en = .returned (.tuple #[.slice Al ps.length capl, .int .i64 e]) ∧ w'.ownsRow w.heap.size 127 2 (.slice Al ps.length capl) ps.length (C4.pcs ps) ∧
    Kept (fun x => x = g) w w' ∧ ps.length ≤ 1 ∧ ((RunW F).e = 0 → Told F = (RunW F).pairs ++ ps ∧ EAll F = e)
theorem end_sc {w : World} {g : Nat} {rv : Value} {F : List (BitVec 8)} (h : Sc w g rv F) (hF : F.length ≤ 200000) :
    Calls Tryz.prog 22 #[.pointer (some ⟨g, 0, none⟩)] w (EndSc g F w) := by
  obtain ⟨s1, s2, s3⟩ := sc_sizes F
  rcases h with ⟨h0, hed, hown⟩ | ⟨h0, rfl, v, L, f, N, b, hed⟩
  · obtain ⟨A0, cap0, rfl⟩ := C4.own_size hown
    refine (C4.End_calls g A0 (Tail F).length cap0 w.heap.size (Tail F) (RunW F).k 0 (RunW F).n (RunW F).begun w hed (C4.own_ne_ed hown hed (by decide)) (Bk.own_nil1 hown) (Bk.own_caps hown).1 rfl (by omega) (Nat.le_refl _) (Bk.own_rd hown) (by omega) (by omega)).mono ?_
    rintro en w' ⟨Al, capl, rv', rfl, hl, hk, _⟩
    have hon := C4.Tx.all_told_on (b := F) h0 rfl
    have hpl : (C4.Tx.run (RunW F).n (RunW F).begun (C4.Tx.lasts (Tail F))).pEnd.length ≤ 1 := by
      have h1 := C4.Tx.run_e_pairs (RunW F).n (RunW F).begun (C4.Tx.lasts (Tail F))
      have h2 := C4.Tx.run_k (RunW F).n (RunW F).begun (C4.Tx.lasts (Tail F))
      have h3 : (C4.Tx.lasts (Tail F)).length ≤ 1 := by unfold C4.Tx.lasts; split <;> simp
      have h4 : (C4.Tx.run (RunW F).n (RunW F).begun (C4.Tx.lasts (Tail F))).pEnd.length ≤ (C4.Tx.run (RunW F).n (RunW F).begun (C4.Tx.lasts (Tail F))).pairs.length := by unfold C4.Tx.Run.pEnd; split <;> simp
      omega
    exact ⟨Al, capl, _, _, rfl, hl, Bk.Kept.of_keep hk (fun x hx => by simpa using hx), hpl, fun _ => ⟨hon.1, hon.2.1⟩⟩
  · refine (C4.End_ended g v L f N b w hed).mono ?_
    rintro en w' ⟨rfl, rfl⟩
    exact ⟨none, 0, [], 43, rfl, World.ownsRow_nil _ _ _ _, Kept.refl _ _, by simp, fun h => absurd h h0⟩
/-- A scanner that has told of a fault tells nothing at the end. -/
theorem told_fault {F : List (BitVec 8)} (h : (RunW F).e ≠ 0) : Told F = (RunW F).pairs ∧ EAll F = (RunW F).e := by
  refine ⟨?_, ?_⟩
  · show C4.Tx.told F = _
    unfold C4.Tx.told; rw [if_pos h]
  · show (C4.Tx.all F).eEnd = _
    rw [C4.Tx.all_fault h]
    unfold C4.Tx.Run.eEnd; rw [if_pos h]
theorem sc_new (w : World) : Sc (w.alloc (.cells #[.slice none 0 0, .int .i64 0, .int .i64 0, .int .i64 0, .bool false, .bool false] 132)) w.heap.size (.slice none 0 0) [] :=
  .inl ⟨rfl, heap_alloc_new _ _, World.ownsRow_nil _ _ _ _⟩
theorem pEnd_le (b : List (BitVec 8)) : (C4.Tx.all b).pEnd.length ≤ b.length + 1 := by
  have h1 := C4.Tx.run_e_pairs 0 false (C4.Tx.lines b)
  have h2 := C4.Tx.run_k 0 false (C4.Tx.lines b)
  have h3 : (C4.Tx.lines b).length ≤ b.length + 1 := by
    have := C4.Tx.whole_tail_length b
    unfold C4.Tx.lines C4.Tx.lasts; split <;> simp <;> omega
  have h4 : (C4.Tx.all b).pEnd.length ≤ (C4.Tx.all b).pairs.length := by unfold C4.Tx.Run.pEnd; split <;> simp
  have h5 : (C4.Tx.all b).pairs.length ≤ (C4.Tx.lines b).length := Nat.le_trans h1 h2
  omega
theorem ch_le (n : Int) : ∀ ls : List (List (BitVec 8)), (C4.Tx.chRun n ls).cs.length ≤ ls.length
  | [] => Nat.le_refl _
  | l :: ls => by
    have ih := ch_le n ls
    rw [C4.Tx.chRun]
    split
    · simp; omega
    · split
      · simp
      · simp; omega
theorem out_le (n : Int) (b : List (BitVec 8)) : (C4.Tx.chRun n (C4.Tx.pieces b)).out.length ≤ b.length + 1 := by
  have h1 := ch_le n (C4.Tx.pieces b)
  have h2 : (C4.Tx.pieces b).length ≤ b.length + 1 := by
    have := C4.Tx.whole_tail_length b
    unfold C4.Tx.pieces; simp; omega
  unfold C4.Tx.CRun.out; split
  · omega
  · simp
theorem printF_len (n : Int) (hn : -9223372036854775808 ≤ n ∧ n ≤ 9223372036854775807) (ps : List (Int × Int)) (hps : ∀ p ∈ ps, (-9223372036854775808 ≤ p.1 ∧ p.1 ≤ 9223372036854775807) ∧ -9223372036854775808 ≤ p.2 ∧ p.2 ≤ 9223372036854775807) : (C4.Tx.printF n ps).1.length ≤ 100 + 45 * ps.length := by
  have hp : ∀ (ps : List (Int × Int)) (bs : List (BitVec 8)), (∀ p ∈ ps, (-9223372036854775808 ≤ p.1 ∧ p.1 ≤ 9223372036854775807) ∧ -9223372036854775808 ≤ p.2 ∧ p.2 ≤ 9223372036854775807) → (C4.Tx.prF n bs ps).1.length ≤ bs.length + 45 * ps.length := by
    intro ps
    induction ps with
    | nil => intro bs _; simp [C4.Tx.prF]
    | cons p ps ih =>
      intro bs h
      rw [C4.Tx.prF]
      split
      · simp
      · have h1 := h p (by simp)
        have := C4.Tx.rowF2_length bs p.1 p.2 (Lib.itoa_length_le _ h1.1.1 h1.1.2) (Lib.itoa_length_le _ h1.2.1 h1.2.2)
        have := ih (C4.Tx.rowF bs [p.1, p.2]) (fun q hq => h q (by simp [hq]))
        simp; omega
  unfold C4.Tx.printF
  split
  · simp
  · have h1 := hp ps (C4.Tx.rowF C4.Tx.vertices [n]) hps
    have h2 : (C4.Tx.rowF C4.Tx.vertices [n]).length ≤ 100 := by
      unfold C4.Tx.rowF C4.Tx.rowF
      have := C4.Tx.sepF_length C4.Tx.vertices
      have hd := Lib.itoa_length_le n hn.1 hn.2
      rw [List.length_append, List.length_append, C4.Tx.digs_length]
      have : C4.Tx.vertices.length = 8 := rfl
      simp; omega
    omega
end Go.Proofs.YtmeoafodcniliaaGreatDoor
