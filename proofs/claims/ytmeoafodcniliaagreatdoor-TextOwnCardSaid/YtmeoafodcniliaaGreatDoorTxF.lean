/- pairs in memory; (*Edges).Feed -/
import Derived.Test.YtmeoafodcniliaaGreatDoorTxC
namespace Go.Proofs.YtmeoafodcniliaaGreatDoor.C4
open Go.RowKit
set_option linter.unusedSimpArgs false
set_option linter.unusedVariables false
theorem own_size {w : World} {base s : Nat} {t : TypeId} {v : Value} {n : Nat} {xs : List Value} (h : w.ownsRow base t s v n xs) : ∃ A cap, v = .slice A n cap := by
  rcases h.2 with ⟨rfl, rfl⟩ | ⟨g, cap, cur, rfl, _⟩
  · exact ⟨_, _, rfl⟩
  · exact ⟨_, _, rfl⟩
theorem own_below_s {w w' : World} {base s : Nat} {t : TypeId} {v : Value} {n : Nat} {xs : List Value} {B : Nat} (h : w.ownsRow base t s v n xs) (hb : Below B w w') (hB : w.heap.size ≤ B) : w'.ownsRow base t s v n xs :=
  h.kept (row := none) ⟨hb.os, hb.tape, hb.output, hb.size, fun k hk _ => hb.block k (Nat.lt_of_lt_of_le hk hB)⟩ (by cases hv : v.ownBlock <;> simp)
theorem own_keep_s {w w' : World} {base s : Nat} {t : TypeId} {v : Value} {n : Nat} {xs : List Value} {ks : List Nat} (ho : w.ownsRow base t s v n xs) (hk : Keep ks w w') (hn : ∀ g, v.ownBlock = some g → g ∉ ks) : w'.ownsRow base t s v n xs := by
  obtain ⟨h1, h2⟩ := ho
  refine ⟨h1, ?_⟩
  rcases h2 with h2 | ⟨g, cap, cur, h2, h3, h4, h5⟩
  · exact .inl h2
  · exact .inr ⟨g, cap, cur, h2, h3, (hk.block g (lt_heap h4) (hn g (by rw [h2]; rfl))).trans h4, h5⟩
theorem own_base_s {w : World} {base base' s : Nat} {t : TypeId} {v : Value} {n : Nat} {xs : List Value} (h : w.ownsRow base t s v n xs) (hb : base' ≤ base) : w.ownsRow base' t s v n xs := by
  obtain ⟨h1, h2⟩ := h
  refine ⟨h1, ?_⟩
  rcases h2 with h2 | ⟨g, cap, cur, h2, h3, h4, h5⟩
  · exact .inl h2
  · exact .inr ⟨g, cap, cur, h2, by omega, h4, h5⟩
theorem own_drawN {w : World} {base s : Nat} {t : TypeId} {v : Value} {n : Nat} {xs : List Value} (h : w.ownsRow base t s v n xs) (k : Nat) : (w.drewN k).ownsRow base t s v n xs := h
/-- The block of an owned row lies from its base on. -/
theorem own_blk {w : World} {base s : Nat} {t : TypeId} {v : Value} {n : Nat} {xs : List Value} (h : w.ownsRow base t s v n xs) {g : Nat} (hg : v.ownBlock = some g) : base ≤ g ∧ g < w.heap.size := by
  rcases h.2 with ⟨h2, _⟩ | ⟨k, cap, cur, h2, h3, h4, _⟩
  · rw [h2] at hg; cases hg
  · rw [h2] at hg; injection hg with hg; subst hg; exact ⟨h3, lt_heap h4⟩
theorem own_ne_ed {w : World} {base s : Nat} {t : TypeId} {A : Option Addr} {k cap : Nat} {n : Nat} {xs : List Value} {g : Nat} {rv : Value} {line fault N : Int} {b e : Bool} (h : w.ownsRow base t s (.slice A k cap) n xs) (hs : EdIs w g rv line fault N b e) (ht : t ≠ 132) : ∀ a, A = some a → a.block ≠ g := by
  rintro a rfl rfl
  rcases h.2 with ⟨h2, _⟩ | ⟨k, cap, cur, h2, h3, h4, _⟩
  · cases h2
  · injection h2 with h2; injection h2 with h2; subst h2
    unfold EdIs at hs
    rw [hs] at h4
    injection h4 with h4; injection h4 with _ h4
    exact ht h4.symm
/-- The cells of pairs. -/
def pcs (ps : List (Int × Int)) : List Value := ps.flatMap fun p => [.int .i64 p.1, .int .i64 p.2]
theorem pcs_append (a b : List (Int × Int)) : pcs (a ++ b) = pcs a ++ pcs b := by unfold pcs; rw [List.flatMap_append]
theorem pcs_length (a : List (Int × Int)) : (pcs a).length = a.length * 2 := by
  induction a with
  | nil => rfl
  | cons p a ih => rw [show pcs (p :: a) = [.int .i64 p.1, .int .i64 p.2] ++ pcs a from rfl, List.length_append, ih]; simp; omega
theorem infoPa : (Tryz.prog.info? 127).map (fun i => (i.zero, i.size, i.bytes)) = some (some (.agg #[.int .i64 0, .int .i64 0]), 2, 16) := by kernel_rfl
theorem descPas : Tryz.prog.underlying 23 = some (.slice 127) := by kernel_rfl
/-- How long the rest of a scanner is. -/
def restLen (g : Nat) (w : World) : Nat := match w.cell? ⟨g, 0, none⟩ with | some (.slice _ n _) => n | _ => 0
theorem EdIs.restLen {w : World} {g : Nat} {A : Option Addr} {k cap : Nat} {line fault n : Int} {b e : Bool} (h : EdIs w g (.slice A k cap) line fault n b e) : restLen g w = k := by unfold Go.Proofs.YtmeoafodcniliaaGreatDoor.C4.restLen; rw [h.c0]
theorem restLen_of {w : World} {g : Nat} {A : Option Addr} {n cap : Nat} (h : w.cell? ⟨g, 0, none⟩ = some (.slice A n cap)) : restLen g w = n := by unfold restLen; rw [h]
theorem keep_over {ks os : List Nat} {a b c : World} (h : Keep ks a b) (k : Keep os b c) (ho : ∀ x ∈ os, a.heap.size ≤ x) : Keep ks a c :=
  ⟨k.os.trans h.os, k.tape.trans h.tape, k.output.trans h.output, Nat.le_trans h.size k.size, fun i hi hn => (k.block i (Nat.lt_of_lt_of_le hi h.size) (fun hm => by have := ho i hm; omega)).trans (h.block i hi hn)⟩
theorem rd_over {w w' : World} {B : Nat} {A : Option Addr} {vs : List Value} {os : List Nat} (h : Rd w B A vs) (hB : B ≤ w.heap.size) (hk : Keep os w w') (ho : ∀ x ∈ os, B ≤ x) : Rd w' B A vs := by
  intro k v hv
  obtain ⟨b, off, he, hb, hc⟩ := h k v hv
  refine ⟨b, off, he, hb, ?_⟩
  have h1 := hk.block b (Nat.lt_of_lt_of_le hb hB) (fun hm => by have := ho b hm; omega)
  rw [← hc]
  simp only [World.cell?]
  rw [h1]
theorem rd_take {w : World} {B : Nat} {A : Option Addr} {bs : List (BitVec 8)} (i : Nat) (h : Rd w B A (bs.map V8)) : Rd w B A ((bs.take i).map V8) := by
  intro k v hv
  rw [List.getElem?_map, List.getElem?_take] at hv
  split at hv
  · exact h k v (by rw [List.getElem?_map]; exact hv)
  · cases hv
theorem clone_calls (A : Option Addr) (n cap B : Nat) (bs : List (BitVec 8)) (w : World) (hn : n = bs.length) (hm : n ≤ 1099511627776) (hnil : A = none → n = 0 ∧ cap = 0) (hr : Rd w B A (bs.map V8)) :
    Calls Tryz.prog 70 #[.slice A n cap] w fun e w' => ∃ A' cap', e = .returned (.slice A' n cap') ∧ w'.ownsRow w.heap.size 5 1 (.slice A' n cap') n (bs.map V8) ∧ Below w.heap.size w w' := by
  cases A with
  | none =>
    obtain ⟨rfl, rfl⟩ := hnil rfl
    have : bs = [] := List.eq_nil_of_length_eq_zero hn.symm
    subst this
    refine (Tryz.bytes_Clone_nil 0 0 w).mono ?_
    rintro e w' ⟨rfl, rfl⟩
    exact ⟨none, 0, rfl, World.ownsRow_nil _ _ _ _, Below.refl _ _⟩
  | some a =>
    refine (Tryz.bytes_Clone_at a n cap (bs.map fun b => (n8 b : Int)) w (by simp; omega) (by omega) ?_).mono ?_
    · intro i hi
      have hb : bs[i]? = some (bs[i]'(by omega)) := List.getElem?_eq_getElem _
      obtain ⟨b, off, he, _, hc⟩ := hr i (V8 (bs[i]'(by omega))) (by rw [List.getElem?_map, hb]; rfl)
      injection he with he; subst he
      rw [Addr.add_lit, hc]
      simp [List.getD, hb]
    · rintro e w' ⟨v', rfl, hown, _, hb⟩
      rw [show (bs.map fun b => (n8 b : Int)).map (Value.int .u8) = bs.map V8 by rw [List.map_map]; rfl] at hown
      obtain ⟨A', cap', rfl, _⟩ := own_form hown
      exact ⟨A', cap', rfl, hown, hb⟩
set_option maxHeartbeats 8000000 in
set_option maxRecDepth 20000 in
theorem Feed_calls (g : Nat) (A0 : Option Addr) (n0 cap0 base0 : Nat) (r0 : List (BitVec 8)) (L fault N : Int) (b : Bool) (A : Option Addr) (n cap B : Nat) (cs : List (BitVec 8)) (w : World)
    (hs : EdIs w g (.slice A0 n0 cap0) L fault N b false) (hown : w.ownsRow base0 5 1 (.slice A0 n0 cap0) n0 (r0.map V8)) (hg0 : ∀ a, A0 = some a → a.block ≠ g) (hb0 : base0 ≤ w.heap.size)
    (hn : n = cs.length) (hm : n ≤ 274877906944) (hcap : n ≤ cap) (hnil : A = none → n = 0 ∧ cap = 0) (hB : B ≤ w.heap.size) (hr : Rd w B A (cs.map V8)) (hm0 : n0 ≤ 274877906944) (hl0 : 0 ≤ L) (hl1 : L ≤ 274877906944) :
    Calls Tryz.prog 15 #[.pointer (some ⟨g, 0, none⟩), .slice A n cap] w fun en w' =>
      ∃ Al capl, en = .returned (.tuple #[.slice Al (Tx.run N b (Tx.whole (r0 ++ cs))).pairs.length capl, .int .i64 (Tx.run N b (Tx.whole (r0 ++ cs))).e]) ∧
        w'.ownsRow w.heap.size 127 2 (.slice Al (Tx.run N b (Tx.whole (r0 ++ cs))).pairs.length capl) (Tx.run N b (Tx.whole (r0 ++ cs))).pairs.length (pcs (Tx.run N b (Tx.whole (r0 ++ cs))).pairs) ∧
        Keep (g :: (Value.slice A0 n0 cap0).ownBlock.toList) w w' ∧
        (((Tx.run N b (Tx.whole (r0 ++ cs))).e = 0 ∧ ∃ Ar capr, EdIs w' g (.slice Ar (Tx.tail (r0 ++ cs)).length capr) (L + (Tx.run N b (Tx.whole (r0 ++ cs))).k) fault (Tx.run N b (Tx.whole (r0 ++ cs))).n (Tx.run N b (Tx.whole (r0 ++ cs))).begun false ∧
            w'.ownsRow w.heap.size 5 1 (.slice Ar (Tx.tail (r0 ++ cs)).length capr) (Tx.tail (r0 ++ cs)).length ((Tx.tail (r0 ++ cs)).map V8)) ∨
          ((Tx.run N b (Tx.whole (r0 ++ cs))).e ≠ 0 ∧ ∃ rv, EdIs w' g rv (L + (Tx.run N b (Tx.whole (r0 ++ cs))).k) (L + (Tx.run N b (Tx.whole (r0 ++ cs))).k) (Tx.run N b (Tx.whole (r0 ++ cs))).n (Tx.run N b (Tx.whole (r0 ++ cs))).begun true)) := by
  have hgl := hs.lt
  obtain ⟨i8, h8, h80, h81, h82⟩ := info_parts infoU8
  have H8 := Lib.hid h8
  have c0 := hs.c0; have c5 := hs.c5; have f0 := hs.f 0
  have hn0 : n0 = r0.length := by obtain ⟨_, _, _, _, _, h⟩ := own_form hown; simpa using h.symm
  have Hs := Lib.hid hs; have Hown := Lib.hid hown; have Hr := Lib.hid hr; have Hn := Lib.hid hn; have Hnil := Lib.hid hnil; have Hn0 := Lib.hid hn0
  clear hs hown hr hn hnil h8 hn0
  go_enter Tryz.func15, Tryz.ntmps15
  go_wp2_with (at_builtin; refine wpList_append_rd rfl _ _ 22 rfl base0 5 i8 _ 1 descU8s H8.out h80 h81 h82 rfl _ n0 (r0.map V8) rfl Hown.out B A n cap (cs.map V8) rfl (by rw [List.length_map]; exact Hn.out) Hnil.out Hr.out (v8_one cs) (by unfold maxLen; omega) (by omega) hb0 ?_)
  intro v1 w1 hown1 hg1
  rw [← List.map_append] at hown1
  obtain ⟨A1, cap1, rfl, hc1, hm1, _⟩ := own_form hown1
  have hs1 := Hs.out.keep (Keep.grown hg1) (by
    intro hm
    cases A0 with
    | none => simp [Value.ownBlock] at hm
    | some a => simp [Value.ownBlock] at hm; exact hg0 a rfl hm.symm)
  have hk1 : Keep (g :: (Value.slice A0 n0 cap0).ownBlock.toList) w w1 := (Keep.grown hg1).more (fun k _ h => List.mem_cons_of_mem _ h)
  have hA1 := own_ne_ed hown1 hs1 (by decide)
  have f1 := hs1.f 0; have c1 := hs1.c0
  have hsz1 := hg1.size
  have hT : (r0 ++ cs).length = n0 + n := by rw [List.length_append, Hn0.out, Hn.out]
  have Hs1 := Lib.hid hs1; have Hk1 := Lib.hid hk1; have Hown1 := Lib.hid hown1; have HT := Lib.hid hT
  clear hs1 hk1 hown1 hg1 hT c0 c5 f0
  obtain ⟨T, hTd⟩ : ∃ T, r0 ++ cs = T := ⟨_, rfl⟩
  rw [hTd] at Hown1 HT
  have HTd := Lib.hid hTd
  clear hTd
  go_wp2_with fail
  have hs2 := Hs1.out.s0 (.slice A1 (n0 + n) cap1)
  have hk2 : Keep (g :: (Value.slice A0 n0 cap0).ownBlock.toList) w (w1.setCell ⟨g, 0, none⟩ (.slice A1 (n0 + n) cap1)) := Hk1.out.trans ((Keep.set w1 0 _).more (fun k _ h => by simp at h; subst h; exact List.mem_cons_self))
  have hown2 : (w1.setCell ⟨g, 0, none⟩ (.slice A1 (n0 + n) cap1)).ownsRow base0 5 1 (.slice A1 (n0 + n) cap1) (n0 + n) (T.map V8) := own_keep Hown1.out (Keep.set w1 0 _) (by
    intro k hk hm
    simp at hm; subst hm
    cases A1 with
    | none => simp [Value.ownBlock] at hk
    | some a => simp [Value.ownBlock] at hk; exact hA1 a rfl hk)
  have hsz2 : (w1.setCell ⟨g, 0, none⟩ (.slice A1 (n0 + n) cap1)).heap.size = w1.heap.size := by simp [World.setCell]
  generalize w1.setCell ⟨g, 0, none⟩ (.slice A1 (n0 + n) cap1) = w2 at *
  have hnil1 := own_nil hown2
  have Hs2 := Lib.hid hs2; have Hk2 := Lib.hid hk2; have Hr2 := Lib.hid (own_rd hown2); have Hnil1 := Lib.hid hnil1
  clear hs2 hk2 hown2 Hs1 Hk1 Hown1 f1 c1 hnil1 Hs Hown Hr Hnil Hn Hn0 hsz1
  go_loopw [6] (fun l wr => ∃ (P : List (Int × Int)) (N' : Int) (b' : Bool) (j : Nat) (Ar : Option Addr) (nr capr : Nat) (rem : List (BitVec 8)),
    wr.ownsRow w2.heap.size 127 2 l P.length (pcs P) ∧ EdIs wr g (.slice Ar nr capr) (L + j) fault N' b' false ∧ Rd wr w2.heap.size Ar (rem.map V8) ∧ nr = rem.length ∧ nr ≤ capr ∧ (Ar = none → nr = 0 ∧ capr = 0) ∧ (∀ a, Ar = some a → a.block ≠ g) ∧ Keep [g] w2 wr ∧ j + rem.length ≤ T.length ∧ P.length ≤ j ∧
    Tx.run N b (Tx.whole T) = ⟨P ++ (Tx.run N' b' (Tx.whole rem)).pairs, (Tx.run N' b' (Tx.whole rem)).e, j + (Tx.run N' b' (Tx.whole rem)).k, (Tx.run N' b' (Tx.whole rem)).n, (Tx.run N' b' (Tx.whole rem)).begun⟩ ∧ Tx.tail T = Tx.tail rem) (fun _ wr => restLen g wr)
  case atStart =>
    exact ⟨[], N, b, 0, A1, n0 + n, cap1, T, World.ownsRow_nil w2 _ _ _, by simpa using Hs2.out, Hr2.out, HT.out.symm, hc1, Hnil1.out, hA1, Keep.refl _ _, by omega, by simp, by simp, rfl⟩
  case round =>
    obtain ⟨P, N', b', j, Ar, nr, capr, rem, hl, hsr, hrr, hnr, hcr, hnilr, hAr, hkr, hjl, hPj, hrun, htail⟩ := hrel
    obtain ⟨Al, capl, rfl⟩ := own_size hl
    have d0 := hsr.c0
    have Hd0 := Lib.hid d0
    have hsz := hkr.size
    have Hl := Lib.hid hl; have Hsr := Lib.hid hsr; have Hrr := Lib.hid hrr; have Hnr := Lib.hid hnr; have Hnilr := Lib.hid hnilr; have Hkr := Lib.hid hkr; have Hrun := Lib.hid hrun; have Htail := Lib.hid htail
    have hnrb : nr ≤ 549755813888 := by have := HT.out; omega
    have hjb : j ≤ 549755813888 := by have := HT.out; omega
    clear hl hsr hrr hnr hnilr hkr hrun htail
    go_wp2_with fail
    have hb3 : Below wr.heap.size wr (wr.alloc (.cells #[.int .u8 10] 5)) := (Below.refl _ _).alloc (Nat.le_refl _) _
    have hc3 : (wr.alloc (.cells #[.int .u8 10] 5)).cell? ⟨wr.heap.size, 0, none⟩ = some (.int .u8 10) := by rw [World.cell?_alloc_new]; rfl
    have hs3 : (wr.alloc (.cells #[.int .u8 10] 5)).heap.size = wr.heap.size + 1 := by simp
    generalize wr.alloc (.cells #[.int .u8 10] 5) = w3 at *
    have hr3 := Hrr.out.below hb3 hsz
    refine (cut_calls Ar nr capr w2.heap.size wr.heap.size 1 rem w3 Hnr.out (by omega) hcr Hnilr.out hr3 hc3).mono ?_
    rintro en w4 ⟨⟨q4, rfl⟩, hans⟩
    have hs4 : EdIs (w3.drewN q4) g (.slice Ar nr capr) (L + j) fault N' b' false := Hsr.out.below (below_drewN hb3 q4) Hsr.out.lt
    have hk4 : Keep [g] w2 (w3.drewN q4) := Hkr.out.trans (Keep.of_below (below_drewN hb3 q4))
    have hr4 : Rd (w3.drewN q4) w2.heap.size Ar (rem.map V8) := hr3
    have hl4 : (w3.drewN q4).ownsRow w2.heap.size 127 2 (.slice Al P.length capl) P.length (pcs P) := own_below_s Hl.out (below_drewN hb3 q4) (Nat.le_refl _)
    have hz4 : (w3.drewN q4).heap.size = wr.heap.size + 1 := hs3
    have d4 := hs4.c0
    generalize w3.drewN q4 = w4 at *
    have Hs4 := Lib.hid hs4; have Hk4 := Lib.hid hk4; have Hr4 := Lib.hid hr4; have Hl4 := Lib.hid hl4
    clear hs4 hk4 hr4 hl4 hb3 hc3 hr3 Hsr Hkr Hrr Hl d0 hs3
    rcases hans with ⟨hnl, rfl⟩ | ⟨i, A2, cap2, hnl, rfl, hc2, hA2, hr2, hblk⟩
    · obtain ⟨hw0, ht0⟩ := Tx.whole_none hnl
      have Hrun2 := Lib.hid (show Tx.run N b (Tx.whole T) = ⟨P, 0, j, N', b'⟩ by rw [Hrun.out, hw0]; simp [Tx.run])
      have Htail2 := Lib.hid (show Tx.tail T = rem by rw [Htail.out, ht0])
      have f4 := Hs4.out.f 0
      clear hw0 ht0 hnl Hrun Htail
      go_wp2_with fail
      refine (clone_calls Ar nr capr w2.heap.size rem w4 Hnr.out (by omega) Hnilr.out Hr4.out).mono ?_
      rintro en w5 ⟨A5, cap5, rfl, hown5, hb5⟩
      have hs5 := Hs4.out.below hb5 Hs4.out.lt
      have hl5 := own_below_s Hl4.out hb5 (Nat.le_refl _)
      have hk5 := Hk4.out.trans (Keep.of_below (ks := [g]) hb5)
      have d5 := hs5.c0; have f5 := hs5.f 0
      have h5g := own_ne_ed hown5 hs5 (by decide)
      have hlg := own_ne_ed hl5 hs5 (by decide)
      have Hs5 := Lib.hid hs5; have Hl5 := Lib.hid hl5; have Hk5 := Lib.hid hk5; have Hown5 := Lib.hid hown5
      clear hs5 hl5 hk5 hown5 hb5 d4 f4
      go_wp2_with fail
      go_ret2
      rw [HTd.out, Hrun2.out, Htail2.out]
      refine ⟨_, _, rfl, ?_, ?_, Or.inl ⟨rfl, A5, cap5, ?_, ?_⟩⟩
      · refine own_base_s (own_keep_s Hl5.out (Keep.set w5 0 _) ?_) (by have := Hk2.out.size; omega)
        intro k hk hm
        simp at hm; subst hm
        cases Al with
        | none => simp [Value.ownBlock] at hk
        | some a => simp [Value.ownBlock] at hk; exact hlg a rfl hk
      · exact Hk2.out.trans ((Hk5.out.trans (Keep.set w5 0 _)).more fun k _ h => by simp at h; subst h; exact List.mem_cons_self)
      · rw [← Hnr.out]; exact Hs5.out.s0 _
      · rw [← Hnr.out]
        refine own_base_s (own_keep_s Hown5.out (Keep.set w5 0 _) ?_) (by have := Hk2.out.size; omega)
        intro k hk hm
        simp at hm; subst hm
        cases A5 with
        | none => simp [Value.ownBlock] at hk
        | some a => simp [Value.ownBlock] at hk; exact h5g a rfl hk
    · obtain ⟨hw0, ht0⟩ := Tx.whole_some hnl
      have hil : i < rem.length := Tx.nlIdx_lt hnl
      have hin : i < nr := by rw [Hnr.out]; exact hil
      have hlg := own_ne_ed Hl4.out Hs4.out (by decide)
      have Hsc := Lib.hid (scan_calls g Ar i capr w2.heap.size (rem.take i) (.slice Ar nr capr) (L + j) fault N' b' false w4 (by simp; omega) (by omega) (by omega) (fun h => by have := Hnilr.out h; omega) (by omega) (rd_take i Hr4.out) hAr (by omega) (by omega) Hs4.out)
      obtain ⟨S, hS⟩ : ∃ S, S = Tx.scan N' b' (Tx.words (rem.take i)) := ⟨_, rfl⟩
      rw [← hS] at Hsc
      have Hrw := Lib.hid (show Tx.run N' b' (Tx.whole rem) = if S.e ≠ 0 then ⟨[], S.e, 1, S.n, S.begun⟩ else ⟨(if S.says then [(S.u, S.v)] else []) ++ (Tx.run S.n S.begun (Tx.whole (rem.drop (i + 1)))).pairs, (Tx.run S.n S.begun (Tx.whole (rem.drop (i + 1)))).e, (Tx.run S.n S.begun (Tx.whole (rem.drop (i + 1)))).k + 1, (Tx.run S.n S.begun (Tx.whole (rem.drop (i + 1)))).n, (Tx.run S.n S.begun (Tx.whole (rem.drop (i + 1)))).begun⟩ by rw [hw0, hS]; rfl)
      have Ht2 := Lib.hid (show Tx.tail T = Tx.tail (rem.drop (i + 1)) by rw [Htail.out, ht0])
      have Hr2 := Lib.hid hr2; have Hblk := Lib.hid hblk; have Hlg := Lib.hid hlg; have HA2 := Lib.hid hA2
      obtain ⟨su, sv, says, se, sn, sb⟩ := S
      dsimp only at Hsc Hrw
      clear hw0 ht0 hnl hS Htail hr2 hblk hlg hA2
      go_wp2_with fail
      refine (Hsc.out).mono ?_
      rintro en w5 ⟨rfl, hs5, hk5⟩
      have hl5 := own_keep_s Hl4.out hk5 (by
        intro k hk hm
        simp at hm; subst hm
        cases Al with
        | none => simp [Value.ownBlock] at hk
        | some a => simp [Value.ownBlock] at hk; exact Hlg.out a rfl hk)
      have hr5 := rd_keep Hr2.out (by omega) hk5 (fun a ha => by simp; obtain ⟨a0, h1, h2⟩ := Hblk.out a ha; rw [h2]; exact hAr a0 h1)
      have hk5' := Hk4.out.trans hk5
      have hsz5 := hk5.size
      have Hs5 := Lib.hid hs5; have Hl5 := Lib.hid hl5; have Hr5 := Lib.hid hr5; have Hk5 := Lib.hid hk5'
      clear hs5 hk5 hl5 hr5 hk5' Hs4 Hl4 Hr4 Hk4 Hsc Hr2
      have hs6 : EdIs (w5.alloc (.cells #[.int .i64 su, .int .i64 sv] 127)) g (.slice Ar nr capr) (L + j + 1) fault sn sb false := Hs5.out.below ((Below.refl w5.heap.size w5).alloc (Nat.le_refl _) _) Hs5.out.lt
      have hp6 : PaIs (w5.alloc (.cells #[.int .i64 su, .int .i64 sv] 127)) w5.heap.size (su, sv) := heap_alloc_new _ _
      have hb6 : Below w5.heap.size w5 (w5.alloc (.cells #[.int .i64 su, .int .i64 sv] 127)) := (Below.refl _ _).alloc (Nat.le_refl _) _
      have hl6 : (w5.alloc (.cells #[.int .i64 su, .int .i64 sv] 127)).ownsRow w2.heap.size 127 2 (.slice Al P.length capl) P.length (pcs P) := own_below_s Hl5.out hb6 (Nat.le_refl _)
      have hk6 : Keep [g] w2 (w5.alloc (.cells #[.int .i64 su, .int .i64 sv] 127)) := Hk5.out.trans (Keep.of_below hb6)
      have hAlg : ∀ k, (Value.slice Al P.length capl).ownBlock = some k → k ∉ [g] := by
        intro k hk hm
        simp at hm; subst hm
        cases Al with
        | none => simp [Value.ownBlock] at hk
        | some a => simp [Value.ownBlock] at hk; exact Hlg.out a rfl hk
      by_cases he : se = 0
      · subst he
        have hr6 : Rd (w5.alloc (.cells #[.int .i64 su, .int .i64 sv] 127)) w2.heap.size A2 ((rem.drop (i + 1)).map V8) := Hr5.out.below hb6 (by omega)
        have hgl5 := Hs5.out.lt
        have HR := Lib.hid (show Tx.run N b (Tx.whole T) = ⟨(P ++ if says = true then [(su, sv)] else []) ++ (Tx.run sn sb (Tx.whole (rem.drop (i + 1)))).pairs, (Tx.run sn sb (Tx.whole (rem.drop (i + 1)))).e, (j + 1) + (Tx.run sn sb (Tx.whole (rem.drop (i + 1)))).k, (Tx.run sn sb (Tx.whole (rem.drop (i + 1)))).n, (Tx.run sn sb (Tx.whole (rem.drop (i + 1)))).begun⟩ by
          rw [Hrun.out, Hrw.out, if_neg (by simp)]
          simp only [List.append_assoc, Tx.Run.mk.injEq, and_true, true_and]
          omega)
        have d0 := hs6.c0; have f0 := hs6.f 0
        have Hr6 := Lib.hid hr6
        have Hl6 := Lib.hid hl6; have Hp6 := Lib.hid hp6; have Hs6 := Lib.hid hs6; have Hk6 := Lib.hid hk6; have HAlg := Lib.hid hAlg
        clear hl6 hk6 hp6 hs6 hr6 hb6 hAlg
        cases says with
        | false =>
          have hb7 : Below w5.heap.size (w5.setCell ⟨g, 0, none⟩ (.slice A2 (nr - (i + 1)) cap2)) ((w5.setCell ⟨g, 0, none⟩ (.slice A2 (nr - (i + 1)) cap2)).alloc (.cells #[.int .i64 su, .int .i64 sv] 127)) := (Below.refl _ _).alloc (by simp [World.setCell]) _
          have Hs7 := Lib.hid ((Hs5.out.s0 (.slice A2 (nr - (i + 1)) cap2)).below hb7 hgl5)
          have Hl7 := Lib.hid (own_below_s (own_keep_s Hl5.out (Keep.set w5 0 (.slice A2 (nr - (i + 1)) cap2) (g := g)) HAlg.out) hb7 (by simp [World.setCell]))
          have Hk7 := Lib.hid ((Hk5.out.trans (Keep.set w5 0 (.slice A2 (nr - (i + 1)) cap2) (g := g))).trans (Keep.of_below (ks := [g]) ((Below.refl _ _).alloc (Nat.le_refl _) (.cells #[.int .i64 su, .int .i64 sv] 127))))
          have Hr7 := Lib.hid ((rd_keep Hr5.out (by omega) (Keep.set w5 0 (.slice A2 (nr - (i + 1)) cap2) (g := g)) (fun a ha => by simp; obtain ⟨a0, h1, h2⟩ := Hblk.out a ha; rw [h2]; exact hAr a0 h1)).below hb7 (by omega))
          clear hb7
          go_wp2_with fail
          go_roundw
          case rel =>
            refine ⟨P, sn, sb, j + 1, A2, nr - (i + 1), cap2, rem.drop (i + 1), Hl7.out, ?_, ?_, ?_, hc2, ?_, ?_, Hk7.out, ?_, by omega, ?_, Ht2.out⟩
            · rw [show L + ((j + 1 : Nat) : Int) = L + j + 1 by omega]; exact Hs7.out
            · exact Hr7.out
            · rw [List.length_drop, Hnr.out]
            · intro h; exact absurd h HA2.out
            · intro a ha; obtain ⟨a0, h1, h2⟩ := Hblk.out a ha; rw [h2]; exact hAr a0 h1
            · rw [List.length_drop]; omega
            · rw [HR.out]; simp
          case measure => rw [Hs7.out.restLen, restLen_of Hd0.out]; omega
        | true =>
          have hb8 : Below w5.heap.size w5 ((w5.alloc (.cells #[.int .i64 su, .int .i64 sv] 127)).alloc (.cells #[.int .i64 su, .int .i64 sv] 127)) := ((Below.refl _ _).alloc (Nat.le_refl _) _).alloc (by simp) _
          have hs8 := Hs5.out.below hb8 hgl5
          have hl8 := own_below_s Hl5.out hb8 (Nat.le_refl _)
          have hk8 := Hk5.out.trans (Keep.of_below (ks := [g]) hb8)
          have hr8 := Hr5.out.below hb8 (by omega)
          have hnew : ((w5.alloc (.cells #[.int .i64 su, .int .i64 sv] 127)).alloc (.cells #[.int .i64 su, .int .i64 sv] 127)).heap[w5.heap.size + 1]? = some (.cells #[.int .i64 su, .int .i64 sv] 127 (0, 0)) := by
            have := heap_alloc_new (w5.alloc (.cells #[.int .i64 su, .int .i64 sv] 127)) (.cells #[.int .i64 su, .int .i64 sv] 127)
            simpa using this
          have Hc8 := Lib.hid (show ∀ (j : Nat) (u : Value), [Value.int .i64 su, .int .i64 sv][j]? = some u → ((w5.alloc (.cells #[.int .i64 su, .int .i64 sv] 127)).alloc (.cells #[.int .i64 su, .int .i64 sv] 127)).cell? ((⟨w5.heap.size + 1, 0, none⟩ : Addr).add j) = some u from fun j u hu => by
            rw [Addr.add_lit, Nat.zero_add, cell_heap hnew]; simpa using hu)
          have Hone := Lib.hid (show ∀ u ∈ ([.int .i64 su, .int .i64 sv] : List Value), u.oneCell' = true by intro u hu; simp at hu; rcases hu with rfl | rfl <;> rfl)
          have Hsz8 := Lib.hid (show ((w5.alloc (.cells #[.int .i64 su, .int .i64 sv] 127)).alloc (.cells #[.int .i64 su, .int .i64 sv] 127)).heap.size = w5.heap.size + 2 by simp)
          have Hsb := Lib.hid (show w2.heap.size ≤ ((w5.alloc (.cells #[.int .i64 su, .int .i64 sv] 127)).alloc (.cells #[.int .i64 su, .int .i64 sv] 127)).heap.size by rw [Hsz8.out]; omega)
          have Hgo := Lib.hid (show g ∉ (Value.slice Al P.length capl).ownBlock.toList from fun hm => by have := HAlg.out g (by simpa using hm); simp at this)
          have Hs8 := Lib.hid hs8; have Hl8 := Lib.hid hl8; have Hk8 := Lib.hid hk8; have Hr8 := Lib.hid hr8
          have hPb : P.length ≤ 549755813888 := by omega
          obtain ⟨i0, hi0, hz0, hz1, hz2⟩ := info_parts infoPa
          have Hi := Lib.hid hi0
          clear hb8 hs8 hl8 hk8 hr8 hnew hi0 d0 f0
          go_wp2_with (at_builtin; refine wpList_append_own _ rfl _ _ 23 rfl w2.heap.size 127 i0 _ 2 16 descPas Hi.out hz0 hz1 hz2 rfl (by decide) _ P.length (pcs P) rfl Hl8.out ⟨w5.heap.size + 1, 0, none⟩ 1 1 [.int .i64 su, .int .i64 sv] rfl rfl Hc8.out Hone.out (by unfold maxLen; omega) (by omega) Hsb.out ?_; intro v9 w9 hown9 hg9 _; obtain ⟨A9, cap9, rfl⟩ := own_size hown9; have Hkg := Lib.hid (show Keep ((Value.slice Al P.length capl).ownBlock.toList) _ w9 from Keep.grown hg9); have hs9 := Hs8.out.keep Hkg.out (Hgo.out); have e0 := hs9.c0; have f0 := hs9.f 0; have Hs9 := Lib.hid hs9; have Hown9 := Lib.hid hown9; clear hs9 hown9 hg9)
          go_roundw
          have hlg9 := own_ne_ed Hown9.out Hs9.out (by decide)
          have hos : ∀ x ∈ (Value.slice Al P.length capl).ownBlock.toList, w2.heap.size ≤ x := fun x hx => (own_blk Hl8.out (by simpa using hx)).1
          have hk9 : Keep [g] w2 w9 := keep_over Hk8.out Hkg.out hos
          have hr9 := rd_over Hr8.out Hsb.out Hkg.out hos
          case rel =>
            refine ⟨P ++ [(su, sv)], sn, sb, j + 1, A2, nr - (i + 1), cap2, rem.drop (i + 1), ?_, ?_, ?_, ?_, hc2, ?_, ?_, hk9.trans (Keep.set w9 0 _), ?_, ?_, ?_, Ht2.out⟩
            · rw [List.length_append, pcs_append]
              exact own_keep_s Hown9.out (Keep.set w9 0 _) (by
                intro k hk hm
                simp at hm; subst hm
                cases A9 with
                | none => simp [Value.ownBlock] at hk
                | some a => simp [Value.ownBlock] at hk; exact hlg9 a rfl hk)
            · rw [show L + ((j + 1 : Nat) : Int) = L + j + 1 by omega]; exact Hs9.out.s0 _
            · exact rd_keep hr9 (by have := hk9.size; omega) (Keep.set w9 0 _) (fun a ha => by simp; obtain ⟨a0, h1, h2⟩ := Hblk.out a ha; rw [h2]; exact hAr a0 h1)
            · rw [List.length_drop, Hnr.out]
            · intro h; exact absurd h HA2.out
            · intro a ha; obtain ⟨a0, h1, h2⟩ := Hblk.out a ha; rw [h2]; exact hAr a0 h1
            · rw [List.length_drop]; omega
            · simp; omega
            · rw [HR.out]; simp
          case measure => rw [(Hs9.out.s0 (.slice A2 (nr - (i + 1)) cap2)).restLen, restLen_of Hd0.out]; omega
      · have hne : (se != 0) = true := by simp; exact he
        have HR := Lib.hid (show Tx.run N b (Tx.whole T) = ⟨P, se, j + 1, sn, sb⟩ by rw [Hrun.out, Hrw.out, if_pos he]; simp)
        have He := Lib.hid he
        have d1 := hs6.c1; have d5 := hs6.c5; have d2 := hs6.c2; have f5 := hs6.f 5; have f2 := hs6.f 2
        have Hs7 := Lib.hid ((hs6.s5 true).s2 (L + j + 1))
        have Hl7 := Lib.hid (own_keep_s (own_keep_s hl6 (Keep.set (w5.alloc (.cells #[.int .i64 su, .int .i64 sv] 127)) 5 (.bool true) (g := g)) hAlg) (Keep.set ((w5.alloc (.cells #[.int .i64 su, .int .i64 sv] 127)).setCell ⟨g, 5, none⟩ (.bool true)) 2 (.int .i64 (L + j + 1)) (g := g)) hAlg)
        have Hk7 := Lib.hid ((hk6.trans (Keep.set (w5.alloc (.cells #[.int .i64 su, .int .i64 sv] 127)) 5 (.bool true) (g := g))).trans (Keep.set ((w5.alloc (.cells #[.int .i64 su, .int .i64 sv] 127)).setCell ⟨g, 5, none⟩ (.bool true)) 2 (.int .i64 (L + j + 1)) (g := g)))
        clear he hs6 hp6 hb6 hl6 hk6
        go_wp2_with fail
        go_ret2
        rw [HTd.out, HR.out]
        refine ⟨_, _, rfl, own_base_s Hl7.out (by have := Hk2.out.size; omega), Hk2.out.trans (Hk7.out.more fun k _ h => by simp at h; subst h; exact List.mem_cons_self), Or.inr ⟨He.out, .slice Ar nr capr, ?_⟩⟩
        dsimp only
        rw [show L + ((j + 1 : Nat) : Int) = L + j + 1 by omega]
        exact Hs7.out
end Go.Proofs.YtmeoafodcniliaaGreatDoor.C4
