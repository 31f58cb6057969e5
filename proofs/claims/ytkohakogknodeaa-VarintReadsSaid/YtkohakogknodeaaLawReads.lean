/- VarintReads: the walk -/
import Derived.Test.YtkohakogknodeaaVStep2
import Derived.Test.YtkohakogknodeaaLawBroken
namespace Go.Proofs.Ytkohakogknodeaa
open Go.ChangeShapes Go.WideShapes Go.ChangeAt Go.RowKit
set_option linter.unusedSimpArgs false
set_option linter.unusedVariables false
theorem sizeOp : (Try.prog.info? 40).map (·.size) = some 4 := by kernel_rfl
theorem ld_op (blk off : Nat) (K F L : Int) (S : Bool) (w : World) (h0 : w.cell? ⟨blk, off, none⟩ = some (.int .i64 K)) (h1 : w.cell? ⟨blk, off + 1, none⟩ = some (.int .i64 F)) (h2 : w.cell? ⟨blk, off + 2, none⟩ = some (.int .i64 L))
    (h3 : w.cell? ⟨blk, off + 3, none⟩ = some (.bool S)) : (loadVar 40 ⟨blk, off, none⟩).run Try.prog w = .ok (VO K F L S) w := by
  refine run_loadVar_mid w blk off _ [.int .i64 K, .int .i64 F, .int .i64 L, .bool S] _ ?_ Try.underlying40 rfl (by rw [sizeOp]; rfl)
  intro j v hv
  match j, hv with
  | 0, hv => cases hv; exact h0
  | 1, hv => cases hv; exact h1
  | 2, hv => cases hv; exact h2
  | 3, hv => cases hv; exact h3
  | j + 4, hv => cases hv
/-- A load of an Op, by what it answers. -/
def CanOp (w : World) (v : Value) : Prop := ∃ u p, v = .pointer (some p) ∧ (loadVar 40 p).run Try.prog w = .ok u w
noncomputable def opV (w : World) (v : Value) : Value := by
  classical
  exact if h : CanOp w v then h.choose else undef
theorem opV_eq {w : World} {p : Addr} {u : Value} (h : (loadVar 40 p).run Try.prog w = .ok u w) : opV w (.pointer (some p)) = u := by
  have hc : CanOp w (.pointer (some p)) := ⟨u, p, rfl, h⟩
  unfold opV
  rw [dif_pos hc]
  obtain ⟨p', e, h2⟩ := hc.choose_spec
  injection e with e; injection e with e; subst e
  rw [h] at h2
  injection h2 with h2
  exact h2.symm
section
variable {dst : Option Tmp} {ty : TypeId} {pos : String} {af : Array Edge} {gd : Option (Nat × Bool)} {x : Operand} {a : Act} {w : World} {K : Act → World → Prop} {Q : Exit → Act → World → Prop}
theorem load_op (h : CanOp w (a.eval x)) : Oper.wp Try.prog ⟨dst, .load 40 x, ty, pos, af, gd⟩ a w K Q = K (a.put dst (opV w (a.eval x))) w := by
  obtain ⟨u, p, hv, h⟩ := h
  rw [hv, opV_eq h]
  unfold Oper.wp execOp
  simp only [hv, Instr.loadAt, Instr.sureAddr, Sem.run_bind, Sem.run_pure, Result.andThen_ok, h]
  rfl
end
/-- A reader's memory lies above a block that is written. -/
theorem RdrIs.low {T : TypeId} {w w' : World} {base k gx n cap at' : Nat} {A : Option Addr} {bs : List (BitVec 8)} {er : Int} (hr : RdrIs T w base k A n cap bs at' er) (hlt : gx < base) (hu : Upd gx w w') : RdrIs T w' base k A n cap bs at' er := by
  have hk := hr.2.2.2.2
  refine ⟨(hu.block k (lt_heap hr.1) (by simp; omega)).trans hr.1, hr.2.1.kept hu ?_, hr.2.2⟩
  rcases hr.2.1.2 with ⟨h, _⟩ | ⟨i, _, _, h, hb, _⟩
  · injection h with h; subst h; exact Or.inl rfl
  · injection h with h; subst h; right; simp [Value.ownBlock]; omega
theorem own_low {w w' : World} {base gx n cap : Nat} {t : TypeId} {A : Option Addr} {xs : List Value} (ho : w.ownsRow base t 1 (.slice A n cap) n xs) (hlt : gx < base) (hu : Upd gx w w') : w'.ownsRow base t 1 (.slice A n cap) n xs := by
  refine ho.kept hu ?_
  rcases ho.2 with ⟨h, _⟩ | ⟨i, _, _, h, hb, _⟩
  · injection h with h; subst h; exact Or.inl rfl
  · injection h with h; subst h; right; simp [Value.ownBlock]; omega
attribute [local go_sem ↓] load_op
set_option maxHeartbeats 40000000 in
set_option maxRecDepth 20000 in
theorem law_reads (A : Option Addr) (n cap : Nat) (bs : List (BitVec 8)) (A' : Option Addr) (k cap' : Nat) (cs : List (BitVec 8)) (A'' : Option Addr) (m cap'' : Nat) (os : OpA) (w : World) (ha : In8 w A n cap bs) (hb : In8 w A' k cap' cs) (ho : InO w A'' m cap'' os) :
    Calls Try.prog 5 #[.slice A n cap, .slice A' k cap', .slice A'' m cap''] w fun e w' => e = .returned (.bool true) ∧ Below w.heap.size w w' := by
  obtain ⟨hn, hc, hcm, hnil, hr⟩ := ha
  obtain ⟨hk, hkc, hkm, hknil, hkr⟩ := hb
  obtain ⟨ho, hoc, hom, _, hor⟩ := ho
  have Hn := Lib.hid hn; have Hnil := Lib.hid hnil; have Hra := Lib.hid hr
  have Hk := Lib.hid hk; have Hknil := Lib.hid hknil; have Hkr := Lib.hid hkr
  have Ho := Lib.hid ho; have Hor := Lib.hid hor
  unfold maxLen at hcm hkm hom
  clear hn hnil hr hk hknil hkr ho hor
  go_enter Try.func5, Try.ntmps5
  go_wp2_with fail
  refine (first_calls w).mono ?_
  rintro e w1 ⟨rfl, hb1⟩
  have hs1 := hb1.size
  have Hb1 := Lib.hid hb1
  clear hb1
  by_cases hbig : n ≤ 65536
  · have hbi : ¬ (65536 : Int) < (n : Int) := by omega
    by_cases hbig2 : k ≤ 65536
    · have hbi2 : ¬ (65536 : Int) < (k : Int) := by omega
      go_wp2_with fail
      refine (room_calls A n cap w.heap.size bs w1 Hn.out (by omega) Hnil.out hs1 (Hra.out.below Hb1.out (Nat.le_refl _))).mono ?_
      rintro e w2 ⟨A2, cap2, rfl, hown2, hb2⟩
      have hs2 := hb2.size
      have Hb2 := Lib.hid (Hb1.out.trans (hb2.mono hs1))
      obtain ⟨p1, p2⟩ := own_cap hown2
      obtain ⟨gx, rfl⟩ := own_some1 hown2 (by omega)
      have hgx1 := (hown2.lt gx rfl).1
      have hgx2 := (hown2.lt gx rfl).2
      have Hx2 := Lib.hid hown2
      obtain ⟨N, hN⟩ : ∃ N, N = n + 3 := ⟨_, rfl⟩
      rw [← hN] at p1 Hx2 ⊢
      have HN := Lib.hid hN
      have hNn : n + 3 ≤ N := by omega
      have hNb : N ≤ 70000 := by omega
      clear hown2 hb2 hN
      unfold maxLen at p2
      go_wp2_with fail
      refine (room_calls A' k cap' w.heap.size cs w2 Hk.out (by omega) Hknil.out Hb2.out.size (Hkr.out.below Hb2.out (Nat.le_refl _))).mono ?_
      rintro e w3 ⟨A3, cap3, rfl, hown3, hb3⟩
      have hs3 := hb3.size
      have Hb3 := Lib.hid (Hb2.out.trans (hb3.mono (by omega)))
      have Hx3 := Lib.hid (own_below Hx2.out hb3 (Nat.le_refl _))
      obtain ⟨r1, r2⟩ := own_cap hown3
      obtain ⟨gy, rfl⟩ := own_some1 hown3 (by omega)
      have hgy1 := (hown3.lt gy rfl).1
      have hgy2 := (hown3.lt gy rfl).2
      have Hy3 := Lib.hid hown3
      obtain ⟨M, hM⟩ : ∃ M, M = k + 3 := ⟨_, rfl⟩
      rw [← hM] at r1 Hy3 ⊢
      have HM := Lib.hid hM
      have hMk : k + 3 ≤ M := by omega
      have hMb : M ≤ 70000 := by omega
      clear hown3 hb3 hM Hx2
      unfold maxLen at r2
      have q1 : (n : Int) ≤ (N : Int) := by omega
      have q2 : (N : Int) ≤ (cap2 : Int) := by omega
      have q3 : (k : Int) ≤ (M : Int) := by omega
      have q4 : (M : Int) ≤ (cap3 : Int) := by omega
      go_wp2_with fail
      refine (newReader_calls (some ⟨gx, 0, none⟩) n N w3.heap.size bs w3 Hn.out (by omega) (Nat.le_refl _) (rd_prefix (own_rd Hx3.out))).mono ?_
      rintro e w4 ⟨g1, A4, cap4, rfl, hr4, hb4⟩
      have hs4 := hb4.size
      have hg1 : w3.heap.size ≤ g1 := hr4.2.2.2.2
      have hg1l := lt_heap hr4.1
      have Hb4 := Lib.hid (Hb3.out.trans (hb4.mono (by omega)))
      have Hx4 := Lib.hid (own_below Hx3.out hb4 (Nat.le_refl _)); have Hy4 := Lib.hid (own_below Hy3.out hb4 (Nat.le_refl _))
      have Hr4 := Lib.hid hr4
      clear hb4 hr4 Hx3 Hy3
      go_wp2_with fail
      refine (newReader_calls (some ⟨gy, 0, none⟩) k M w4.heap.size cs w4 Hk.out (by omega) (Nat.le_refl _) (rd_prefix (own_rd Hy4.out))).mono ?_
      rintro e w5 ⟨g2, A5, cap5, rfl, hr5, hb5⟩
      have hs5 := hb5.size
      have hg2 : w4.heap.size ≤ g2 := hr5.2.2.2.2
      have hg2l := lt_heap hr5.1
      have Hb5 := Lib.hid (Hb4.out.trans (hb5.mono (by omega)))
      have Hx5 := Lib.hid (own_below Hx4.out hb5 (Nat.le_refl _)); have Hy5 := Lib.hid (own_below Hy4.out hb5 (Nat.le_refl _))
      have Hr5 := Lib.hid (RdrIs.below Hr4.out hb5); have Hs5 := Lib.hid hr5
      clear hb5 hr5 Hx4 Hy4 Hr4
      go_wp2_with fail
      refine (room_calls A n cap w.heap.size bs w5 Hn.out (by omega) Hnil.out Hb5.out.size (Hra.out.below Hb5.out (Nat.le_refl _))).mono ?_
      rintro e w6 ⟨A6, cap6, rfl, hown6, hb6⟩
      have hs6 := hb6.size
      have Hb6 := Lib.hid (Hb5.out.trans (hb6.mono (by omega)))
      have Hx6 := Lib.hid (own_below Hx5.out hb6 (Nat.le_refl _)); have Hy6 := Lib.hid (own_below Hy5.out hb6 (Nat.le_refl _))
      have Hr6 := Lib.hid (RdrIs.below Hr5.out hb6); have Hs6 := Lib.hid (RdrIs.below Hs5.out hb6)
      rw [← HN.out] at hown6 ⊢
      have Hown6 := Lib.hid hown6
      clear hb6 hown6 Hx5 Hy5 Hr5 Hs5
      go_wp2_with fail
      refine (same_calls (some ⟨gx, 0, none⟩) A6 N cap2 N cap6 _ _ (bs ++ rm3) (bs ++ rm3) w6 (by rw [HN.out, List.length_append, ← Hn.out]; rfl) (by rw [HN.out, List.length_append, ← Hn.out]; rfl) (by intro h; cases h) (fun h => (own_nil Hown6.out h).1) (own_rd Hx6.out) (own_rd Hown6.out)).mono ?_
      rintro e w' ⟨rfl, rfl⟩
      rw [decide_eq_true rfl]
      clear Hown6
      go_wp2_with fail
      refine (room_calls A' k cap' w.heap.size cs w6 Hk.out (by omega) Hknil.out Hb6.out.size (Hkr.out.below Hb6.out (Nat.le_refl _))).mono ?_
      rintro e w7 ⟨A7, cap7, rfl, hown7, hb7⟩
      have hs7 := hb7.size
      have Hb7 := Lib.hid (Hb6.out.trans (hb7.mono (by omega)))
      have Hx7 := Lib.hid (own_below Hx6.out hb7 (Nat.le_refl _)); have Hy7 := Lib.hid (own_below Hy6.out hb7 (Nat.le_refl _))
      have Hr7 := Lib.hid (RdrIs.below Hr6.out hb7); have Hs7 := Lib.hid (RdrIs.below Hs6.out hb7)
      rw [← HM.out] at hown7 ⊢
      have Hown7 := Lib.hid hown7
      clear hb7 hown7 Hx6 Hy6 Hr6 Hs6
      go_wp2_with fail
      refine (same_calls (some ⟨gy, 0, none⟩) A7 M cap3 M cap7 _ _ (cs ++ rm3) (cs ++ rm3) w7 (by rw [HM.out, List.length_append, ← Hk.out]; rfl) (by rw [HM.out, List.length_append, ← Hk.out]; rfl) (by intro h; cases h) (fun h => (own_nil Hown7.out h).1) (own_rd Hy7.out) (own_rd Hown7.out)).mono ?_
      rintro e w' ⟨rfl, rfl⟩
      rw [decide_eq_true rfl]
      clear Hown7
      have HlX := Lib.hid (show (bs ++ rm3).length = N by rw [HN.out, List.length_append, ← Hn.out]; rfl)
      have HlY := Lib.hid (show (cs ++ rm3).length = M by rw [HM.out, List.length_append, ← Hk.out]; rfl)
      go_wp2_with fail
      go_loopw [14] (fun i wr => ∃ (a : Nat) (X : List (BitVec 8)), i = .int .i64 (a : Int) ∧ a ≤ N ∧ X.length = N ∧ wr.ownsRow w1.heap.size 5 1 (.slice (some ⟨gx, 0, none⟩) N cap2) N (X.map V8) ∧ Upd gx w7 wr) (fun i _ => N - (intOf i).toNat)
      case atStart => exact ⟨0, bs ++ rm3, rfl, by omega, HlX.out, Hx7.out, Upd.refl _ _⟩
      case round =>
        obtain ⟨a, X, rfl, ha, hX, hown, hu⟩ := hrel
        by_cases hlt : a < N
        · have l1 : (a : Int) < (N : Int) := by omega
          obtain ⟨y, hy⟩ : ∃ y, X[a]? = some y := ⟨X[a]'(by omega), List.getElem?_eq_getElem _⟩
          have hc := hown.cellAt a (by omega)
          rw [List.getElem?_map, hy] at hc
          have hc : wr.cell? ⟨gx, a, none⟩ = some (V8 y) := hc
          have hf := hown.frozenAt a
          have HX := Lib.hid hX; have Hown := Lib.hid hown; have Hu := Lib.hid hu
          clear hX hown hu hy
          go_wp2_with fail
          refine ⟨⟨a + 1, X.set a 238#8, by congr 1, by omega, by rw [List.length_set]; exact HX.out, ?_, Hu.out.trans (Upd.setCell wr a _)⟩, by simp [intOf]; omega⟩
          rw [List.map_set]
          exact (Hown.out.stored _ _).1
        · have l1 : ¬ (a : Int) < (N : Int) := by omega
          have hs8 := hu.size
          have Hb8 := Lib.hid (Hb7.out.trans (hu.below (by omega) Hb7.out.size))
          have Hy8 := Lib.hid (own_low Hy7.out (by omega) hu)
          have Hr8 := Lib.hid (RdrIs.low Hr7.out (by omega) hu); have Hs8 := Lib.hid (RdrIs.low Hs7.out (by omega) hu)
          clear hX hown hu Hx7 Hy7 Hr7 Hs7
          generalize wr = w8 at *
          go_wp2_with fail
          go_loopw [15] (fun i wr => ∃ (a : Nat) (X : List (BitVec 8)), i = .int .i64 (a : Int) ∧ a ≤ M ∧ X.length = M ∧ wr.ownsRow w2.heap.size 5 1 (.slice (some ⟨gy, 0, none⟩) M cap3) M (X.map V8) ∧ Upd gy w8 wr) (fun i _ => M - (intOf i).toNat)
          case atStart => exact ⟨0, cs ++ rm3, rfl, by omega, HlY.out, Hy8.out, Upd.refl _ _⟩
          case round =>
            obtain ⟨a, X, rfl, ha, hX, hown, hu⟩ := hrel
            by_cases hlt : a < M
            · have l1 : (a : Int) < (M : Int) := by omega
              obtain ⟨y, hy⟩ : ∃ y, X[a]? = some y := ⟨X[a]'(by omega), List.getElem?_eq_getElem _⟩
              have hc := hown.cellAt a (by omega)
              rw [List.getElem?_map, hy] at hc
              have hc : wr.cell? ⟨gy, a, none⟩ = some (V8 y) := hc
              have hf := hown.frozenAt a
              have HX := Lib.hid hX; have Hown := Lib.hid hown; have Hu := Lib.hid hu
              clear hX hown hu hy
              go_wp2_with fail
              refine ⟨⟨a + 1, X.set a 17#8, by congr 1, by omega, by rw [List.length_set]; exact HX.out, ?_, Hu.out.trans (Upd.setCell wr a _)⟩, by simp [intOf]; omega⟩
              rw [List.map_set]
              exact (Hown.out.stored _ _).1
            · have l1 : ¬ (a : Int) < (M : Int) := by omega
              have hs9 := hu.size
              have Hb9 := Lib.hid (Hb8.out.trans (hu.below (by omega) Hb8.out.size))
              have Hr9 := Lib.hid (RdrIs.low Hr8.out (by omega) hu); have Hs9 := Lib.hid (RdrIs.low Hs8.out (by omega) hu)
              clear hX hown hu Hy8 Hr8 Hs8
              generalize wr = w9 at *
              go_wp2_with fail
              refine (rnew_calls A n cap w.heap.size bs w9 Hn.out (by omega) Hnil.out Hb9.out.size (Hra.out.below Hb9.out (Nat.le_refl _))).mono ?_
              rintro e w10 ⟨h1, A12, cap12, rfl, hd10, hb10⟩
              have hs10 := hb10.size
              have hh1 : w9.heap.size ≤ h1 := hd10.2.2.2.2
              have hh1l := lt_heap hd10.1
              have Hb10 := Lib.hid (Hb9.out.trans (hb10.mono Hb9.out.size))
              have Hr10 := Lib.hid (RdrIs.below Hr9.out hb10); have Hs10 := Lib.hid (RdrIs.below Hs9.out hb10); have Hd10 := Lib.hid hd10
              clear hb10 hd10 Hr9 Hs9
              go_wp2_with fail
              refine (rnew_calls A' k cap' w.heap.size cs w10 Hk.out (by omega) Hknil.out Hb10.out.size (Hkr.out.below Hb10.out (Nat.le_refl _))).mono ?_
              rintro e w11 ⟨h2, A13, cap13, rfl, he11, hb11⟩
              have hh2 : w10.heap.size ≤ h2 := he11.2.2.2.2
              have hh2l := lt_heap he11.1
              have Hb11 := Lib.hid (Hb10.out.trans (hb11.mono Hb10.out.size))
              have Hr11 := Lib.hid (RdrIs.below Hr10.out hb11); have Hs11 := Lib.hid (RdrIs.below Hs10.out hb11); have Hd11 := Lib.hid (RdrIs.below Hd10.out hb11); have He11 := Lib.hid he11
              clear hb11 he11 Hr10 Hs10 Hd10
              have n1 : g1 ≠ h1 := by omega
              have n2 : g2 ≠ h2 := by omega
              have n3 : g1 ≠ g2 := by omega
              have n4 : g1 ≠ h2 := by omega
              have n5 : g2 ≠ h1 := by omega
              have n6 : h1 ≠ h2 := by omega
              have b1 : w.heap.size ≤ g1 := by omega
              have b2 : w.heap.size ≤ g2 := by omega
              have b3 : w.heap.size ≤ h1 := by omega
              have b4 : w.heap.size ≤ h2 := by omega
              clear hg1 hg1l hg2 hg2l hh1 hh1l hh2 hh2l hs1 hs2 hs3 hs4 hs5 hs6 hs7 hs8 hs9 hs10 hgx1 hgx2 hgy1 hgy2 q1 q2 q3 q4
              go_wp2_with fail
              go_loopw [18] (fun i wr => ∃ (a : Nat) (t1 : Nat) (x1 : Int) (t2 : Nat) (x2 : Int), i = .int .i64 (a : Int) ∧ a ≤ m ∧ RdrIs 68 wr w3.heap.size g1 A4 n cap4 bs t1 x1 ∧ RdrIs 70 wr w9.heap.size h1 A12 n cap12 bs t1 x1 ∧
                RdrIs 68 wr w4.heap.size g2 A5 k cap5 cs t2 x2 ∧ RdrIs 70 wr w10.heap.size h2 A13 k cap13 cs t2 x2 ∧ 0 ≤ x1 ∧ x1 ≤ 100 ∧ 0 ≤ x2 ∧ x2 ≤ 100 ∧ Below w.heap.size w wr) (fun i _ => m - (intOf i).toNat)
              case atStart => exact ⟨0, 0, 0, 0, 0, rfl, by omega, Hr11.out, Hd11.out, Hs11.out, He11.out, by omega, by omega, by omega, by omega, Hb11.out⟩
              case round =>
                obtain ⟨a, t1, x1, t2, x2, rfl, ha, hr, hd, hs, he, e10, e11, e20, e21, hbl⟩ := hrel
                have Hr := Lib.hid hr; have Hd := Lib.hid hd; have Hs := Lib.hid hs; have He := Lib.hid he; have Hbl := Lib.hid hbl
                clear hr hd hs he hbl
                by_cases hlt : a < m
                · have l1 : (a : Int) < (m : Int) := by omega
                  by_cases hl2 : a < 2000
                  · have l2 : (a : Int) < 2000 := by omega
                    obtain ⟨q, hq⟩ : ∃ q, os[a]? = some q := ⟨os[a]'(by rw [← Ho.out]; omega), List.getElem?_eq_getElem _⟩
                    obtain ⟨blk, off, rfl, hblk, c0, c1, c2, c3, qf, ql1, ql2⟩ := (Hor.out.below Hbl.out (Nat.le_refl _)) a q hq
                    obtain ⟨K, F, L, S⟩ := q
                    simp only at c0 c1 c2 c3 qf ql1 ql2
                    have hld := ld_op blk (off + a * 4) K F L S wr c0 c1 c2 c3
                    have hcan : CanOp wr (.pointer (some ⟨blk, off + a * 4, none⟩)) := ⟨_, _, rfl, hld⟩
                    have hval := opV_eq hld
                    clear hq hld c0 c1 c2
                    cases S with
                    | true =>
                      go_wp2_with fail
                      refine (step_calls K F L true g2 h2 A5 A13 k cap5 cap13 _ _ _ cs _ wr Hs.out He.out n2 (by omega) e20 e21 qf ql1 ql2).mono ?_
                      rintro e wa ⟨rfl, ta, xa, hra, hda, hua, xa0, xa1⟩
                      have Hra := Lib.hid hra; have Hda := Lib.hid hda; have Hua := Lib.hid hua
                      clear hra hda hua
                      go_wp2_with fail
                      refine (step_calls 4 0 0 false g2 h2 A5 A13 k cap5 cap13 _ _ _ cs _ wa Hra.out Hda.out n2 (by omega) xa0 xa1 (by decide) (by decide) (by decide)).mono ?_
                      rintro e wb ⟨rfl, tb, xb, hrb, hdb, hub, xb0, xb1⟩
                      have Hrb := Lib.hid hrb; have Hdb := Lib.hid hdb; have Hub := Lib.hid (Hua.out.trans hub)
                      clear hrb hdb hub Hra Hda Hua
                      go_wp2_with fail
                      refine (step_calls 3 0 0 false g2 h2 A5 A13 k cap5 cap13 _ _ _ cs _ wb Hrb.out Hdb.out n2 (by omega) xb0 xb1 (by decide) (by decide) (by decide)).mono ?_
                      rintro e wc ⟨rfl, tc, xc, hrc, hdc, huc, xc0, xc1⟩
                      have Hrc := Lib.hid hrc; have Hdc := Lib.hid hdc; have Huc := Lib.hid (Hub.out.trans huc)
                      clear hrc hdc huc Hrb Hdb Hub
                      have Ho1 := Lib.hid (RdrIs.other2 Hr.out Hs.out.1 He.out.1 (by decide) (by decide) (by omega) (by omega) Huc.out); have Ho2 := Lib.hid (RdrIs.other2 Hd.out Hs.out.1 He.out.1 (by decide) (by decide) (by omega) (by omega) Huc.out)
                      have Hbc := Lib.hid (Hbl.out.trans (Huc.out.below (by omega) (by omega) Hbl.out.size))
                      clear Hr Hd Hs He Huc
                      go_wp2_with fail
                      exact ⟨⟨a + 1, t1, x1, tc, xc, by congr 1, by omega, Ho1.out, Ho2.out, Hrc.out, Hdc.out, e10, e11, xc0, xc1, Hbc.out⟩, by simp [intOf]; omega⟩
                    | false =>
                      go_wp2_with fail
                      refine (step_calls K F L false g1 h1 A4 A12 n cap4 cap12 _ _ _ bs _ wr Hr.out Hd.out n1 (by omega) e10 e11 qf ql1 ql2).mono ?_
                      rintro e wa ⟨rfl, ta, xa, hra, hda, hua, xa0, xa1⟩
                      have Hra := Lib.hid hra; have Hda := Lib.hid hda; have Hua := Lib.hid hua
                      clear hra hda hua
                      go_wp2_with fail
                      refine (step_calls 4 0 0 false g1 h1 A4 A12 n cap4 cap12 _ _ _ bs _ wa Hra.out Hda.out n1 (by omega) xa0 xa1 (by decide) (by decide) (by decide)).mono ?_
                      rintro e wb ⟨rfl, tb, xb, hrb, hdb, hub, xb0, xb1⟩
                      have Hrb := Lib.hid hrb; have Hdb := Lib.hid hdb; have Hub := Lib.hid (Hua.out.trans hub)
                      clear hrb hdb hub Hra Hda Hua
                      go_wp2_with fail
                      refine (step_calls 3 0 0 false g1 h1 A4 A12 n cap4 cap12 _ _ _ bs _ wb Hrb.out Hdb.out n1 (by omega) xb0 xb1 (by decide) (by decide) (by decide)).mono ?_
                      rintro e wc ⟨rfl, tc, xc, hrc, hdc, huc, xc0, xc1⟩
                      have Hrc := Lib.hid hrc; have Hdc := Lib.hid hdc; have Huc := Lib.hid (Hub.out.trans huc)
                      clear hrc hdc huc Hrb Hdb Hub
                      have Ho1 := Lib.hid (RdrIs.other2 Hs.out Hr.out.1 Hd.out.1 (by decide) (by decide) (by omega) (by omega) Huc.out); have Ho2 := Lib.hid (RdrIs.other2 He.out Hr.out.1 Hd.out.1 (by decide) (by decide) (by omega) (by omega) Huc.out)
                      have Hbc := Lib.hid (Hbl.out.trans (Huc.out.below (by omega) (by omega) Hbl.out.size))
                      clear Hr Hd Hs He Huc
                      go_wp2_with fail
                      exact ⟨⟨a + 1, tc, xc, t2, x2, by congr 1, by omega, Hrc.out, Hdc.out, Ho1.out, Ho2.out, xc0, xc1, e20, e21, Hbc.out⟩, by simp [intOf]; omega⟩
                  · have l2 : ¬ (a : Int) < 2000 := by omega
                    go_wp2_with fail
                    refine (step_calls 4 0 0 false g1 h1 A4 A12 n cap4 cap12 _ _ _ bs _ wr Hr.out Hd.out n1 (by omega) e10 e11 (by decide) (by decide) (by decide)).mono ?_
                    rintro e wa ⟨rfl, ta, xa, hra, hda, hua, xa0, xa1⟩
                    have Hs2 := Lib.hid (RdrIs.other2 Hs.out Hr.out.1 Hd.out.1 (by decide) (by decide) (by omega) (by omega) hua)
                    have He2 := Lib.hid (RdrIs.other2 He.out Hr.out.1 Hd.out.1 (by decide) (by decide) (by omega) (by omega) hua)
                    have Hba := Lib.hid (Hbl.out.trans (hua.below (by omega) (by omega) Hbl.out.size))
                    clear hra hda hua Hr Hd Hs He Hbl
                    go_wp2_with fail
                    refine (step_calls 4 0 0 false g2 h2 A5 A13 k cap5 cap13 _ _ _ cs _ wa Hs2.out He2.out n2 (by omega) e20 e21 (by decide) (by decide) (by decide)).mono ?_
                    rintro e wb ⟨rfl, tb, xb, hrb, hdb, hub, xb0, xb1⟩
                    have Hbb := Lib.hid (Hba.out.trans (hub.below (by omega) (by omega) Hba.out.size))
                    clear hrb hdb hub Hs2 He2
                    go_wp2_with fail
                    go_ret
                    exact ⟨rfl, Hbb.out⟩
                · have l1 : ¬ (a : Int) < (m : Int) := by omega
                  go_wp2_with fail
                  refine (step_calls 4 0 0 false g1 h1 A4 A12 n cap4 cap12 _ _ _ bs _ wr Hr.out Hd.out n1 (by omega) e10 e11 (by decide) (by decide) (by decide)).mono ?_
                  rintro e wa ⟨rfl, ta, xa, hra, hda, hua, xa0, xa1⟩
                  have Hs2 := Lib.hid (RdrIs.other2 Hs.out Hr.out.1 Hd.out.1 (by decide) (by decide) (by omega) (by omega) hua)
                  have He2 := Lib.hid (RdrIs.other2 He.out Hr.out.1 Hd.out.1 (by decide) (by decide) (by omega) (by omega) hua)
                  have Hba := Lib.hid (Hbl.out.trans (hua.below (by omega) (by omega) Hbl.out.size))
                  clear hra hda hua Hr Hd Hs He Hbl
                  go_wp2_with fail
                  refine (step_calls 4 0 0 false g2 h2 A5 A13 k cap5 cap13 _ _ _ cs _ wa Hs2.out He2.out n2 (by omega) e20 e21 (by decide) (by decide) (by decide)).mono ?_
                  rintro e wb ⟨rfl, tb, xb, hrb, hdb, hub, xb0, xb1⟩
                  have Hbb := Lib.hid (Hba.out.trans (hub.below (by omega) (by omega) Hba.out.size))
                  clear hrb hdb hub Hs2 He2
                  go_wp2_with fail
                  go_ret
                  exact ⟨rfl, Hbb.out⟩
    · have hbi2 : (65536 : Int) < (k : Int) := by omega
      go_wp2_with fail
      go_ret
      exact ⟨rfl, Hb1.out⟩
  · have hbi : (65536 : Int) < (n : Int) := by omega
    go_wp2_with fail
    go_ret
    exact ⟨rfl, Hb1.out⟩
end Go.Proofs.Ytkohakogknodeaa
