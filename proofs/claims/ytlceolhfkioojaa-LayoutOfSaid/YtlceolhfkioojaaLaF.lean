/- layout.Even, pithref10.Even -/
import Derived.Test.YtlceolhfkioojaaLaE
namespace Go.Proofs.Ytlceolhfkioojaa
open Go.RowKit
set_option linter.unusedSimpArgs false
set_option linter.unusedVariables false
namespace La
theorem evenE_range {n s : Int} (h : n < 0 ∨ 16777216 < n) : evenE n s = 41 := by unfold evenE; rw [if_pos h]
theorem evenE_bad {n s : Int} (h : ¬ (n < 0 ∨ 16777216 < n)) (hb : many n s = false) : evenE n s = 100 := by unfold evenE; rw [if_neg h, if_neg (by rw [hb]; decide)]
theorem evenE_good {n s : Int} (h : ¬ (n < 0 ∨ 16777216 < n)) (hb : many n s = true) : evenE n s = 0 := by unfold evenE; rw [if_neg h, if_pos hb]
end La
def EvenAns (w : World) (n s : Int) (e : Ending) (w' : World) : Prop := Below w.heap.size w w' ∧
  ((La.evenE n s = 0 ∧ ∃ g A' cap', e = .returned (.tuple #[.pointer (some ⟨g, 0, none⟩), .int .i64 0]) ∧ LayIs w' w.heap.size g A' s.toNat cap' (La.evenL n s s.toNat)) ∨ (La.evenE n s ≠ 0 ∧ e = .returned (.tuple #[.pointer none, .int .i64 (La.evenE n s)])))
theorem even_num (n : Int) (S a : Nat) (hn0 : 0 ≤ n) (hn : n ≤ 16777216) (hS : S ≤ 1000) (hS1 : 1 ≤ S) (ha : a < S) : ∃ p q : Nat, ((a : Int) + 1) * n = (p : Int) ∧ p ≤ 16777216000 ∧ (p : Int) / (S : Int) = (q : Int) ∧ ((a : Int) + 1) * n / (S : Int) = (q : Int) ∧ q ≤ 16777216000 := by
  have h1 : 0 ≤ ((a : Int) + 1) * n := Int.mul_nonneg (by omega) hn0
  have h2 : ((a : Int) + 1) * n ≤ 1000 * 16777216 := Int.mul_le_mul (by omega) hn hn0 (by omega)
  obtain ⟨p, hp⟩ : ∃ p : Nat, ((a : Int) + 1) * n = (p : Int) := ⟨(((a : Int) + 1) * n).toNat, by omega⟩
  refine ⟨p, p / S, hp, by omega, by norm_cast, by rw [hp]; norm_cast, ?_⟩
  have := Nat.div_le_self p S; omega
set_option maxHeartbeats 4000000 in
set_option maxRecDepth 20000 in
theorem rEven_calls (n s : Int) (w : World) : Calls Try.prog 27 #[.int .i64 n, .int .i64 s] w fun e w' => Below w.heap.size w w' ∧
    ((La.evenE n s = 0 ∧ ∃ A' cap', e = .returned (.tuple #[.slice A' s.toNat cap', .int .i64 0]) ∧ w'.ownsRow w.heap.size 3 1 (.slice A' s.toNat cap') s.toNat ((La.evenL n s s.toNat).map VI)) ∨ (La.evenE n s ≠ 0 ∧ e = .returned (.tuple #[.slice none 0 0, .int .i64 (La.evenE n s)]))) := by
  obtain ⟨i0, hi, hz0, hz1, hz2⟩ := info_parts infoInt
  have Hi := Lib.hid hi
  clear hi
  go_enter Try.func27, Try.ntmps27
  by_cases hrange : n < 0 ∨ 16777216 < n
  · have He := Lib.hid (@La.evenE_range n s hrange)
    rcases (by omega : n < 0 ∨ (¬ n < 0 ∧ (16777216 : Int) < n)) with h1 | ⟨h1, h2⟩
    · clear hrange
      go_wp2_with fail
      go_ret2
      exact ⟨Below.refl _ _, Or.inr ⟨by rw [He.out]; decide, by rw [He.out]; rfl⟩⟩
    · clear hrange
      go_wp2_with fail
      go_ret2
      exact ⟨Below.refl _ _, Or.inr ⟨by rw [He.out]; decide, by rw [He.out]; rfl⟩⟩
  · have Hrange := Lib.hid hrange
    have h1 : ¬ n < 0 := by omega
    have h2 : ¬ (16777216 : Int) < n := by omega
    clear hrange
    go_wp2_with fail
    refine (rmany_calls n s w).mono ?_
    rintro e w' ⟨rfl, rfl⟩
    cases hm : La.many n s with
    | false =>
      have He := Lib.hid (@La.evenE_bad n s Hrange.out hm)
      clear hm
      go_wp2_with fail
      go_ret2
      exact ⟨Below.refl _ _, Or.inr ⟨by rw [He.out]; decide, by rw [He.out]; rfl⟩⟩
    | true =>
      have He := Lib.hid (@La.evenE_good n s Hrange.out hm)
      have hsp := La.many_spec hm
      obtain ⟨S, rfl⟩ : ∃ S : Nat, s = (S : Int) := ⟨s.toNat, by omega⟩
      have hS : S ≤ 1000 := by omega
      clear hm
      have hsp : (n = 0 ∧ S = 0) ∨ (1 ≤ S ∧ (S : Int) ≤ n) := by omega
      go_wp2_with fail
      go_loopw [7, 8] (fun l i wr => ∃ a : Nat, i = .int .i64 (a : Int) ∧ a ≤ S ∧ wr.ownsRow w.heap.size 3 1 l a ((La.evenL n (S : Int) a).map VI) ∧ Below w.heap.size w wr) (fun _ i _ => S - (intOf i).toNat)
      case atStart => exact ⟨0, rfl, by omega, ⟨rfl, Or.inl ⟨rfl, rfl⟩⟩, Below.refl _ _⟩
      case round =>
        obtain ⟨a, rfl, ha, hown, hbl⟩ := hrel
        obtain ⟨A1, cap1, rfl, hc1, hm1, _⟩ := own_form hown
        have hsz := hbl.size
        have Hown := Lib.hid hown; have Hbl := Lib.hid hbl
        clear hown hbl
        by_cases hlt : a < S
        · have l1 : (a : Int) < (S : Int) := by omega
          obtain ⟨p, q, hp, hpb, hq, hpq, hqb⟩ := even_num n S a (by omega) (by omega) hS (by omega) hlt
          have Hsu := Lib.hid (La.evenL_succ n (S : Int) a)
          rw [hpq] at Hsu
          have HownA := Lib.hid (own_below Hown.out ((Below.refl wr.heap.size wr).alloc (Nat.le_refl _) (.cells #[.int .i64 (q : Int)] 3)) (Nat.le_refl _))
          have hS0 : ¬ (S : Int) = 0 := by omega
          have hS1 : 0 < (S : Int) := by omega
          clear hpq
          go_wp2_with (at_builtin; refine wpList_append_rd rfl _ _ 22 rfl w.heap.size 3 i0 _ 8 descInts Hi.out hz0 hz1 hz2 rfl _ a ((La.evenL n (S : Int) a).map VI) rfl HownA.out _ (some ⟨wr.heap.size, 0, none⟩) 1 1 [.int .i64 (q : Int)] rfl rfl (by intro h; cases h) (rd_fresh _ _ _ _ _ _ rfl rfl) (by intro u hu; simp at hu; subst hu; rfl) (by unfold maxLen; omega) (by omega) (by simp; omega) ?_)
          intro v4 w4 hown4 hg4
          have e4 : (La.evenL n (S : Int) a).map VI ++ [.int .i64 (q : Int)] = (La.evenL n (S : Int) (a + 1)).map VI := by rw [Hsu.out, List.map_append]; rfl
          rw [e4] at hown4
          have Hown4 := Lib.hid hown4
          have hb4 : Below w.heap.size w w4 := (Hbl.out.alloc hsz _).grown hg4 (by simp; omega) fun k hk => (HownA.out.lt k hk).1
          have Hb4 := Lib.hid hb4
          clear hown4 hg4 hb4 e4 HownA
          go_wp2_with fail
          exact ⟨⟨a + 1, by congr 1, by omega, Hown4.out, Hb4.out⟩, by simp [intOf]; omega⟩
        · obtain rfl : a = S := by omega
          go_wp2_with fail
          go_ret2
          exact ⟨Hbl.out, Or.inl ⟨He.out, A1, cap1, by rw [Int.toNat_natCast]; rfl, by rw [Int.toNat_natCast]; exact Hown.out⟩⟩
theorem lay_grown {w w' : World} {base g n cap : Nat} {A : Option Addr} {zs : List Int} (h : LayIs w base g A n cap zs) (hg : w.grownBy w' (Value.slice A n cap).ownBlock) : w'.heap[g]? = some (.cells #[.slice A n cap] 52 (0, 0)) := by
  refine (hg.block g (lt_heap h.1) ?_).trans h.1
  rcases h.2.1.2 with ⟨e, _⟩ | ⟨i, _, _, e, _, hb, _⟩
  · injection e with e; subst e; simp [Value.ownBlock]
  · injection e with e; subst e
    simp only [Value.ownBlock, ne_eq, Option.some.injEq]
    intro e; subst e; rw [h.1] at hb; injection hb with hb; injection hb with _ hb _; exact absurd hb (by decide)
theorem lay_c {w : World} {g : Nat} {v : Value} (h : w.heap[g]? = some (.cells #[v] 52 (0, 0))) : w.cell? ⟨g, 0, none⟩ = some v := by rw [cell_heap h]; rfl
theorem lay_f {w : World} {g : Nat} {v : Value} (h : w.heap[g]? = some (.cells #[v] 52 (0, 0))) : w.frozen? ⟨g, 0, none⟩ = false := by simp [World.frozen?, h]
theorem lay_store {w : World} {base g n cap : Nat} {A : Option Addr} {v : Value} {zs : List Int} (h : w.heap[g]? = some (.cells #[v] 52 (0, 0))) (ho : w.ownsRow base 3 1 (.slice A n cap) n (zs.map VI)) (hn : n = zs.length) (hb : base ≤ g) :
    LayIs (w.setCell ⟨g, 0, none⟩ (.slice A n cap)) base g A n cap zs ∧ Below base w (w.setCell ⟨g, 0, none⟩ (.slice A n cap)) := by
  have hu : w.grownBy (w.setCell ⟨g, 0, none⟩ (.slice A n cap)) (some g) := ⟨rfl, rfl, rfl, by simp [World.setCell], fun k hk hne => by
    have hne' : g ≠ k := fun h => hne (by rw [h])
    simp [World.setCell, Array.getElem?_modify, hne']⟩
  refine ⟨⟨by rw [heap_set h]; rfl, ho.kept hu ?_, hn, hb⟩, (Below.refl base w).grown hu (by have := lt_heap h; omega) (fun k e => by injection e with e; omega)⟩
  rcases ho.2 with ⟨e, _⟩ | ⟨i, _, _, e, _, hb2, _⟩
  · injection e with e; subst e; exact Or.inl rfl
  · injection e with e; subst e
    right; simp only [Value.ownBlock, ne_eq, Option.some.injEq]
    intro e; subst e; rw [h] at hb2; injection hb2 with hb2; injection hb2 with _ hb2 _; exact absurd hb2 (by decide)
set_option maxHeartbeats 8000000 in
set_option maxRecDepth 20000 in
theorem Even_calls (n s : Int) (w : World) : Calls Try.prog 26 #[.int .i64 n, .int .i64 s] w (EvenAns w n s) := by
  obtain ⟨i0, hi, hz0, hz1, hz2⟩ := info_parts infoInt
  have Hi := Lib.hid hi
  clear hi
  go_enter Try.func26, Try.ntmps26
  by_cases hrange : n < 0 ∨ 16777216 < n
  · have He := Lib.hid (@La.evenE_range n s hrange)
    rcases (by omega : n < 0 ∨ (¬ n < 0 ∧ (16777216 : Int) < n)) with h1 | ⟨h1, h2⟩
    · clear hrange
      go_wp2_with fail
      go_ret2
      exact ⟨Below.refl _ _, Or.inr ⟨by rw [He.out]; decide, by rw [He.out]; rfl⟩⟩
    · clear hrange
      go_wp2_with fail
      go_ret2
      exact ⟨Below.refl _ _, Or.inr ⟨by rw [He.out]; decide, by rw [He.out]; rfl⟩⟩
  · have Hrange := Lib.hid hrange
    have h1 : ¬ n < 0 := by omega
    have h2 : ¬ (16777216 : Int) < n := by omega
    clear hrange
    go_wp2_with fail
    refine (many_calls n s w).mono ?_
    rintro e w' ⟨rfl, rfl⟩
    cases hm : La.many n s with
    | false =>
      have He := Lib.hid (@La.evenE_bad n s Hrange.out hm)
      clear hm
      go_wp2_with fail
      go_ret2
      exact ⟨Below.refl _ _, Or.inr ⟨by rw [He.out]; decide, by rw [He.out]; rfl⟩⟩
    | true =>
      have He := Lib.hid (@La.evenE_good n s Hrange.out hm)
      have hsp := La.many_spec hm
      obtain ⟨S, rfl⟩ : ∃ S : Nat, s = (S : Int) := ⟨s.toNat, by omega⟩
      have hS : S ≤ 1000 := by omega
      clear hm
      have hsp : (n = 0 ∧ S = 0) ∨ (1 ≤ S ∧ (S : Int) ≤ n) := by omega
      go_upto_block 0 with fail
      obtain ⟨w1, hw1⟩ : ∃ x, x = w.alloc (Obj.cells #[.slice none 0 0] 52) := ⟨_, rfl⟩
      rw [← hw1]
      have hs1 : w.heap.size < w1.heap.size := by rw [hw1]; simp
      have hb1 : Below w.heap.size w w1 := by rw [hw1]; exact (Below.refl _ _).alloc (Nat.le_refl _) _
      have HL := Lib.hid (show LayIs w1 w.heap.size w.heap.size none 0 0 [] from ⟨by rw [hw1]; exact heap_alloc_new _ _, ⟨rfl, Or.inl ⟨rfl, rfl⟩⟩, rfl, Nat.le_refl _⟩)
      have Hb1 := Lib.hid hb1
      clear hw1 hb1
      go_wp2_with fail
      go_loopw [21] (fun i wr => ∃ (a : Nat) (A1 : Option Addr) (cap1 : Nat), i = .int .i64 (a : Int) ∧ a ≤ S ∧ LayIs wr w.heap.size w.heap.size A1 a cap1 (La.evenL n (S : Int) a) ∧ Below w.heap.size w wr) (fun i _ => S - (intOf i).toNat)
      case atStart => exact ⟨0, none, 0, rfl, by omega, HL.out, Hb1.out⟩
      case round =>
        obtain ⟨a, A1, cap1, rfl, ha, hlay, hbl⟩ := hrel
        have hsz := hbl.size
        have hgl := lt_heap hlay.1
        have Hlay := Lib.hid hlay; have Hbl := Lib.hid hbl
        have c0 := hlay.cell
        clear hlay hbl
        by_cases hlt : a < S
        · have l1 : (a : Int) < (S : Int) := by omega
          obtain ⟨p, q, hp, hpb, hq, hpq, hqb⟩ := even_num n S a (by omega) (by omega) hS (by omega) hlt
          have Hsu := Lib.hid (La.evenL_succ n (S : Int) a)
          rw [hpq] at Hsu
          have hS0 : ¬ (S : Int) = 0 := by omega
          have hS1 : 0 < (S : Int) := by omega
          have e4 : (La.evenL n (S : Int) a).map VI ++ [.int .i64 (q : Int)] = (La.evenL n (S : Int) (a + 1)).map VI := by rw [Hsu.out, List.map_append]; rfl
          have E4 := Lib.hid e4
          clear hpq e4
          go_wp2_with fail
          have m1 : IntKind.i64.wrap ((a : Int) + 1) = (a : Int) + 1 := IntWalk.i64_in _ (by omega)
          have m2 : IntKind.i64.wrap (p : Int) = (p : Int) := IntWalk.i64_in _ (by omega)
          have m3 : IntKind.i64.wrap ((p : Int).tdiv (S : Int)) = (q : Int) := by rw [Int.tdiv_eq_ediv_of_nonneg (by omega), hq]; exact IntWalk.i64_in _ (by omega)
          have m5 : IntKind.i64.wrap (q : Int) = (q : Int) := IntWalk.i64_in _ (by omega)
          have m4 : (S = 0) = False := by rw [eq_iff_iff]; constructor <;> intro hx <;> first | omega | cases hx
          have HownA := Lib.hid (own_below Hlay.out.2.1 ((Below.refl wr.heap.size wr).alloc (Nat.le_refl _) (.cells #[.int .i64 (q : Int)] 3)) (Nat.le_refl _))
          have HlayA := Lib.hid (Hlay.out.below ((Below.refl wr.heap.size wr).alloc (Nat.le_refl _) (.cells #[.int .i64 (q : Int)] 3)))
          have HlayD := Lib.hid (show LayIs (wr.alloc (.cells #[.int .i64 (q : Int)] 3)).drew w.heap.size w.heap.size A1 a cap1 (La.evenL n (S : Int) a) from HlayA.out.below (below_drewN (Below.refl _ _) 1))
          have hbA : w.heap.size ≤ (wr.alloc (.cells #[.int .i64 (q : Int)] 3)).drew.heap.size := by
            show w.heap.size ≤ (wr.alloc (.cells #[.int .i64 (q : Int)] 3)).heap.size
            simp; omega
          have Hbase := Lib.hid hbA
          clear hbA
          have Hrd := Lib.hid (rd_fresh wr wr.heap.size #[.int .i64 (q : Int)] 3 (0, 0) [.int .i64 (q : Int)] rfl rfl)
          go_region_law (refine step_append_rd rfl _ _ 22 rfl w.heap.size 3 i0 _ 8 descInts Hi.out hz0 hz1 hz2 rfl (.slice A1 a cap1) a ((La.evenL n (S : Int) a).map VI) rfl HlayD.out.2.1 _ (some ⟨wr.heap.size, 0, none⟩) 1 1 [.int .i64 (q : Int)] rfl rfl (by intro h; cases h) Hrd.out (by intro u hu; simp at hu; subst hu; rfl) (by unfold maxLen; omega) (by omega) Hbase.out ?_; intro v2 w2 hown2 hg2; obtain ⟨A2, cap2, rfl, hc22, hm22, _⟩ := own_form hown2.out; have HH2 := Lib.hid (lay_grown HlayD.out hg2.out); have hc2 := lay_c HH2.out; have hf2 := lay_f HH2.out)
          all_goals (have hown3 := hown2.out; rw [E4.out] at hown3)
          all_goals (have hst := lay_store HH2.out hown3 (by rw [La.evenL_length]) (Nat.le_refl _))
          all_goals (have hb2 : Below w.heap.size w w2 := (below_drewN (Hbl.out.alloc hsz (.cells #[.int .i64 (q : Int)] 3)) 1).grown hg2.out Hbase.out (fun k hk => (HownA.out.lt k hk).1))
          all_goals (have HL1 := Lib.hid hst.1; have HB1 := Lib.hid (hb2.trans hst.2))
          all_goals clear hown3 hst hb2 hown2 hg2 HH2 hc2 hf2 HlayD HlayA HownA Hrd Hbase c0
          all_goals go_wp2_with fail
          all_goals exact ⟨⟨a + 1, A2, cap2, by congr 1, by omega, HL1.out, HB1.out⟩, by simp [intOf]; omega⟩
        · obtain rfl : a = S := by omega
          go_wp2_with fail
          go_ret2
          exact ⟨Hbl.out, Or.inl ⟨He.out, w.heap.size, A1, cap1, rfl, by rw [Int.toNat_natCast]; exact Hlay.out⟩⟩
end Go.Proofs.Ytlceolhfkioojaa
