/- Layout.Of -/
import Derived.Test.YtlceolhfkioojaaLaB
import Derived.Test.YtlceolhfkioojaaThen
import Derived.Laws.Bits128
import Derived.Deep.MidRow
import Derived.Laws.Bits64b
namespace Go.Proofs.Ytlceolhfkioojaa
open Go.RowKit
set_option linter.unusedSimpArgs false
set_option linter.unusedVariables false
set_option maxHeartbeats 2000000 in
theorem ones_calls (x : Nat) (w : World) (hx : x < 18446744073709551616) :
    Calls Try.prog 32 #[.int .u64 (x : Int)] w fun e w' => ∃ r : Nat, e = .returned (.int .i64 (r : Int)) ∧ r ≤ 127 ∧ w = w' := by
  go_enter Try.func32, Try.ntmps32
  go_wp2_with fail
  go_ret
  have key : ∀ y : Int, ∃ r : Nat, Ending.returned (.int .i64 (bits .and .i64 y 127)) = .returned (.int .i64 (r : Int)) ∧ r ≤ 127 ∧ w = w := by
    intro y
    refine ⟨(y % 128).toNat, ?_, by omega, rfl⟩
    rw [i64_and127]; congr 2; omega
  exact key _
theorem or_bit (X r : Nat) (hX : X < 18446744073709551616) (hr : r < 64) : bits .or .u64 (X : Int) (IntKind.u64.wrap (2 ^ r)) = ((X ||| 2 ^ r : Nat) : Int) := by
  have h2 : 2 ^ r < 18446744073709551616 := Nat.lt_of_lt_of_le (Nat.pow_lt_pow_right (by decide) hr) (Nat.le_refl _)
  have e : IntKind.u64.wrap (2 ^ r) = ((2 ^ r : Nat) : Int) := by
    have e2 : (2 : Int) ^ r = ((2 ^ r : Nat) : Int) := by norm_cast
    rw [e2]
    generalize 2 ^ r = y at *
    show IntKind.u64.wrap ((y : Nat) : Int) = _
    have := wrap_sub_u64_nat (y + 0) 0 18446744073709551616 (by decide)
    simp at this
    rw [this]; omega
  rw [e, bits_or_u64_nat X (2 ^ r) hX h2]
theorem and_bit (X r : Nat) (hX : X < 18446744073709551616) : (bits .and .u64 ((X : Int) / 2 ^ r) 1 == 1) = X.testBit r := by
  have e : (X : Int) / 2 ^ r = ((X / 2 ^ r : Nat) : Int) := by simp
  have h1 : X / 2 ^ r < 18446744073709551616 := Nat.lt_of_le_of_lt (Nat.div_le_self _ _) hX
  have := bits_and_u64_nat (X / 2 ^ r) 1 h1 (by decide)
  rw [e, show (1 : Int) = ((1 : Nat) : Int) from rfl, this, Nat.and_one_is_mod, Nat.testBit_eq_decide_div_mod_eq]
  by_cases h : X / 2 ^ r % 2 = 1
  · rw [h, decide_eq_true rfl]; rfl
  · rw [decide_eq_false h, beq_eq_false_iff_ne]; omega
theorem rep_getD (n i : Nat) : (List.replicate n 0).getD i 0 = 0 := by
  rw [List.getD_eq_getElem?_getD, List.getElem?_replicate]; split <;> rfl
theorem lay_set {w : World} {base g n cap gm : Nat} {A : Option Addr} {zs : List Int} {cs : Array Value} {fr : Nat × Nat} (h : LayIs w base g A n cap zs) (hm : w.heap[gm]? = some (.cells cs 57 fr)) (j : Nat) (x : Value) : LayIs (w.setCell ⟨gm, j, none⟩ x) base g A n cap zs := by
  have hu : w.grownBy (w.setCell ⟨gm, j, none⟩ x) (some gm) := ⟨rfl, rfl, rfl, by simp [World.setCell], fun k hk hne => by
    have hne' : gm ≠ k := fun h => hne (by rw [h])
    simp [World.setCell, Array.getElem?_modify, hne']⟩
  refine ⟨(hu.block g (lt_heap h.1) ?_).trans h.1, h.2.1.kept hu ?_, h.2.2⟩
  · intro e; injection e with e; subst e; rw [h.1] at hm; injection hm with hm; injection hm with _ hm _; exact absurd hm (by decide)
  · rcases h.2.1.2 with ⟨e, _⟩ | ⟨i, _, _, e, _, hb, _⟩
    · injection e with e; subst e; exact Or.inl rfl
    · injection e with e; subst e
      right; simp only [Value.ownBlock, ne_eq, Option.some.injEq]
      intro e; subst e; rw [hb] at hm; injection hm with hm; injection hm with _ hm _; exact absurd hm (by decide)
/-- An array of words. -/
def Words (w : World) (g : Nat) (M : List Nat) : Prop := w.heap[g]? = some (.cells ((M.map fun (m : Nat) => Value.int .u64 (m : Int)).toArray) 57 (0, 0))
theorem Words.below {w w' : World} {g C : Nat} {M : List Nat} (h : Words w g M) (hb : Below C w w') (hg : g < C) : Words w' g M := (hb.block g hg).trans h
theorem Words.cell {w : World} {g : Nat} {M : List Nat} (h : Words w g M) {j : Nat} (hj : j < M.length) : w.cell? ⟨g, j, none⟩ = some (.int .u64 ((M.getD j 0 : Nat) : Int)) := by
  rw [cell_heap h]; simp [List.getD, hj]
theorem Words.set {w : World} {g : Nat} {M : List Nat} (h : Words w g M) (j x : Nat) : Words (w.setCell ⟨g, j, none⟩ (.int .u64 (x : Int))) g (M.set j x) := by
  unfold Words
  rw [heap_set h]; simp [List.map_set]
theorem words_grown {w w' : World} {base n gm : Nat} {v : Value} {xs : List Value} {M : List Nat} (h : Words w gm M) (ho : w.ownsRow base 3 1 v n xs) (hg : w.grownBy w' v.ownBlock) : Words w' gm M := by
  refine (hg.block gm (lt_heap h) ?_).trans h
  rcases ho.2 with ⟨rfl, _⟩ | ⟨i, _, _, rfl, _, hb, _⟩
  · simp [Value.ownBlock]
  · simp only [Value.ownBlock, ne_eq, Option.some.injEq]
    intro e; subst e
    have hm : w.heap[gm]? = _ := h
    rw [hb] at hm; injection hm with hm; injection hm with _ hm _; exact absurd hm (by decide)
theorem sizeArr : (Try.prog.info? 57).map (·.size) = some 16 := by kernel_rfl
theorem ld_words (g : Nat) (M : List Nat) (w : World) (hM : M.length = 16) (h : Words w g M) : (loadVar 57 ⟨g, 0, none⟩).run Try.prog w = .ok (.agg (M.map fun (m : Nat) => Value.int .u64 (m : Int)).toArray) w := by
  refine run_loadVar_mid w g 0 _ (M.map fun (m : Nat) => Value.int .u64 (m : Int)) _ ?_ Try.underlying57 rfl (by rw [sizeArr, List.length_map, hM])
  intro j v hv
  rw [List.getElem?_map] at hv
  obtain ⟨m, hm, rfl⟩ := Option.map_eq_some_iff.1 hv
  have := h.cell (List.getElem?_eq_some_iff.1 hm).1
  rw [Nat.zero_add, this, List.getD_eq_getElem?_getD, hm]; rfl
theorem idx_arr (C : Array Value) (a : Nat) (m : Int) (w : World) (h : a < 16) (hc : C[a]? = some (.int .u64 m)) : (Instr.index 57 (.agg C) (.int .i64 (a : Int))).run Try.prog w = .ok (.int .u64 m) w := by
  have h1 : 0 ≤ (a : Int) ∧ (a : Int) < 16 := by omega
  simp [Instr.index, run_underlying Try.underlying57, asIntOf, h1, go_sem, part, hc]
  intro h2; omega
/-- A load of the array, by what it answers. -/
def CanArr (w : World) (v : Value) : Prop := ∃ u p, v = .pointer (some p) ∧ (loadVar 57 p).run Try.prog w = .ok u w
noncomputable def arrV (w : World) (v : Value) : Value := by
  classical
  exact if h : CanArr w v then h.choose else undef
theorem arrV_eq {w : World} {p : Addr} {u : Value} (h : (loadVar 57 p).run Try.prog w = .ok u w) : arrV w (.pointer (some p)) = u := by
  have hc : CanArr w (.pointer (some p)) := ⟨u, p, rfl, h⟩
  unfold arrV
  rw [dif_pos hc]
  obtain ⟨p', e, h2⟩ := hc.choose_spec
  injection e with e; injection e with e; subst e
  rw [h] at h2
  injection h2 with h2
  exact h2.symm
section
variable {dst : Option Tmp} {ty : TypeId} {pos : String} {af : Array Edge} {gd : Option (Nat × Bool)} {x : Operand} {a : Act} {w : World} {K : Act → World → Prop} {Q : Exit → Act → World → Prop}
theorem load_arr (h : CanArr w (a.eval x)) : Oper.wp Try.prog ⟨dst, .load 57 x, ty, pos, af, gd⟩ a w K Q = K (a.put dst (arrV w (a.eval x))) w := by
  obtain ⟨u, p, hv, h⟩ := h
  rw [hv, arrV_eq h]
  unfold Oper.wp execOp
  simp only [hv, Instr.loadAt, Instr.sureAddr, Sem.run_bind, Sem.run_pure, Result.andThen_ok, h]
  rfl
end
attribute [local go_sem ↓] load_arr
set_option maxHeartbeats 4000000 in
set_option maxRecDepth 20000 in
theorem Of_calls (g : Nat) (A : Option Addr) (n cap base : Nat) (zs : List Int) (N : Int) (A' : Option Addr) (k cap' B : Nat) (vs : List Int) (w : World) (h : LayIs w base g A n cap zs) (hg : La.Good N zs) (hk : k = vs.length) (hkm : k ≤ 1099511627776) (hB : B ≤ w.heap.size) (hr : Rd w B A' (vs.map VI)) :
    Calls Try.prog 18 #[.pointer (some ⟨g, 0, none⟩), .slice A' k cap'] w fun e w' => ∃ A2 m cap2, e = .returned (.slice A2 m cap2) ∧ m = (La.ofL zs vs).length ∧ w'.ownsRow w.heap.size 3 1 (.slice A2 m cap2) m ((La.ofL zs vs).map VI) ∧ Below w.heap.size w w' := by
  have H := Lib.hid h; have Hk := Lib.hid hk; have Hr := Lib.hid hr; have Hg := Lib.hid hg
  have hn1 : n ≤ 1000 := by rw [h.2.2.1]; exact hg.2.2.1
  have hgl := lt_heap h.1
  clear h hk hr hg
  go_enter Try.func18, Try.ntmps18
  go_upto_block 0 with fail
  obtain ⟨w1, hw1⟩ : ∃ x, x = w.alloc (Obj.cells #[.int .u64 0, .int .u64 0, .int .u64 0, .int .u64 0, .int .u64 0, .int .u64 0, .int .u64 0, .int .u64 0, .int .u64 0, .int .u64 0, .int .u64 0, .int .u64 0, .int .u64 0, .int .u64 0, .int .u64 0, .int .u64 0] 57) := ⟨_, rfl⟩
  rw [← hw1]
  have hs1 : w.heap.size < w1.heap.size := by rw [hw1]; simp
  have hb1 : Below w.heap.size w w1 := by rw [hw1]; exact (Below.refl _ _).alloc (Nat.le_refl _) _
  have HW := Lib.hid (show Words w1 w.heap.size (List.replicate 16 0) by rw [hw1]; exact heap_alloc_new _ _)
  have H1 := Lib.hid (H.out.below hb1); have Hb1 := Lib.hid hb1
  clear hw1 hb1
  go_cut [] (fun w' => ∃ M : List Nat, M.length = 16 ∧ (∀ m ∈ M, m < 18446744073709551616) ∧ Words w' w.heap.size M ∧ (∀ t, t < 1024 → (M.getD (t / 64) 0).testBit (t % 64) = vs.any fun v => decide (La.shardP zs v = (t : Int))) ∧ LayIs w' base g A n cap zs ∧ Below w.heap.size w w')
  case rest =>
    obtain ⟨M, hM, hM64, hWw, hbits, hlay, hbl⟩ := hcut
    have hsz := hbl.size
    have hgw := lt_heap hWw
    have hld := ld_words w.heap.size M wc hM hWw
    have hcan : CanArr wc (.pointer (some ⟨w.heap.size, 0, none⟩)) := ⟨_, _, rfl, hld⟩
    have hval := arrV_eq hld
    have HM := Lib.hid hM; have HM64 := Lib.hid hM64; have HWw := Lib.hid hWw; have Hbits := Lib.hid hbits; have Hlay := Lib.hid hlay; have Hbl := Lib.hid hbl
    clear hM hM64 hWw hbits hlay hbl hld
    go_wp2_with fail
    obtain ⟨C, hC⟩ : ∃ C, C = (M.map fun (m : Nat) => Value.int .u64 (m : Int)).toArray := ⟨_, rfl⟩
    rw [← hC]
    have HC := Lib.hid hC
    have hCs : C.size = 16 := by rw [hC]; simp [HM.out]
    clear hC hcan hval
    go_loopw [6, 36] (fun nn i wr => ∃ (r a : Nat), nn = .int .i64 (r : Int) ∧ i = .int .i64 (a : Int) ∧ a ≤ 16 ∧ r ≤ 127 * a ∧ wc = wr) (fun _ i _ => 16 - (intOf i).toNat)
    case atStart => exact ⟨0, 0, rfl, rfl, by omega, by omega, rfl⟩
    case round =>
      obtain ⟨r, a, rfl, rfl, ha, hra, rfl⟩ := hrel
      by_cases hlt : a < 16
      · have l1 : (a : Int) < 16 := by omega
        have hml : a < M.length := by rw [HM.out]; exact hlt
        have hCa : C[a]? = some (.int .u64 ((M[a] : Nat) : Int)) := by rw [HC.out]; simp [hml]
        have hm64 := HM64.out _ (List.getElem_mem hml)
        generalize M[a] = m at *
        have hidx := fun w => idx_arr C a (m : Int) w hlt hCa
        clear hCa
        go_wp2_with fail
        refine (ones_calls m wc hm64).mono ?_
        rintro e w' ⟨r2, rfl, hr2, rfl⟩
        go_wp2_with fail
        exact ⟨⟨r + r2, a + 1, by congr 1, by congr 1, by omega, by omega, trivial⟩, by simp [intOf]; omega⟩
      · obtain rfl : a = 16 := by omega
        have hmk := make0_int r (by omega)
        have Hown := Lib.hid (World.ownsRow_made (base := w.heap.size) (e := 3) (size := 1) wc (zerosI r) r (by omega) (by unfold maxLen; omega) (by rw [zerosI_size]; omega))
        have Hw4 := Lib.hid (show Below wc.heap.size wc (wc.alloc (.cells (zerosI r) 3)) from (Below.refl _ _).alloc (Nat.le_refl _) _)
        clear hCs HC
        go_wp2_with fail
        have Hlay4 := Lib.hid (Hlay.out.below Hw4.out); have HWw4 := Lib.hid (HWw.out.below Hw4.out hgw); have Hbl4 := Lib.hid (Hbl.out.trans (Hw4.out.mono hsz))
        clear Hlay HWw Hbl hmk
        refine (Shards_calls g A n cap base zs _ Hlay4.out).mono ?_
        rintro e w' ⟨rfl, rfl⟩
        generalize wc.alloc (.cells (zerosI r) 3) = w4 at *
        obtain ⟨i0, hi, hz0, hz1, hz2⟩ := info_parts infoInt
        have Hi := Lib.hid hi
        have Hn := Lib.hid Hlay4.out.2.2.1
        clear hi Hlay4
        go_wp2_with fail
        go_loopw [12, 48] (fun l i wr => ∃ (a m : Nat), i = .int .i64 (a : Int) ∧ a ≤ n ∧ m = (La.ofK zs vs a).length ∧ m ≤ a ∧ wr.ownsRow w.heap.size 3 1 l m ((La.ofK zs vs a).map VI) ∧ Words wr w.heap.size M ∧ Below w.heap.size w wr) (fun _ i _ => n - (intOf i).toNat)
        case atStart => exact ⟨0, 0, rfl, by omega, rfl, by omega, Hown.out, HWw4.out, Hbl4.out⟩
        case round =>
          obtain ⟨a, m, rfl, ha, hm, hma, hown, hWr, hbl⟩ := hrel
          obtain ⟨A1, cap1, rfl, hc1, hm1, _⟩ := own_form hown
          have hszr := hbl.size
          have hgwr := lt_heap hWr
          have Hm := Lib.hid hm; have Hownr := Lib.hid hown; have HWr := Lib.hid hWr; have Hblr := Lib.hid hbl
          clear hm hown hWr hbl
          by_cases hlt : a < n
          · have l1 : (a : Int) < (n : Int) := by omega
            have hs16 : a / 64 < 16 := by omega
            have hcw := HWr.out.cell (j := a / 64) (by rw [HM.out]; exact hs16)
            have hX64 : M.getD (a / 64) 0 < 18446744073709551616 := by
              have hl : a / 64 < M.length := by rw [HM.out]; exact hs16
              rw [List.getD_eq_getElem?_getD, List.getElem?_eq_getElem hl]
              exact HM64.out _ (List.getElem_mem hl)
            have hb := Hbits.out a (by omega)
            obtain ⟨q, hq⟩ : ∃ q, q = a / 64 := ⟨_, rfl⟩
            obtain ⟨rr, hr⟩ : ∃ r, r = a % 64 := ⟨_, rfl⟩
            have hd1 : (a : Int) / 64 = (q : Int) := by omega
            have hd2 : (a : Int) % 64 = (rr : Int) := by omega
            have hr64 : rr < 64 := by omega
            rw [← hq] at hs16 hcw hX64 hb
            rw [← hr] at hb
            obtain ⟨X, hX⟩ : ∃ X, X = M.getD q 0 := ⟨_, rfl⟩
            rw [← hX] at hcw hX64 hb
            have Hb := Lib.hid hb
            clear hq hr hX hb
            go_upto_if 59 with fail
            rw [and_bit X rr hX64, Hb.out]
            have hof := La.ofK_succ zs vs a
            generalize (vs.any fun v => decide (La.shardP zs v = (a : Int))) = bb at *
            have Hof := Lib.hid hof
            clear Hb hof hcw
            cases bb with
            | false =>
              have Hof2 : Hid (La.ofK zs vs (a + 1) = La.ofK zs vs a) := Lib.hid (by rw [Hof.out]; simp)
              go_wp2_with fail
              exact ⟨⟨a + 1, m, by congr 1, by omega, by rw [Hof2.out]; exact Hm.out, by omega, by rw [Hof2.out]; exact Hownr.out, HWr.out, Hblr.out⟩, by simp [intOf]; omega⟩
            | true =>
              have Hof2 : Hid (La.ofK zs vs (a + 1) = La.ofK zs vs a ++ [(a : Int)]) := Lib.hid (by rw [Hof.out]; simp)
              have HownA := Lib.hid (own_below Hownr.out ((Below.refl wr.heap.size wr).alloc (Nat.le_refl _) (.cells #[.int .i64 (a : Int)] 3)) (Nat.le_refl _))
              go_wp2_with (at_builtin; refine wpList_append_rd rfl _ _ 22 rfl w.heap.size 3 i0 _ 8 descInts Hi.out hz0 hz1 hz2 rfl _ m ((La.ofK zs vs a).map VI) rfl HownA.out _ (some ⟨wr.heap.size, 0, none⟩) 1 1 [.int .i64 (a : Int)] rfl rfl (by intro h; cases h) (rd_fresh _ _ _ _ _ _ rfl rfl) (by intro u hu; simp at hu; subst hu; rfl) (by unfold maxLen; omega) (by omega) (by simp; omega) ?_)
              intro v4 w4 hown4 hg4
              have e4 : (La.ofK zs vs a).map VI ++ [.int .i64 (a : Int)] = (La.ofK zs vs (a + 1)).map VI := by rw [Hof2.out, List.map_append]; rfl
              rw [e4] at hown4
              have hne : m + 1 = (La.ofK zs vs (a + 1)).length := by rw [Hof2.out, List.length_append, ← Hm.out]; rfl
              have Hown4 := Lib.hid hown4; have Hne := Lib.hid hne
              have hb4 : Below w.heap.size w w4 := (Hblr.out.alloc hszr _).grown hg4 (by simp; omega) fun k hk => (HownA.out.lt k hk).1
              have Hb4 := Lib.hid hb4
              have HW4 := Lib.hid (words_grown (HWr.out.below ((Below.refl wr.heap.size wr).alloc (Nat.le_refl _) (.cells #[.int .i64 (a : Int)] 3)) hgwr) HownA.out hg4)
              clear hown4 hg4 hb4 e4 HownA hne
              go_wp2_with fail
              exact ⟨⟨a + 1, m + 1, by congr 1, by omega, Hne.out, by omega, Hown4.out, HW4.out, Hb4.out⟩, by simp [intOf]; omega⟩
          · obtain rfl : a = n := by omega
            go_wp2_with fail
            go_ret
            have e : La.ofL zs vs = La.ofK zs vs a := by rw [La.ofL_eq, ← Hn.out]
            rw [e]
            exact ⟨A1, m, cap1, rfl, Hm.out, Hownr.out, Hblr.out⟩
  case first =>
    go_wp2_with fail
    go_loopw [16] (fun i wr => ∃ (a : Nat) (M : List Nat), i = .int .i64 (a : Int) ∧ a ≤ k ∧ M.length = 16 ∧ (∀ m ∈ M, m < 18446744073709551616) ∧ Words wr w.heap.size M ∧
      (∀ t, t < 1024 → (M.getD (t / 64) 0).testBit (t % 64) = (vs.take a).any fun v => decide (La.shardP zs v = (t : Int))) ∧ LayIs wr base g A n cap zs ∧ Below w.heap.size w wr) (fun i _ => k - (intOf i).toNat)
    case atStart => exact ⟨0, List.replicate 16 0, rfl, by omega, rfl, by simp, HW.out, fun t ht => by
      rw [rep_getD]; simp, H1.out, Hb1.out⟩
    case round =>
      obtain ⟨a, M, rfl, ha, hM, hM64, hWw, hbits, hlay, hbl⟩ := hrel
      have hsz := hbl.size
      have hgw := lt_heap hWw
      have HM := Lib.hid hM; have HM64 := Lib.hid hM64; have HWw := Lib.hid hWw; have Hbits := Lib.hid hbits; have Hlay := Lib.hid hlay; have Hbl := Lib.hid hbl
      clear hM hM64 hWw hbits hlay hbl
      by_cases hlt : a < k
      · have l1 : (a : Int) < (k : Int) := by omega
        obtain ⟨v, hv⟩ : ∃ v, vs[a]? = some v := ⟨vs[a]'(by rw [← Hk.out]; omega), List.getElem?_eq_getElem _⟩
        obtain ⟨b, off, rfl, _, hc⟩ := rd_get (Hr.out.below Hbl.out hB) hv
        have Htk := Lib.hid (show vs.take (a + 1) = vs.take a ++ [v] by rw [List.take_add_one, hv]; rfl)
        clear hv
        go_wp2_with fail
        refine (Shard_calls g A n cap base zs v wr Hlay.out Hg.out.1 (by omega)).mono ?_
        rintro e w2 ⟨rfl, hb2⟩
        have Hlay2 := Lib.hid (Hlay.out.below hb2); have HWw2 := Lib.hid (HWw.out.below hb2 hgw); have Hbl2 := Lib.hid (Hbl.out.trans (hb2.mono hsz))
        clear hb2 Hlay HWw
        rcases La.shard_lt zs v Hg.out.1 with hs | ⟨s, hs, hse⟩
        · rw [hs]
          have Hs := Lib.hid hs
          clear hs
          go_wp2_with fail
          refine ⟨⟨a + 1, M, by congr 1, by omega, HM.out, HM64.out, HWw2.out, fun t ht => ?_, Hlay2.out, Hbl2.out⟩, by simp [intOf]; omega⟩
          rw [Hbits.out t ht, Htk.out, List.any_append]
          simp [Hs.out]
          try omega
        · rw [hse]
          have Hse := Lib.hid hse
          have hs16 : s / 64 < 16 := by have := Hg.out.2.2.1; omega
          have hcw := HWw2.out.cell (j := s / 64) (by rw [HM.out]; exact hs16)
          have hX64 : M.getD (s / 64) 0 < 18446744073709551616 := by
            have hl : s / 64 < M.length := by rw [HM.out]; exact hs16
            rw [List.getD_eq_getElem?_getD, List.getElem?_eq_getElem hl]
            exact HM64.out _ (List.getElem_mem hl)
          have hfw : w2.frozen? ⟨w.heap.size, s / 64, none⟩ = false := by simp [World.frozen?, show w2.heap[w.heap.size]? = _ from HWw2.out]
          clear hse
          obtain ⟨q, hq⟩ : ∃ q, q = s / 64 := ⟨_, rfl⟩
          obtain ⟨r, hr⟩ : ∃ r, r = s % 64 := ⟨_, rfl⟩
          have hd1 : (s : Int) / 64 = (q : Int) := by omega
          have hd2 : (s : Int) % 64 = (r : Int) := by omega
          have hr64 : r < 64 := by omega
          rw [← hq] at hs16 hcw hX64 hfw
          have Hq := Lib.hid hq; have Hr2 := Lib.hid hr
          obtain ⟨X, hX⟩ : ∃ X, X = M.getD q 0 := ⟨_, rfl⟩
          rw [← hX] at hcw hX64
          have HXM := Lib.hid hX
          clear hq hr hX
          go_wp2_with fail
          refine region_then (n := 9) (by kernel_rfl) (by kernel_rfl) ?_
          simp only [List.take_succ_cons, List.take_zero, List.drop_succ_cons, List.drop_zero]
          repeat (go_big_quiet_step (fail))
          refine wpQuiet_nil ?_
          intro w' hw'
          obtain ⟨nq, rfl⟩ := hw'
          have Hval := Lib.hid (or_bit X r hX64 hr64)
          have hWd : Words (w2.drewN nq) w.heap.size M := HWw2.out
          have hfd : (w2.drewN nq).frozen? ⟨w.heap.size, q, none⟩ = false := hfw
          have Hlayd := Lib.hid (Hlay2.out.below (below_drewN (Below.refl _ _) nq)); have Hbld := Lib.hid (below_drewN Hbl2.out nq)
          have hcd : (w2.drewN nq).cell? ⟨w.heap.size, q, none⟩ = some (.int .u64 (X : Int)) := hcw
          clear hcw hfw HWw2 Hlay2 Hbl2
          generalize w2.drewN nq = w3 at *
          have Hset := Lib.hid (hWd.set q (X ||| 2 ^ r))
          have hgm : w.heap.size < w3.heap.size := lt_heap hWd
          have Hbs := Lib.hid (show Below w.heap.size w3 (w3.setCell ⟨w.heap.size, q, none⟩ (.int .u64 ((X ||| 2 ^ r : Nat) : Int))) from
            (Below.refl w.heap.size w3).grown (row := some w.heap.size) ⟨rfl, rfl, rfl, by simp [World.setCell], fun k hk hne => by
              have hne' : w.heap.size ≠ k := fun h => hne (by rw [h])
              simp [World.setCell, Array.getElem?_modify, hne']⟩ (by omega) (fun k e => by injection e with e; omega))
          have Hlays := Lib.hid (lay_set Hlayd.out hWd q (.int .u64 ((X ||| 2 ^ r : Nat) : Int)))
          clear hWd
          go_wp2_with fail
          rw [Hval.out]
          refine ⟨⟨a + 1, M.set q (X ||| 2 ^ r), by congr 1, by omega, by rw [List.length_set]; exact HM.out, ?_, Hset.out, ?_, Hlays.out, Hbld.out.trans Hbs.out⟩, by simp [intOf]; omega⟩
          · intro m hm
            rcases List.mem_or_eq_of_mem_set hm with h | h
            · exact HM64.out m h
            · rw [h]; exact Nat.or_lt_two_pow (n := 64) hX64 (Nat.lt_of_lt_of_le (Nat.pow_lt_pow_right (by decide) hr64) (Nat.le_refl _))
          · intro t ht
            have h1 := Hbits.out t ht
            rw [Htk.out, List.any_append, ← h1]
            have hst : decide (La.shardP zs v = (t : Int)) = decide (t = s) := by
              rw [Hse.out]; exact decide_eq_decide.2 (by omega)
            simp only [List.any_cons, List.any_nil, Bool.or_false, hst]
            have hq2 := Hq.out; have hr2 := Hr2.out
            by_cases htq : t / 64 = q
            · have hg : (M.set q (X ||| 2 ^ r)).getD (t / 64) 0 = X ||| 2 ^ r := by
                rw [htq, List.getD_eq_getElem?_getD, List.getElem?_set_self (by rw [HM.out]; exact hs16)]; rfl
              rw [hg, Nat.testBit_or, htq, ← HXM.out, Nat.testBit_two_pow]
              congr 1
              exact decide_eq_decide.2 (by omega)
            · have hg : (M.set q (X ||| 2 ^ r)).getD (t / 64) 0 = M.getD (t / 64) 0 := by
                rw [List.getD_eq_getElem?_getD, List.getElem?_set_ne (Ne.symm htq), ← List.getD_eq_getElem?_getD]
              rw [hg, decide_eq_false (by omega), Bool.or_false]
      · obtain rfl : a = k := by omega
        have Htk := Lib.hid (show vs.take a = vs from List.take_of_length_le (by rw [← Hk.out]; exact Nat.le_refl _))
        go_wp2_with fail
        go_meet
        exact ⟨M, HM.out, HM64.out, HWw.out, by have := Hbits.out; rw [Htk.out] at this; exact this, Hlay.out, Hbl.out⟩
end Go.Proofs.Ytlceolhfkioojaa
