/- pithlaw4.ends: what End answers is apart from what Feed answered -/
import Derived.Test.YtmeoafodcniliaaGreatDoorOwnTxA
import Derived.Laws.OwnMore
namespace Go.Proofs.YtmeoafodcniliaaGreatDoor
open Go.RowKit
open C4 (EdIs Keep)
open Bk (Row Is Sep Kept)
set_option linter.unusedSimpArgs false
set_option linter.unusedVariables false
set_option maxRecDepth 20000
theorem pcs_set : ∀ (zs : List (Int × Int)) (i : Nat) (a b : Int), C4.pcs (zs.set i (a, b)) = ((C4.pcs zs).set (i * 2) (.int .i64 a)).set (i * 2 + 1) (.int .i64 b)
  | [], i, a, b => rfl
  | z :: zs, 0, a, b => rfl
  | z :: zs, i + 1, a, b => by
    have ih := pcs_set zs i a b
    show [Value.int .i64 z.1, Value.int .i64 z.2] ++ C4.pcs (zs.set i (a, b)) = _
    rw [ih, show (i + 1) * 2 = i * 2 + 1 + 1 by omega]
    rfl
theorem pcs_take : ∀ (zs : List (Int × Int)) (n : Nat), (C4.pcs zs).take (n * 2) = C4.pcs (zs.take n)
  | [], n => by simp [C4.pcs]
  | z :: zs, 0 => by simp [C4.pcs]
  | z :: zs, n + 1 => by
    have ih := pcs_take zs n
    show ([Value.int .i64 z.1, Value.int .i64 z.2] ++ C4.pcs zs).take ((n + 1) * 2) = [Value.int .i64 z.1, Value.int .i64 z.2] ++ C4.pcs (zs.take n)
    rw [← ih, show (n + 1) * 2 = n * 2 + 1 + 1 by omega]
    rfl
/-- A pair is put into an owned row. -/
theorem own_pair {w : World} {g N cap : Nat} {zs : List (Int × Int)} (h : w.ownsRow 0 127 2 (.slice (some ⟨g, 0, none⟩) N cap) N (C4.pcs zs)) {i : Nat} (hi : i < zs.length) (a b : Int) :
    ((w.setCell ⟨g, i * 2, none⟩ (.int .i64 a)).setCell ⟨g, i * 2 + 1, none⟩ (.int .i64 b)).ownsRow 0 127 2 (.slice (some ⟨g, 0, none⟩) N cap) N (C4.pcs (zs.set i (a, b))) := by
  rw [pcs_set]
  refine Bk.own_set (Bk.own_set h ?_ _) ?_ _
  · rw [C4.pcs_length]; omega
  · rw [List.length_set, C4.pcs_length]; omega
theorem kept_pair (w : World) (g i : Nat) (u v : Value) : Kept (fun k => k = g) w ((w.setCell ⟨g, i * 2, none⟩ u).setCell ⟨g, i * 2 + 1, none⟩ v) :=
  (Kept.set w g _ _).trans (Kept.set _ g _ _) (fun _ h => .inl h)
/-- A row in the block of a longer one that was written. -/
theorem own_front {w w' : World} {n m : Nat} {t s : Nat} {v x : Value} {xs ys zs : List Value} {k : Nat} (hv : w.ownsRow 0 t s v n xs) (hg : w.ownsRow 0 t s x m ys) (hg' : w'.ownsRow 0 t s x m zs) (h1 : v.ownBlock = some k) (h2 : x.ownBlock = some k) (hnm : n ≤ m) : w'.ownsRow 0 t s v n (zs.take (n * s)) := by
  have hle : n * s ≤ m * s := Nat.mul_le_mul_right _ hnm
  refine ⟨by rw [List.length_take, hg'.1]; omega, ?_⟩
  rcases hv.2 with ⟨e, _⟩ | ⟨gv, cv, curv, e, a1, a2, a3, a4, a5, a6⟩
  · rw [e] at h1; cases h1
  rcases hg.2 with ⟨e2, _⟩ | ⟨gg, cg, curg, e2, b1, b2, b3, b4, b5, b6⟩
  · rw [e2] at h2; cases h2
  rcases hg'.2 with ⟨e3, _⟩ | ⟨gg', cg', curg', e3, d1, d2, d3, d4, d5, d6⟩
  · rw [e3] at h2; cases h2
  subst e
  rw [e2] at h2 e3
  injection h1 with h1; injection h2 with h2
  subst h1
  injection e3 with e3 _ e4; injection e3 with e3; injection e3 with e3
  subst e4; subst e3
  have h2' : gg = gv := h2
  subst h2'
  rw [a2] at b2
  injection b2 with b2; injection b2 with b2
  subst b2
  exact .inr ⟨gg, cv, curg', rfl, a1, d2, a3, a4, by omega, by rw [← d6, List.take_take, Nat.min_eq_left hle]⟩
/-- What a row of pairs and a longer one behind an append hold, when the longer one was written. -/
theorem own_after {w w' : World} {n m : Nat} {l x : Value} {zs ys xs : List (Int × Int)} (hl : w.ownsRow 0 127 2 l n (C4.pcs zs)) (hz : zs.length = n) (hx : w.ownsRow 0 127 2 x m (C4.pcs ys)) (hx' : w'.ownsRow 0 127 2 x m (C4.pcs xs)) (hxs : xs.length = m) (hnm : n ≤ m) (hk : Kept (fun k => x.ownBlock = some k) w w') :
    ∃ zs', zs'.length = n ∧ w'.ownsRow 0 127 2 l n (C4.pcs zs') := by
  by_cases h : ∃ g, l.ownBlock = some g ∧ x.ownBlock = some g
  · obtain ⟨g, h1, h2⟩ := h
    have := own_front hl hx hx' h1 h2 hnm
    rw [pcs_take] at this
    exact ⟨_, by rw [List.length_take]; omega, this⟩
  · exact ⟨zs, hz, Bk.own_kept hl hk (fun g hg hx => h ⟨g, hg, hx⟩)⟩
/-- An append of any number of elements to an owned row: the new row lies where the old one lay or in a block that is new. -/
theorem run_append_all {P : Program} (w : World) (t ty e : TypeId) (i : TypeInfo) (z : Value) (size bytes : Nat) (ht : P.underlying t = some (.slice e)) (hi : P.info? e = some i) (hz : i.zero = some z)
    (hsize : i.size = size) (hby : i.bytes = bytes) (hzs : z.cells.size = size) (hsz : 0 < size)
    (v : Value) (n : Nat) (xs : List Value) (hown : w.ownsRow 0 e size v n xs)
    (a : Addr) (m c : Nat) (news : List Value) (hl : news.length = m * size) (hnews : ∀ j u, news[j]? = some u → w.cell? (a.add j) = some u) (h1 : ∀ u ∈ news, u.oneCell' = true)
    (h63 : n + m ≤ maxLen) (hbytes : (n + m) * bytes ≤ 140737488355328) :
    ∃ v' w', (Builtin.append_ #[t, t] ty #[v, .slice (some a) m c]).run P w = .ok v' w' ∧ w'.ownsRow 0 e size v' (n + m) (xs ++ news) ∧ w.grownBy w' v.ownBlock ∧
      (∀ g, v'.ownBlock = some g → v.ownBlock = some g ∨ w.heap.size ≤ g) := by
  by_cases hm : 0 < m
  · obtain ⟨v', w', h1, h2, _, h4, h5⟩ := Bk.run_append_two (P := P) w 0 t ty e i z size bytes ht hi hz hsize hby hzs hsz v n xs hown a m c news hm hl hnews h1 h63 hbytes (Nat.zero_le _)
    exact ⟨v', w', h1, h2, h4, h5⟩
  · obtain rfl : m = 0 := by omega
    have hn : news = [] := List.eq_nil_of_length_eq_zero (by simpa using hl)
    subst hn
    subst hsize
    rcases hown.2 with ⟨rfl, rfl⟩ | ⟨g, cap, cur, rfl, hbg, hg, hnc, hcm, hcs, htake⟩
    · have hx : xs = [] := List.eq_nil_of_length_eq_zero (by simpa using hown.1)
      subst hx
      refine ⟨.slice none 0 0, w, ?_, World.ownsRow_nil w 0 e i.size, ⟨rfl, rfl, rfl, Nat.le_refl _, fun _ _ _ => rfl⟩, fun g hg => .inl hg⟩
      simp [Builtin.append_, run_underlying ht, sizeOf, typeInfo, hi, Builtin.lenOf, Builtin.firstCells, loadCells, loadCellsFrom]
    · have hfit : n * i.size + ([] : List Value).length ≤ cur.size := by rw [hcs]; simp; exact Nat.mul_le_mul_right _ hnc
      have hr := run_append_room (P := P) w t ty e i ht hi g n cap cur hg a 0 c [] hl hnews h1 (by omega) hfit
      have hxl := hown.1
      have hg' := setRow_heap w g cur (cur.toList.take (n * i.size) ++ [] ++ cur.toList.drop (n * i.size + ([] : List Value).length)).toArray e (0, 0) hg
      have hcz : (cur.toList.take (n * i.size) ++ [] ++ cur.toList.drop (n * i.size + ([] : List Value).length)).toArray.size = cap * i.size := by
        simp only [List.size_toArray, List.length_append, List.length_take, List.length_drop, Array.length_toList, List.length_nil] at hfit ⊢; omega
      refine ⟨_, _, hr, ⟨by simpa using hxl, .inr ⟨g, cap, _, rfl, hbg, hg', by omega, hcm, hcz, ?_⟩⟩, ⟨rfl, rfl, rfl, by simp, fun k _ hk => setRow_other w g k _ (fun e => hk (by simp [Value.ownBlock, e]))⟩, fun k hk => .inl hk⟩
      simp only [List.append_nil, Nat.add_zero]
      rw [htake, ← hxl]
      exact List.take_left
theorem wpList_append_all {P : Program} {w : World} {ops : Array Oper} {rest : List Oper} {o : Oper} {a : Act} {Q : Exit → Act → World → Prop} (hgd : o.guard = none) (s x : Operand) (t : TypeId)
    (ho : o.op = .call { callee := .builtin .append, args := #[s, x], argTypes := #[t, t] })
    (e : TypeId) (i : TypeInfo) (z : Value) (size bytes : Nat) (ht : P.underlying t = some (.slice e)) (hi : P.info? e = some i) (hz : i.zero = some z)
    (hsize : i.size = size) (hby : i.bytes = bytes) (hzs : z.cells.size = size) (hsz : 0 < size)
    (v : Value) (n : Nat) (xs : List Value) (hs : a.eval s = v) (hown : w.ownsRow 0 e size v n xs)
    (B : Nat) (A : Option Addr) (m c : Nat) (news : List Value) (hx : a.eval x = .slice A m c) (hm : news.length = m * size) (hnil : A = none → m = 0 ∧ c = 0) (hr : Rd w B A news) (h1 : ∀ u ∈ news, u.oneCell' = true)
    (h63 : n + m ≤ maxLen) (hbytes : (n + m) * bytes ≤ 140737488355328)
    (h : ∀ v' w', w'.ownsRow 0 e size v' (n + m) (xs ++ news) → Kept (fun k => v.ownBlock = some k) w w' → (∀ g, v'.ownBlock = some g → v.ownBlock = some g ∨ w.heap.size ≤ g) → wpList P ops Q rest (a.put o.dst v') w') : wpList P ops Q (o :: rest) a w := by
  rcases A with _ | ad
  · obtain ⟨rfl, rfl⟩ := hnil rfl
    have hn : news = [] := List.eq_nil_of_length_eq_zero (by omega)
    subst hn
    refine wpList_append_own_none hgd s x t ho 0 e i size ht hi v n xs hs hown hx ?_
    exact h v w (by simpa using hown) (Kept.refl _ _) (fun g hg => .inl hg)
  · refine wpList_plain hgd fun _ hK => ?_
    obtain ⟨v', w', hrun, h2, h4, h5⟩ := run_append_all (P := P) w t o.type e i z size bytes ht hi hz hsize hby hzs hsz v n xs hown ad m c news hm (rd_news hr _ rfl) h1 h63 hbytes
    unfold Oper.wp execOp
    simp only [ho, resolve, invoke, builtin, Sem.run_bind, Sem.run_pure, Result.andThen_ok, List.map_toArray, List.map_cons, List.map_nil, hs, hx, hrun]
    exact hK _ _ (h v' w' h2 (Bk.Kept.grown h4) h5)
set_option maxHeartbeats 8000000 in
theorem ends_calls (A : Option Addr) (n cap B : Nat) (b : List (BitVec 8)) (w : World) (hn : n = b.length) (hm : n ≤ 4000) (hcap : n ≤ cap) (hcm : cap ≤ maxLen) (hnil : A = none → n = 0 ∧ cap = 0) (hB : B ≤ w.heap.size) (hr : Rd w B A (b.map V8)) :
    Calls Tryz.prog 24 #[.slice A n cap] w fun e w' => e = .returned (.bool true) ∧ Below w.heap.size w w' := by
  have Hn := Lib.hid hn; have Hr := Lib.hid hr; have Hnil := Lib.hid hnil
  unfold maxLen at hcm
  clear hn hr hnil
  obtain ⟨i0, hi0, hz0, hz1, hz2⟩ := info_parts C4.infoPa
  have Hi := Lib.hid hi0
  clear hi0
  go_enter Tryz.func24, Tryz.ntmps24
  go_wp2_with fail
  refine (C4.NewEdges_calls w).mono ?_
  rintro e w1 ⟨rfl, hw1⟩
  have HB1 := Lib.hid (show Below w.heap.size w w1 by rw [hw1]; exact (Below.refl _ _).alloc (Nat.le_refl _) _)
  have HS := Lib.hid (show Sc w1 w.heap.size (.slice none 0 0) [] by rw [hw1]; exact sc_new w)
  clear hw1
  by_cases hn0 : n = 0
  · subst hn0
    go_wp2_with fail
    go_ret
    exact ⟨rfl, HB1.out⟩
  have hnp : (0 : Int) < (n : Int) := by omega
  obtain ⟨a, rfl⟩ : ∃ a, A = some a := by
    cases A with
    | none => exact absurd (Hnil.out rfl).1 hn0
    | some a => exact ⟨a, rfl⟩
  obtain ⟨m, rfl⟩ : ∃ m, n = m + 1 := ⟨n - 1, by omega⟩
  have hm1 : ((m + 1 : Nat) : Int) - 1 = (m : Int) := by omega
  have hmc : (m : Int) ≤ (cap : Int) := by omega
  have hn00 : (((m + 1 : Nat) : Int) == 0) = false := by simp; omega
  go_wp2_with fail
  have hgw := HB1.out.size
  have hgl1 := HS.out.lt
  refine (feed_sc HS.out (by simp) (some a) m cap B (b.take m) (by rw [List.length_take, ← Hn.out]; omega) (by omega) (by omega) (by intro h; cases h) (by omega) (C4.rd_take m (Hr.out.below HB1.out (by omega)))).mono ?_
  rintro e w2 ⟨Al, capl, zs, ee, rv, rfl, hl, hk, hsc, hrv, hlen, _, _⟩
  have HB2 := Lib.hid (HB1.out.trans (hk.below hgw (fun x hx => by
    rcases hx with rfl | hx
    · exact Nat.le_refl _
    · cases hx)))
  have HS := Lib.hid hsc
  have HL := Lib.hid hl
  have hs12 := hk.size
  have hgl := hsc.lt
  obtain ⟨t, ht⟩ : ∃ t, zs.length = t := ⟨_, rfl⟩
  rw [ht] at HL hlen ⊢
  have Ht := Lib.hid ht
  have htm : t ≤ 4000 := by simp at hlen; omega
  clear hl hk hsc hrv hlen ht hmc hm1
  go_wp2_with fail
  refine (C4.pairs_calls Al t capl w2.heap.size zs w2 Ht.out.symm (by omega) (Nat.le_refl _) (Bk.own_rd HL.out)).mono ?_
  rintro e w3 ⟨Ak, ck, rfl, hown, hb⟩
  have HK := Lib.hid hown
  have HL := Lib.hid (Bk.own_below_any HL.out hb)
  have HS := Lib.hid (HS.out.below hb)
  have HB3 := Lib.hid (HB2.out.trans (hb.mono HB2.out.size))
  have hs23 := hb.size
  have Hl3 := Lib.hid (fun x hx => (Bk.own_blk (g := x) HL.out hx).2)
  clear hown hb HB2
  go_wp2_with fail
  refine (end_sc HS.out (by simp; have := Hn.out; omega)).mono ?_
  rintro e w4 ⟨Am, cm, ms, e4, rfl, hm4, hk, hml, _⟩
  have HM := Lib.hid hm4
  have HL := Lib.hid (Bk.own_kept HL.out hk (fun x hx e => by have := (Bk.own_blk HL.out hx).1; omega))
  have HK := Lib.hid (Bk.own_kept HK.out hk (fun x hx e => by have := (Bk.own_blk HK.out hx).1; omega))
  have HB4 := Lib.hid (HB3.out.trans (hk.below HB3.out.size (fun x hx => by rw [hx]; exact Nat.le_refl _)))
  have hs34 := hk.size
  have HLM := Lib.hid (show Sep (.slice Al t capl) (.slice Am ms.length cm) from fun x h1 h2 => by have := (Bk.own_blk hm4 h2).1; have h3 := HL.out; have h4 := Hl3.out x h1; omega)
  obtain ⟨u, hu⟩ : ∃ u, ms.length = u := ⟨_, rfl⟩
  rw [hu] at HM HLM hml ⊢
  have Hu := Lib.hid hu
  clear hm4 hk hu HS HB3
  go_wp2_with fail
  refine (C4.pairs_calls Am u cm w4.heap.size ms w4 Hu.out.symm (by omega) (Nat.le_refl _) (Bk.own_rd HM.out)).mono ?_
  rintro e w5 ⟨Aw, cw, rfl, hown, hb⟩
  have HW := Lib.hid hown
  have HLW := Lib.hid (Bk.sep_new HL.out hown)
  have HMW := Lib.hid (Bk.sep_new HM.out hown)
  have HL := Lib.hid (Bk.own_below_any HL.out hb)
  have HK := Lib.hid (Bk.own_below_any HK.out hb)
  have HM := Lib.hid (Bk.own_below_any HM.out hb)
  have HB5 := Lib.hid (HB4.out.trans (hb.mono HB4.out.size))
  have hs45 := hb.size
  clear hown hb HB4
  go_wp2_with fail
  refine (C4.sameP_calls Al Ak t capl t ck _ _ zs zs w5 Ht.out.symm Ht.out.symm (Bk.own_caps HL.out).1 (Bk.own_caps HK.out).1 (Bk.own_caps HL.out).2 (Bk.own_caps HK.out).2 (Bk.own_rd HL.out) (Bk.own_rd HK.out)).mono ?_
  rintro e w6 ⟨rfl, k6, rfl⟩
  rw [decide_eq_true rfl]
  have hb := Bk.drewN_below w5 k6
  have HL := Lib.hid (Bk.own_below_any HL.out hb)
  have HM := Lib.hid (Bk.own_below_any HM.out hb)
  have HW := Lib.hid (Bk.own_below_any HW.out hb)
  have HB6 := Lib.hid (HB5.out.trans (hb.mono HB5.out.size))
  clear hb HK HB5
  generalize w5.drewN k6 = w6 at *
  have hal : Below w6.heap.size w6 (w6.alloc (.cells #[.int .i64 (-7), .int .i64 (-8), .int .i64 (-9), .int .i64 (-10)] 127)) := (Below.refl _ _).alloc (Nat.le_refl _) _
  have HM0 := HM; have HW0 := HW
  have HL := Lib.hid (Bk.own_below_any HL.out hal)
  have HM := Lib.hid (Bk.own_below_any HM.out hal)
  have HW := Lib.hid (Bk.own_below_any HW.out hal)
  have HB7 := Lib.hid (HB6.out.trans (hal.mono HB6.out.size))
  have Hm7 := Lib.hid (fun x hx => (Bk.own_blk (g := x) HM0.out hx).2)
  have Hw7 := Lib.hid (fun x hx => (Bk.own_blk (g := x) HW0.out hx).2)
  clear HM0 HW0 hal
  go_wp2_with (at_builtin; refine Bk.wpList_append_two rfl _ _ 23 rfl 127 i0 _ 2 16 C4.descPas Hi.out hz0 hz1 hz2 rfl (by decide) _ t (C4.pcs zs) rfl (Bk.own_zero HL.out) (some ⟨w6.heap.size, 0, none⟩) 2 2 (w6.heap.size + 1) (C4.pcs [(-7, -8), (-9, -10)]) rfl (by decide) rfl (Bk.rd_alloc _ _ _ _ rfl) (C4.pcs_one _) (by unfold maxLen; omega) (by omega) ?_)
  intro xv w9 hx hl hk hxb
  obtain ⟨gx, cx, rfl, hcx1, hcx2, _⟩ := Bk.own_some hx (by omega)
  unfold maxLen at hcx2
  rw [← C4.pcs_append] at hx
  have hls := fun x hx => (Bk.own_blk (g := x) HL.out hx).1
  have HM := Lib.hid (Bk.own_kept HM.out hk (fun x h1 h2 => HLM.out x h2 h1))
  have HW := Lib.hid (Bk.own_kept HW.out hk (fun x h1 h2 => HLW.out x h2 h1))
  have HMx := Lib.hid (show ∀ x, (Value.slice Am u cm).ownBlock = some x → x ≠ gx from fun x h1 e => by
    rcases hxb gx rfl with h | h
    · exact HLM.out x (by rw [e]; exact h) h1
    · have := Hm7.out x h1; omega)
  have HWx := Lib.hid (show ∀ x, (Value.slice Aw u cw).ownBlock = some x → x ≠ gx from fun x h1 e => by
    rcases hxb gx rfl with h | h
    · exact HLW.out x (by rw [e]; exact h) h1
    · have := Hw7.out x h1; omega)
  have hgx : w.heap.size ≤ gx := by
    rcases hxb gx rfl with h | h
    · have := hls gx h; omega
    · have := HB6.out.size; omega
  have HB9 := Lib.hid (HB7.out.trans (hk.below HB7.out.size (fun x hx => by have := hls x hx; omega)))
  have hlow := Lib.hid (show ∀ x, (Value.slice Al t capl).ownBlock = some x → w.heap.size ≤ x from fun x hx => by have := hls x hx; omega)
  have HX := Lib.hid hx
  have HL := Lib.hid hl
  have hzl : (zs ++ [(-7, -8), (-9, -10)]).length = t + 2 := by rw [List.length_append, Ht.out]; rfl
  have Hzl := Lib.hid hzl
  generalize zs ++ [(-7, -8), (-9, -10)] = zx at *
  clear hx hl hk hxb hls hzl HB7 HB6 Hm7 Hw7
  go_wp2_with fail
  go_loopw [11] (fun iv wr => ∃ (i : Nat) (ys : List (Int × Int)), iv = .int .i64 (i : Int) ∧ i ≤ t + 2 ∧ ys.length = t + 2 ∧ wr.ownsRow 0 127 2 (.slice (some ⟨gx, 0, none⟩) (t + 2) cx) (t + 2) (C4.pcs ys) ∧ Kept (fun k => k = gx) w9 wr) (fun iv _ => t + 2 - (intOf iv).toNat)
  case atStart => exact ⟨0, zx, rfl, by omega, Hzl.out, HX.out, Kept.refl _ _⟩
  case round =>
    obtain ⟨i, ys, rfl, hi, hyl, hown, hkk⟩ := hrel
    have Ho := Lib.hid hown; have Hk := Lib.hid hkk; have Hy := Lib.hid hyl
    clear hown hkk hyl
    by_cases hlt : i < t + 2
    · have q1 : (i : Int) < (t : Int) + 2 := by omega
      obtain ⟨y, hy⟩ : ∃ y, ys[i]? = some y := ⟨ys[i]'(by rw [Hy.out]; exact hlt), List.getElem?_eq_getElem _⟩
      obtain ⟨e0, e1⟩ := C4.pcs_get hy
      have o0 := Bk.own_cell Ho.out e0
      have o1 := Bk.own_cell Ho.out e1
      have f0 := Bk.own_frozen Ho.out (i * 2); have f1 := Bk.own_frozen Ho.out (i * 2 + 1)
      have Ho2 := Lib.hid (own_pair Ho.out (i := i) (by rw [Hy.out]; exact hlt) (-7) (-8))
      have Hk2 := Lib.hid (Hk.out.trans (kept_pair wr gx i (.int .i64 (-7)) (.int .i64 (-8))) (fun _ h => .inl h))
      clear hy e0 e1
      go_wp2_with fail
      exact ⟨⟨i + 1, ys.set i (-7, -8), by congr 1, by omega, by rw [List.length_set]; exact Hy.out, Ho2.out, Hk2.out⟩, by simp [intOf]; omega⟩
    · obtain rfl : i = t + 2 := by omega
      have q1 : ¬ ((t + 2 : Nat) : Int) < (t : Int) + 2 := by omega
      obtain ⟨zl, hzl, hl⟩ := own_after (Bk.own_zero HL.out) Ht.out HX.out Ho.out Hy.out (by omega) (Hk.out.mono (fun x _ h => by subst h; rfl))
      have HL := Lib.hid hl; have Hzl := Lib.hid hzl
      have HM := Lib.hid (Bk.own_kept HM.out Hk.out HMx.out)
      have HW := Lib.hid (Bk.own_kept HW.out Hk.out HWx.out)
      have HB10 := Lib.hid (HB9.out.trans (Hk.out.below HB9.out.size (fun x hx => by rw [hx]; exact hgx)))
      clear hzl hl Ho Hk Hy HX HMx HWx HB9
      generalize wr = w10 at *
      clear hlt q1
      go_wp2_with fail
      go_loopw [12] (fun iv wr => ∃ (i : Nat) (ys : List (Int × Int)), iv = .int .i64 (i : Int) ∧ i ≤ t ∧ ys.length = t ∧ wr.ownsRow 0 127 2 (.slice Al t capl) t (C4.pcs ys) ∧ Kept (fun k => (Value.slice Al t capl).ownBlock = some k) w10 wr) (fun iv _ => t - (intOf iv).toNat)
      case atStart => exact ⟨0, zl, rfl, by omega, Hzl.out, HL.out, Kept.refl _ _⟩
      case round =>
        obtain ⟨i, ys, rfl, hi, hyl, hown, hkk⟩ := hrel
        have Ho := Lib.hid hown; have Hk := Lib.hid hkk; have Hy := Lib.hid hyl
        clear hown hkk hyl
        by_cases hlt : i < t
        · have q1 : (i : Int) < (t : Int) := by omega
          obtain ⟨g, cc, hvv, _, _, _⟩ := Bk.own_some Ho.out (by omega)
          injection hvv with e1 e2 e3
          subst e1
          subst e3
          obtain ⟨y, hy⟩ : ∃ y, ys[i]? = some y := ⟨ys[i]'(by rw [Hy.out]; exact hlt), List.getElem?_eq_getElem _⟩
          obtain ⟨e0, e1⟩ := C4.pcs_get hy
          have o0 := Bk.own_cell Ho.out e0
          have o1 := Bk.own_cell Ho.out e1
          have f0 := Bk.own_frozen Ho.out (i * 2); have f1 := Bk.own_frozen Ho.out (i * 2 + 1)
          have Ho2 := Lib.hid (own_pair Ho.out (i := i) (by rw [Hy.out]; exact hlt) (-5) (-6))
          have Hk2 := Lib.hid (Hk.out.trans (kept_pair wr g i (.int .i64 (-5)) (.int .i64 (-6))) (fun x h => .inl (by rw [h]; rfl)))
          have hcc : (t : Int) ≤ (capl : Int) := by have := (Bk.own_caps Ho.out).1; omega
          clear hy e0 e1 e2
          go_wp2_with fail
          exact ⟨⟨i + 1, ys.set i (-5, -6), by congr 1, by omega, by rw [List.length_set]; exact Hy.out, Ho2.out, Hk2.out⟩, by simp [intOf]; omega⟩
        · obtain rfl : i = t := by omega
          have HL := Lib.hid Ho.out
          have HM := Lib.hid (Bk.own_kept HM.out Hk.out (fun x h1 h2 => HLM.out x h2 h1))
          have HW := Lib.hid (Bk.own_kept HW.out Hk.out (fun x h1 h2 => HLW.out x h2 h1))
          have HB11 := Lib.hid (HB10.out.trans (Hk.out.below HB10.out.size (fun x hx => hlow.out x hx)))
          clear Ho Hk HB10 hlt
          generalize wr = w11 at *
          go_wp2_with fail
          refine (C4.sameP_calls Am Aw u cm u cw _ _ ms ms w11 Hu.out.symm Hu.out.symm (Bk.own_caps HM.out).1 (Bk.own_caps HW.out).1 (Bk.own_caps HM.out).2 (Bk.own_caps HW.out).2 (Bk.own_rd HM.out) (Bk.own_rd HW.out)).mono ?_
          rintro e w12 ⟨rfl, k6, rfl⟩
          rw [decide_eq_true rfl]
          have hb := Bk.drewN_below w11 k6
          have HL := Lib.hid (Bk.own_below_any HL.out hb)
          have HM := Lib.hid (Bk.own_below_any HM.out hb)
          have HB12 := Lib.hid (HB11.out.trans (hb.mono HB11.out.size))
          clear hb HW HB11
          generalize w11.drewN k6 = w12 at *
          go_wp2_with fail
          refine (C4.pairs_calls Al i capl w12.heap.size ys w12 Hy.out.symm (by omega) (Nat.le_refl _) (Bk.own_rd HL.out)).mono ?_
          rintro e w13 ⟨An, cn, rfl, hown, hb⟩
          have HN := Lib.hid hown
          have HMN := Lib.hid (Bk.sep_new HM.out hown)
          have hbb := HB12.out.size
          have HL := Lib.hid (Bk.own_below_any HL.out hb)
          have HM := Lib.hid (Bk.own_below_any HM.out hb)
          have HB13 := Lib.hid (HB12.out.trans (hb.mono HB12.out.size))
          have hal : Below w13.heap.size w13 (w13.alloc (.cells #[.int .i64 (-11), .int .i64 (-12)] 127)) := (Below.refl _ _).alloc (Nat.le_refl _) _
          have Hl7 := Lib.hid (fun x hx => (Bk.own_blk (g := x) HL.out hx).2)
          have Hn7 := Lib.hid (fun x hx => (Bk.own_blk (g := x) HN.out hx).2)
          have HL := Lib.hid (Bk.own_below_any HL.out hal)
          have HM := Lib.hid (Bk.own_below_any HM.out hal)
          have HN := Lib.hid (Bk.own_below_any HN.out hal)
          have HB14 := Lib.hid (HB13.out.trans (hal.mono HB13.out.size))
          clear hown hb hal HB12
          go_wp2_with (at_builtin; refine Bk.wpList_append_two rfl _ _ 23 rfl 127 i0 _ 2 16 C4.descPas Hi.out hz0 hz1 hz2 rfl (by decide) _ u (C4.pcs ms) rfl (Bk.own_zero HM.out) (some ⟨w13.heap.size, 0, none⟩) 1 1 (w13.heap.size + 1) (C4.pcs [(-11, -12)]) rfl (by decide) rfl (Bk.rd_alloc _ _ _ _ rfl) (C4.pcs_one _) (by unfold maxLen; omega) (by omega) ?_)
          intro yv w15 hx _ hk hxb
          obtain ⟨gy, cy, rfl, hcy1, hcy2, _⟩ := Bk.own_some hx (by omega)
          unfold maxLen at hcy2
          rw [← C4.pcs_append] at hx
          have hms := fun x hx => (Bk.own_blk (g := x) HM.out hx).1
          have HLy := Lib.hid (show ∀ x, (Value.slice Al i capl).ownBlock = some x → x ≠ gy from fun x h1 e => by
            rcases hxb gy rfl with h | h
            · exact HLM.out x h1 (by rw [e]; exact h)
            · have := Hl7.out x h1; (try simp at h); omega)
          have HNy := Lib.hid (show ∀ x, (Value.slice An i cn).ownBlock = some x → x ≠ gy from fun x h1 e => by
            rcases hxb gy rfl with h | h
            · exact HMN.out x (by rw [e]; exact h) h1
            · have := Hn7.out x h1; (try simp at h); omega)
          have hgy : w.heap.size ≤ gy := by
            rcases hxb gy rfl with h | h
            · have := hms gy h; omega
            · have := HB13.out.size; (try simp at h); omega
          have HL := Lib.hid (Bk.own_kept HL.out hk (fun x h1 h2 => HLM.out x h1 h2))
          have HN := Lib.hid (Bk.own_kept HN.out hk (fun x h1 h2 => HMN.out x h2 h1))
          have HB15 := Lib.hid (HB14.out.trans (hk.below HB14.out.size (fun x hx => by have := hms x hx; omega)))
          have HX := Lib.hid hx
          have hzl : (ms ++ [(-11, -12)]).length = u + 1 := by rw [List.length_append, Hu.out]; rfl
          have Hzl := Lib.hid hzl
          generalize ms ++ [(-11, -12)] = mx at *
          clear hx hk hxb hms hzl HB13 HB14 Hl7 Hn7
          go_wp2_with fail
          go_loopw [15] (fun iv wr => ∃ (j : Nat) (vs : List (Int × Int)), iv = .int .i64 (j : Int) ∧ j ≤ u + 1 ∧ vs.length = u + 1 ∧ wr.ownsRow 0 127 2 (.slice (some ⟨gy, 0, none⟩) (u + 1) cy) (u + 1) (C4.pcs vs) ∧ Kept (fun k => k = gy) w15 wr) (fun iv _ => u + 1 - (intOf iv).toNat)
          case atStart => exact ⟨0, mx, rfl, by omega, Hzl.out, HX.out, Kept.refl _ _⟩
          case round =>
            obtain ⟨j, vs, rfl, hj, hyl, hown, hkk⟩ := hrel
            have Ho := Lib.hid hown; have Hk := Lib.hid hkk; have Hv := Lib.hid hyl
            clear hown hkk hyl
            by_cases hlt : j < u + 1
            · have q1 : (j : Int) < (u : Int) + 1 := by omega
              obtain ⟨y, hy⟩ : ∃ y, vs[j]? = some y := ⟨vs[j]'(by rw [Hv.out]; exact hlt), List.getElem?_eq_getElem _⟩
              obtain ⟨e0, e1⟩ := C4.pcs_get hy
              have o0 := Bk.own_cell Ho.out e0
              have o1 := Bk.own_cell Ho.out e1
              have f0 := Bk.own_frozen Ho.out (j * 2); have f1 := Bk.own_frozen Ho.out (j * 2 + 1)
              have Ho2 := Lib.hid (own_pair Ho.out (i := j) (by rw [Hv.out]; exact hlt) (-13) (-14))
              have Hk2 := Lib.hid (Hk.out.trans (kept_pair wr gy j (.int .i64 (-13)) (.int .i64 (-14))) (fun _ h => .inl h))
              clear hy e0 e1
              go_wp2_with fail
              exact ⟨⟨j + 1, vs.set j (-13, -14), by congr 1, by omega, by rw [List.length_set]; exact Hv.out, Ho2.out, Hk2.out⟩, by simp [intOf]; omega⟩
            · obtain rfl : j = u + 1 := by omega
              have q1 : ¬ ((u + 1 : Nat) : Int) < (u : Int) + 1 := by omega
              have HL := Lib.hid (Bk.own_kept HL.out Hk.out HLy.out)
              have HN := Lib.hid (Bk.own_kept HN.out Hk.out HNy.out)
              have HB16 := Lib.hid (HB15.out.trans (Hk.out.below HB15.out.size (fun x hx => by rw [hx]; exact hgy)))
              clear Ho Hk Hv
              generalize wr = w16 at *
              go_wp2_with fail
              refine (C4.sameP_calls Al An i capl i cn _ _ ys ys w16 Hy.out.symm Hy.out.symm (Bk.own_caps HL.out).1 (Bk.own_caps HN.out).1 (Bk.own_caps HL.out).2 (Bk.own_caps HN.out).2 (Bk.own_rd HL.out) (Bk.own_rd HN.out)).mono ?_
              rintro e w17 ⟨rfl, k7, rfl⟩
              rw [decide_eq_true rfl]
              have HB17 := Lib.hid (HB16.out.trans ((Bk.drewN_below w16 k7).mono HB16.out.size))
              go_wp2_with fail
              go_ret
              exact ⟨rfl, HB17.out⟩
end Go.Proofs.YtmeoafodcniliaaGreatDoor
