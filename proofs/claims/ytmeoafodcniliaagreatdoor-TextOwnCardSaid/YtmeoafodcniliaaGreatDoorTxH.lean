/- Parse -/
import Derived.Test.YtmeoafodcniliaaGreatDoorTxG
namespace Go.Proofs.YtmeoafodcniliaaGreatDoor.C4
open Go.RowKit
set_option linter.unusedSimpArgs false
set_option linter.unusedVariables false
theorem own_rd_s {w : World} {base s : Nat} {t : TypeId} {A : Option Addr} {n cap : Nat} {xs : List Value} (h : w.ownsRow base t s (.slice A n cap) n xs) : Rd w w.heap.size A xs := by
  intro k v hv
  obtain ⟨h1, h2⟩ := h
  have hk : k < xs.length := (List.getElem?_eq_some_iff.1 hv).1
  rcases h2 with ⟨h2, rfl⟩ | ⟨g, cap', cur, h2, _, h4, h5, h6, h7, h8⟩
  · rw [h1] at hk; omega
  · injection h2 with e1 e2 e3
    subst e1
    refine ⟨g, 0, rfl, lt_heap h4, ?_⟩
    rw [cell_heap h4, Nat.zero_add, ← hv, ← h8, List.getElem?_take, if_pos (by omega)]
    simp
theorem own_nil_s {w : World} {base s : Nat} {t : TypeId} {A : Option Addr} {n cap : Nat} {xs : List Value} (h : w.ownsRow base t s (.slice A n cap) n xs) : A = none → n = 0 ∧ cap = 0 := by
  rintro rfl
  rcases h.2 with ⟨h2, rfl⟩ | ⟨g, cap', cur, h2, _⟩
  · injection h2 with _ _ h2; exact ⟨rfl, h2⟩
  · injection h2 with h2; cases h2
theorem own_cap_s {w : World} {base s : Nat} {t : TypeId} {A : Option Addr} {n cap : Nat} {xs : List Value} (h : w.ownsRow base t s (.slice A n cap) n xs) : n ≤ cap ∧ cap ≤ maxLen := by
  rcases h.2 with ⟨h2, rfl⟩ | ⟨g, cap', cur, h2, _, _, h5, h6, _⟩
  · injection h2 with _ _ h2; subst h2; exact ⟨Nat.le_refl _, by unfold maxLen; omega⟩
  · injection h2 with _ _ h2; subst h2; exact ⟨h5, h6⟩
theorem pcs_one (ps : List (Int × Int)) : ∀ u ∈ pcs ps, u.oneCell' = true := by
  intro u hu
  unfold pcs at hu
  obtain ⟨p, _, hp⟩ := List.mem_flatMap.1 hu
  simp at hp
  rcases hp with rfl | rfl <;> rfl
theorem wpList_append_rds {P : Program} {w : World} {ops : Array Oper} {rest : List Oper} {o : Oper} {a : Act} {Q : Exit → Act → World → Prop} (hgd : o.guard = none) (s x : Operand) (t : TypeId)
    (ho : o.op = .call { callee := .builtin .append, args := #[s, x], argTypes := #[t, t] })
    (base : Nat) (e : TypeId) (i : TypeInfo) (z : Value) (size bytes : Nat) (ht : P.underlying t = some (.slice e)) (hi : P.info? e = some i) (hz : i.zero = some z)
    (hsize : i.size = size) (hby : i.bytes = bytes) (hzs : z.cells.size = size) (hsz : 0 < size)
    (v : Value) (n : Nat) (xs : List Value) (hs : a.eval s = v) (hown : w.ownsRow base e size v n xs)
    (B : Nat) (A : Option Addr) (m c : Nat) (news : List Value) (hx : a.eval x = .slice A m c) (hm : news.length = m * size) (hnil : A = none → m = 0 ∧ c = 0) (hr : Rd w B A news) (h1 : ∀ u ∈ news, u.oneCell' = true)
    (h63 : n + m ≤ maxLen) (hbytes : (n + m) * bytes ≤ 140737488355328) (hbase : base ≤ w.heap.size)
    (h : ∀ v' w', w'.ownsRow base e size v' (n + m) (xs ++ news) → w.grownBy w' v.ownBlock → wpList P ops Q rest (a.put o.dst v') w') : wpList P ops Q (o :: rest) a w := by
  rcases A with _ | ad
  · obtain ⟨rfl, rfl⟩ := hnil rfl
    have hn : news = [] := List.eq_nil_of_length_eq_zero (by omega)
    subst hn
    refine wpList_append_own_none hgd s x t ho base e i size ht hi v n xs hs hown hx ?_
    exact h v w (by simpa using hown) (World.grownBy.refl w _)
  · exact wpList_append_own w hgd s x t ho base e i z size bytes ht hi hz hsize hby hzs hsz v n xs hs hown ad m c news hx hm (rd_news hr ad rfl) h1 h63 hbytes hbase fun v' w' a b _ => h v' w' a b
theorem results_tmp4 {fn : Func} {t u v x : Tmp} (h : fn.results = #[.tmp t, .tmp u, .tmp v, .tmp x]) (tmps : Array Value) (P : Program) (w : World) :
    (results fn tmps).run P w = .ok (.tuple #[tmps.getD t undef, tmps.getD u undef, tmps.getD v undef, tmps.getD x undef]) w := by
  simp [results, h]
namespace Tx
/-- All lines of a text. -/
def lines (t : List By) : List (List By) := whole t ++ lasts (tail t)
def all (t : List By) : Run := run 0 false (lines t)
theorem run_e_pairs : ∀ (n : Int) (b : Bool) (ls : List (List By)), (run n b ls).pairs.length ≤ (run n b ls).k
  | _, _, [] => Nat.le_refl _
  | n, b, l :: ls => by
    rw [run_cons]
    split
    · simp
    · have := run_e_pairs (scan n b (words l)).n (scan n b (words l)).begun ls
      dsimp only
      rw [List.length_append]
      have h : (if (scan n b (words l)).says = true then [((scan n b (words l)).u, (scan n b (words l)).v)] else []).length ≤ 1 := by split <;> simp
      omega
theorem run_k : ∀ (n : Int) (b : Bool) (ls : List (List By)), (run n b ls).k ≤ ls.length
  | _, _, [] => Nat.le_refl _
  | n, b, l :: ls => by
    rw [run_cons]
    split
    · simp
    · have := run_k (scan n b (words l)).n (scan n b (words l)).begun ls
      simp; omega
theorem split_length : ∀ (k : Nat) (bs : List By), (split k bs).1.length + (split k bs).2.length ≤ bs.length
  | 0, bs => by simp [split]
  | k + 1, bs => by
    unfold split
    cases hi : nlIdx bs with
    | none => simp
    | some i =>
      have hl := nlIdx_lt hi
      have := split_length k (bs.drop (i + 1))
      simp at this ⊢
      omega
theorem whole_tail_length (bs : List By) : (whole bs).length + (tail bs).length ≤ bs.length := split_length _ _
/-- Of the two calls. -/
theorem all_fault {t : List By} (h : (run 0 false (whole t)).e ≠ 0) : all t = run 0 false (whole t) := by
  unfold all lines
  rw [run_append, if_pos h]
theorem all_on {t : List By} (h : (run 0 false (whole t)).e = 0) : all t =
    ⟨(run 0 false (whole t)).pairs ++ (run (run 0 false (whole t)).n (run 0 false (whole t)).begun (lasts (tail t))).pairs, (run (run 0 false (whole t)).n (run 0 false (whole t)).begun (lasts (tail t))).e, (run 0 false (whole t)).k + (run (run 0 false (whole t)).n (run 0 false (whole t)).begun (lasts (tail t))).k, (run (run 0 false (whole t)).n (run 0 false (whole t)).begun (lasts (tail t))).n, (run (run 0 false (whole t)).n (run 0 false (whole t)).begun (lasts (tail t))).begun⟩ := by
  unfold all lines
  rw [run_append, if_neg (by rw [h]; simp)]
end Tx
/-- What Parse answers. -/
def ParseSaid (T : List (BitVec 8)) (w : World) (en : Ending) (w' : World) : Prop :=
  ∃ Al capl, en = .returned (.tuple #[.int .i64 (if (Tx.all T).eEnd = 0 then (Tx.all T).n else 0), .slice Al (Tx.all T).pEnd.length capl, .int .i64 ((Tx.all T).fEnd 0 0), .int .i64 (Tx.all T).eEnd]) ∧
    w'.ownsRow w.heap.size 127 2 (.slice Al (Tx.all T).pEnd.length capl) (Tx.all T).pEnd.length (pcs (Tx.all T).pEnd) ∧ Below w.heap.size w w'
set_option maxHeartbeats 8000000 in
set_option maxRecDepth 20000 in
theorem Parse_calls (A : Option Addr) (n cap B : Nat) (T : List (BitVec 8)) (w : World)
    (hn : n = T.length) (hm : n ≤ 274877906944) (hcap : n ≤ cap) (hnil : A = none → n = 0 ∧ cap = 0) (hB : B ≤ w.heap.size) (hr : Rd w B A (T.map V8)) :
    Calls Tryz.prog 12 #[.slice A n cap] w (ParseSaid T w) := by
  have Hn := Lib.hid hn; have Hnil := Lib.hid hnil; have Hr := Lib.hid hr
  clear hn hnil hr
  go_enter Tryz.func12, Tryz.ntmps12
  go_wp2_with fail
  refine (NewEdges_calls w).mono ?_
  rintro en w1 ⟨rfl, rfl⟩
  have hb1 : Below w.heap.size w (w.alloc (.cells #[.slice none 0 0, .int .i64 0, .int .i64 0, .int .i64 0, .bool false, .bool false] 132)) := (Below.refl _ _).alloc (Nat.le_refl _) _
  have hs1 : EdIs (w.alloc (.cells #[.slice none 0 0, .int .i64 0, .int .i64 0, .int .i64 0, .bool false, .bool false] 132)) w.heap.size (.slice none 0 0) 0 0 0 false false := heap_alloc_new _ _
  have hr1 := Hr.out.below hb1 hB
  have hsz1 : (w.alloc (.cells #[.slice none 0 0, .int .i64 0, .int .i64 0, .int .i64 0, .bool false, .bool false] 132)).heap.size = w.heap.size + 1 := by simp
  generalize w.alloc (.cells #[.slice none 0 0, .int .i64 0, .int .i64 0, .int .i64 0, .bool false, .bool false] 132) = w1 at *
  have hfe := Feed_calls w.heap.size none 0 0 w1.heap.size [] 0 0 0 false A n cap B T w1 hs1 (World.ownsRow_nil _ _ _ _) (by intro a h; cases h) (Nat.le_refl _) Hn.out hm hcap Hnil.out (by omega) hr1 (by omega) (by omega) (by omega)
  simp only [List.nil_append, Int.zero_add] at hfe
  have Hfe := Lib.hid hfe
  have Hb1 := Lib.hid hb1; have Hs1 := Lib.hid hs1
  clear hb1 hs1 hr1 hfe
  have hlen := Tx.whole_tail_length T
  have hrk := Tx.run_k 0 false (Tx.whole T)
  have hrp := Tx.run_e_pairs 0 false (Tx.whole T)
  have hnT := Hn.out
  have Hf1 := Lib.hid (fun h => Tx.all_fault (t := T) h); have Ho1 := Lib.hid (fun h => Tx.all_on (t := T) h)
  obtain ⟨tl, htl⟩ : ∃ tl, tl = Tx.tail T := ⟨_, rfl⟩
  obtain ⟨wh, hwh⟩ : ∃ wh, wh = Tx.whole T := ⟨_, rfl⟩
  rw [← htl, ← hwh] at hlen Hfe Ho1
  rw [← hwh] at hrk hrp Hf1
  clear htl hwh
  obtain ⟨R1, hR1⟩ : ∃ R1, R1 = Tx.run 0 false wh := ⟨_, rfl⟩
  rw [← hR1] at Hfe hrk hrp Hf1 Ho1
  clear hR1
  have hk1 : R1.k ≤ 274877906944 := by omega
  have hp1 : R1.pairs.length ≤ 274877906944 := by omega
  have htl1 : tl.length ≤ 274877906944 := by omega
  clear hlen hrk hrp hnT
  obtain ⟨P1, e1, k1, n1, b1⟩ := R1
  dsimp only at Hfe Hf1 Ho1 hk1 hp1
  go_wp2_with fail
  refine (Hfe.out).mono ?_
  rintro en w2 ⟨Al, capl, rfl, hl, hk2, hcase⟩
  have hk2' : Keep [w.heap.size] w1 w2 := hk2
  have hsz2 := hk2.size
  have hb2 : Below w.heap.size w w2 := Hb1.out.trans (hk2'.below (by omega) (by simp))
  have Hk2 := Lib.hid hk2'; have Hl := Lib.hid hl; have Hb2 := Lib.hid hb2
  clear hk2 hk2' hl hb2 Hfe
  rcases hcase with ⟨he, Ar, capr, hs2, hown2⟩ | ⟨he, rv, hs2⟩
  · subst he
    have hcr := own_cap hown2
    have hsm := hs2.lt
    have Hen := Lib.hid (End_calls w.heap.size Ar tl.length capr w2.heap.size tl k1 0 n1 b1 w2 hs2 (own_ne_ed hown2 hs2 (by decide)) (own_nil hown2) hcr.1 rfl (by omega) (Nat.le_refl _) (own_rd hown2) (by omega) (by omega))
    have HO := Lib.hid (Ho1.out rfl)
    clear hs2 hown2 Ho1 Hf1 hcr
    unfold EndSaid at Hen
    have hkp : (Tx.run n1 b1 (Tx.lasts tl)).pEnd.length ≤ 1 := by
      have h1 := Tx.run_e_pairs n1 b1 (Tx.lasts tl)
      have h2 := Tx.run_k n1 b1 (Tx.lasts tl)
      have h3 : (Tx.lasts tl).length ≤ 1 := by unfold Tx.lasts; split <;> simp
      have h4 : (Tx.run n1 b1 (Tx.lasts tl)).pEnd.length ≤ (Tx.run n1 b1 (Tx.lasts tl)).pairs.length := by unfold Tx.Run.pEnd; split <;> simp
      omega
    have HA := Lib.hid (show Tx.all T = ⟨P1 ++ (Tx.run n1 b1 (Tx.lasts tl)).pairs, (Tx.run n1 b1 (Tx.lasts tl)).e, k1 + (Tx.run n1 b1 (Tx.lasts tl)).k, (Tx.run n1 b1 (Tx.lasts tl)).n, (Tx.run n1 b1 (Tx.lasts tl)).begun⟩ from HO.out)
    clear HO
    generalize Tx.run n1 b1 (Tx.lasts tl) = R2 at *
    have hE : (Tx.all T).eEnd = R2.eEnd := by rw [HA.out]; rfl
    have hF : (Tx.all T).fEnd 0 0 = R2.fEnd k1 0 := by rw [HA.out]; unfold Tx.Run.fEnd; dsimp only; split <;> simp
    have hN : (Tx.all T).n = R2.n := by rw [HA.out]
    have hP : (Tx.all T).pEnd = if R2.eEnd = 0 then P1 ++ R2.pEnd else [] := by
      unfold Tx.Run.pEnd; rw [hE]
      by_cases h : R2.eEnd = 0
      · rw [if_pos h, if_pos h, if_pos h, HA.out]
      · rw [if_neg h, if_neg h]
    have hZ : R2.eEnd = 0 → R2.fEnd k1 0 = 0 := by
      intro h
      unfold Tx.Run.eEnd at h; unfold Tx.Run.fEnd
      by_cases he : R2.e ≠ 0
      · rw [if_pos he] at h; exact absurd h he
      · rw [if_neg he]
    have HZ := Lib.hid hZ
    clear hZ
    have HE := Lib.hid hE; have HF := Lib.hid hF; have HN := Lib.hid hN; have HP := Lib.hid hP
    clear hE hF hN hP HA
    obtain ⟨E2, hE2⟩ : ∃ x, x = R2.eEnd := ⟨_, rfl⟩
    obtain ⟨P2, hP2⟩ : ∃ x, x = R2.pEnd := ⟨_, rfl⟩
    obtain ⟨F2, hF2⟩ : ∃ x, x = R2.fEnd k1 0 := ⟨_, rfl⟩
    rw [← hE2, ← hP2, ← hF2] at Hen
    rw [← hE2] at HE HP HZ; rw [← hP2] at HP hkp; rw [← hF2] at HF HZ
    clear hE2 hP2 hF2
    obtain ⟨pp, ee, kk, n2, b2⟩ := R2
    dsimp only at Hen HN
    have hlw := own_cap_s Hl.out
    go_wp2_with fail
    refine (Hen.out).mono ?_
    rintro en w3 ⟨A3, cap3, rv, rfl, hl3, hk3, hs3⟩
    have hsz3 := hk3.size
    have hl2 : w3.ownsRow w1.heap.size 127 2 (.slice Al P1.length capl) P1.length (pcs P1) := own_keep_s Hl.out hk3 (by
      intro g hg hm
      have := (own_blk Hl.out hg).1
      simp at hm; omega)
    have hr3 := own_rd_s hl3; have hn3 := own_nil_s hl3
    have hb3 := Hb2.out.trans (hk3.below (by omega) (by simp))
    have Hl2 := Lib.hid (own_base_s hl2 (show w.heap.size ≤ _ by omega)); have Hr3 := Lib.hid hr3; have Hn3 := Lib.hid hn3; have Hb3 := Lib.hid hb3; have Hs3 := Lib.hid hs3
    have hsb : w.heap.size ≤ w3.heap.size := by omega
    have hgg : ∀ g, (Value.slice Al P1.length capl).ownBlock = some g → w1.heap.size ≤ g := fun g hg => (own_blk Hl.out hg).1
    have Hge := Lib.hid (show ∀ x ∈ (Value.slice Al P1.length capl).ownBlock.toList, w.heap.size ≤ x from fun x hx => by have := hgg x (by simpa using hx); omega)
    have Hgo := Lib.hid (show w.heap.size ∉ (Value.slice Al P1.length capl).ownBlock.toList from fun hx => by have := hgg _ (by simpa using hx); omega)
    clear hgg
    obtain ⟨i0, hi0, hz0, hz1, hz2⟩ := info_parts infoPa
    have Hi := Lib.hid hi0
    clear hl2 hr3 hn3 hb3 hs3 hi0 hl3 hk3 Hl Hb2 Hen
    by_cases hE0 : E2 = 0
    · subst hE0
      go_wp2_with (at_builtin; refine wpList_append_rds rfl _ _ 23 rfl w.heap.size 127 i0 _ 2 16 descPas Hi.out hz0 hz1 hz2 rfl (by decide) _ P1.length (pcs P1) rfl Hl2.out w3.heap.size A3 P2.length cap3 (pcs P2) rfl (pcs_length P2) Hn3.out Hr3.out (pcs_one P2) (by unfold maxLen; omega) (by omega) hsb ?_; intro v9 w9 hown9 hg9; obtain ⟨A9, cap9, rfl⟩ := own_size hown9; have hkg : Keep ((Value.slice Al P1.length capl).ownBlock.toList) w3 w9 := Keep.grown hg9; have Hs9 := Lib.hid (Hs3.out.keep hkg Hgo.out); have Hb9 := Lib.hid (Hb3.out.trans (hkg.below hsb Hge.out)); have Hown9 := Lib.hid hown9; clear hown9 hg9 hkg)
      refine (N_calls w.heap.size rv _ _ _ _ _ w9 Hs9.out).mono ?_
      rintro en w10 ⟨rfl, rfl⟩
      go_wp2_with fail
      (try simp only [Exit.inBlock, Exit.then])
      refine bodyPost_ret (results_tmp4 rfl _ _ _) rfl ?_
      unfold ParseSaid
      have hP0 := HP.out
      simp only [if_true] at hP0
      rw [HE.out, HF.out, HN.out, hP0]
      simp only [if_true]
      rw [List.length_append, pcs_append, HZ.out (by trivial)]
      exact ⟨_, _, rfl, Hown9.out, Hb9.out⟩
    · have hne : (E2 != 0) = true := by simpa using hE0
      have HE0 := Lib.hid hE0
      clear hE0
      go_wp2_with (at_builtin; refine wpList_append_rds rfl _ _ 23 rfl w.heap.size 127 i0 _ 2 16 descPas Hi.out hz0 hz1 hz2 rfl (by decide) _ P1.length (pcs P1) rfl Hl2.out w3.heap.size A3 P2.length cap3 (pcs P2) rfl (pcs_length P2) Hn3.out Hr3.out (pcs_one P2) (by unfold maxLen; omega) (by omega) hsb ?_; intro v9 w9 hown9 hg9; obtain ⟨A9, cap9, rfl⟩ := own_size hown9; have hkg : Keep ((Value.slice Al P1.length capl).ownBlock.toList) w3 w9 := Keep.grown hg9; have Hs9 := Lib.hid (Hs3.out.keep hkg Hgo.out); have Hb9 := Lib.hid (Hb3.out.trans (hkg.below hsb Hge.out)); have Hown9 := Lib.hid hown9; clear hown9 hg9 hkg)
      refine (Line_calls w.heap.size rv _ _ _ _ _ w9 Hs9.out).mono ?_
      rintro en w10 ⟨rfl, rfl⟩
      go_wp2_with fail
      (try simp only [Exit.inBlock, Exit.then])
      refine bodyPost_ret (results_tmp4 rfl _ _ _) rfl ?_
      unfold ParseSaid
      rw [HE.out, HF.out, HP.out, if_neg HE0.out, if_neg HE0.out]
      exact ⟨none, 0, rfl, World.ownsRow_nil _ _ _ _, Hb9.out⟩
  · have HA := Lib.hid (Hf1.out he)
    have He := Lib.hid he
    have hne : (e1 == 0) = false := by simpa using he
    have hne2 : (e1 != 0) = true := by simpa using he
    have Hs2 := Lib.hid hs2
    clear he hs2 Hf1 Ho1
    go_wp2_with fail
    refine (Line_calls w.heap.size rv _ _ _ _ _ w2 Hs2.out).mono ?_
    rintro en w3 ⟨rfl, rfl⟩
    go_wp2_with fail
    (try simp only [Exit.inBlock, Exit.then])
    refine bodyPost_ret (results_tmp4 rfl _ _ _) rfl ?_
    have e2 : (Tx.all T).eEnd = e1 := by rw [HA.out]; unfold Tx.Run.eEnd; rw [if_pos He.out]
    unfold ParseSaid
    unfold Tx.Run.pEnd
    rw [e2, if_neg He.out, if_neg He.out]
    have e3 : (Tx.all T).fEnd 0 0 = k1 := by rw [HA.out]; unfold Tx.Run.fEnd; rw [if_pos He.out]; simp
    rw [e3]
    exact ⟨none, 0, rfl, World.ownsRow_nil _ _ _ _, Hb2.out⟩
end Go.Proofs.YtmeoafodcniliaaGreatDoor.C4
