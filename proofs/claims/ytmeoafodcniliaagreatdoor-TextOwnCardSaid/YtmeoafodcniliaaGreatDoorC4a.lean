/- from chapter 4: what is wanted here -/
import Derived.Test.YtmeoafodcniliaaGreatDoorWords
import Derived.WalkKit
import Derived.WalkMore
import Derived.ScopeJumps
import Derived.Test.YtmeoafodcniliaaGreatDoorHelp
import Derived.BigQuiet
import Derived.Deep.RegionHeld
import Derived.Lib.ItoaLen
import Derived.Deep.DeepCutAuto
import Derived.Test.YtmeoafodcniliaaGreatDoorRows
namespace Go.Proofs.YtmeoafodcniliaaGreatDoor
open Go.RowKit
set_option linter.unusedSimpArgs false
set_option linter.unusedVariables false
set_option maxRecDepth 20000
namespace Tx
abbrev By := BitVec 8
def isBl (c : By) : Bool := n8 c == 32 || n8 c == 9
def isHash (c : By) : Bool := n8 c == 35
/-- Where the words stand: places and lengths; st: where a word has begun; i: the place of the rest. -/
def sS : Option Nat → Nat → List By → List (Nat × Nat)
  | none, _, [] => []
  | some f, i, [] => [(f, i - f)]
  | none, i, c :: r => if isHash c then [] else if isBl c then sS none (i + 1) r else sS (some i) (i + 1) r
  | some f, i, c :: r => if isHash c then [(f, i - f)] else if isBl c then (f, i - f) :: sS none (i + 1) r else sS (some f) (i + 1) r
def spans (bs : List By) : List (Nat × Nat) := sS none 0 bs
def cutOut (bs : List By) (p : Nat × Nat) : List By := (bs.drop p.1).take p.2
def words (bs : List By) : List (List By) := (spans bs).map (cutOut bs)
def isDig (c : By) : Bool := decide (48 ≤ n8 c) && decide (n8 c ≤ 57)
def valF (acc : Nat) (w : List By) : Nat := w.foldl (fun a c => 10 * a + (n8 c - 48)) acc
/-- What a word says as a number. -/
def num (w : List By) : Int × Bool :=
  if w.length = 0 ∨ 10 < w.length ∨ (1 < w.length ∧ (w.getD 0 0).toNat = 48) then (0, false)
  else if w.all isDig then ((valF 0 w : Nat), decide (valF 0 w ≤ 2147483647)) else (0, false)
/-- Two vertices of two words. -/
def two (a b : List By) (n : Int) : Int × Int × Int :=
  if (num a).2 = false ∨ (num b).2 = false then (0, 0, 40) else if n ≤ (num a).1 ∨ n ≤ (num b).1 then (0, 0, 42) else ((num a).1, (num b).1, 0)
/-- What a line answers: its pair, whether it says one, its error; what has been said of n. -/
structure Sc where
  u : Int
  v : Int
  says : Bool
  e : Int
  n : Int
  begun : Bool
def vertices : List By := [118#8, 101#8, 114#8, 116#8, 105#8, 99#8, 101#8, 115#8]
def scan (n : Int) (begun : Bool) (ws : List (List By)) : Sc :=
  match ws with
  | [] => ⟨0, 0, false, 0, n, begun⟩
  | [a, b] =>
    if begun then ⟨(two a b n).1, (two a b n).2.1, decide ((two a b n).2.2 = 0), (two a b n).2.2, n, begun⟩
    else if a ≠ vertices ∨ (num b).2 = false then ⟨0, 0, false, 40, n, begun⟩
    else if 16777216 < (num b).1 then ⟨0, 0, false, 41, n, begun⟩
    else ⟨0, 0, false, 0, (num b).1, true⟩
  | _ => ⟨0, 0, false, 40, n, begun⟩
/-! lines -/
def nlIdx : List By → Option Nat
  | [] => none
  | c :: r => if n8 c = 10 then some 0 else (nlIdx r).map (· + 1)
/-- The lines that a newline ends, and what stands behind the last one. -/
def split : Nat → List By → List (List By) × List By
  | 0, bs => ([], bs)
  | k + 1, bs => match nlIdx bs with
    | none => ([], bs)
    | some i => (bs.take i :: (split k (bs.drop (i + 1))).1, (split k (bs.drop (i + 1))).2)
def whole (bs : List By) : List (List By) := (split bs.length bs).1
def tail (bs : List By) : List By := (split bs.length bs).2
/-- What lines say up to the first fault: pairs, error, how many were taken in, what is known then. -/
structure Run where
  pairs : List (Int × Int)
  e : Int
  k : Nat
  n : Int
  begun : Bool
def run (n : Int) (begun : Bool) : List (List By) → Run
  | [] => ⟨[], 0, 0, n, begun⟩
  | l :: ls =>
    let s := scan n begun (words l)
    if s.e ≠ 0 then ⟨[], s.e, 1, s.n, s.begun⟩
    else ⟨(if s.says then [(s.u, s.v)] else []) ++ (run s.n s.begun ls).pairs, (run s.n s.begun ls).e, (run s.n s.begun ls).k + 1, (run s.n s.begun ls).n, (run s.n s.begun ls).begun⟩
end Tx
/-- All blocks but these are as they were. -/
structure Keep (ks : List Nat) (w w' : World) : Prop where
  os : w'.os = w.os
  tape : w'.tape = w.tape
  output : w'.output = w.output
  size : w.heap.size ≤ w'.heap.size
  block : ∀ k, k < w.heap.size → k ∉ ks → w'.heap[k]? = w.heap[k]?
theorem Keep.refl (ks : List Nat) (w : World) : Keep ks w w := ⟨rfl, rfl, rfl, Nat.le_refl _, fun _ _ _ => rfl⟩
theorem Keep.trans {ks : List Nat} {a b c : World} (h : Keep ks a b) (k : Keep ks b c) : Keep ks a c :=
  ⟨k.os.trans h.os, k.tape.trans h.tape, k.output.trans h.output, Nat.le_trans h.size k.size, fun i hi hn => (k.block i (Nat.lt_of_lt_of_le hi h.size) hn).trans (h.block i hi hn)⟩
theorem Keep.below {ks : List Nat} {w w' : World} {B : Nat} (h : Keep ks w w') (hB : B ≤ w.heap.size) (hk : ∀ k ∈ ks, B ≤ k) : Below B w w' :=
  ⟨h.os, h.tape, h.output, h.size, fun k hk2 => h.block k (Nat.lt_of_lt_of_le hk2 hB) fun hm => by have := hk k hm; omega⟩
theorem Keep.grown {w w' : World} {o : Option Nat} (h : w.grownBy w' o) : Keep o.toList w w' :=
  ⟨h.os, h.tape, h.output, h.size, fun k hk hn => h.block k hk fun he => hn (by rw [← he]; simp)⟩
/-- A scanner in memory. -/
def EdIs (w : World) (g : Nat) (rv : Value) (line fault n : Int) (b e : Bool) : Prop :=
  w.heap[g]? = some (.cells #[rv, .int .i64 line, .int .i64 fault, .int .i64 n, .bool b, .bool e] 132 (0, 0))
section
variable {w : World} {g : Nat} {rv : Value} {line fault n : Int} {b e : Bool}
theorem EdIs.f (h : EdIs w g rv line fault n b e) (o : Nat) : w.frozen? ⟨g, o, none⟩ = false := by unfold EdIs at h; simp [World.frozen?, h]
theorem EdIs.lt (h : EdIs w g rv line fault n b e) : g < w.heap.size := lt_heap h
theorem EdIs.below {w' : World} (h : EdIs w g rv line fault n b e) {B : Nat} (hk : Below B w w') (hn : g < B) : EdIs w' g rv line fault n b e := (hk.block g hn).trans h
end
/-- A pair in memory. -/
def PaIs (w : World) (g : Nat) (p : Int × Int) : Prop := w.heap[g]? = some (.cells #[.int .i64 p.1, .int .i64 p.2] 127 (0, 0))
theorem PaIs.f {w : World} {g : Nat} {p : Int × Int} (h : PaIs w g p) (o : Nat) : w.frozen? ⟨g, o, none⟩ = false := by unfold PaIs at h; simp [World.frozen?, h]
theorem own_size {w : World} {base s : Nat} {t : TypeId} {v : Value} {n : Nat} {xs : List Value} (h : w.ownsRow base t s v n xs) : ∃ A cap, v = .slice A n cap := by
  rcases h.2 with ⟨rfl, rfl⟩ | ⟨g, cap, cur, rfl, _⟩
  · exact ⟨_, _, rfl⟩
  · exact ⟨_, _, rfl⟩
theorem own_below_s {w w' : World} {base s : Nat} {t : TypeId} {v : Value} {n : Nat} {xs : List Value} {B : Nat} (h : w.ownsRow base t s v n xs) (hb : Below B w w') (hB : w.heap.size ≤ B) : w'.ownsRow base t s v n xs :=
  h.kept (row := none) ⟨hb.os, hb.tape, hb.output, hb.size, fun k hk _ => hb.block k (Nat.lt_of_lt_of_le hk hB)⟩ (by cases hv : v.ownBlock <;> simp)
/-- The cells of pairs. -/
def pcs (ps : List (Int × Int)) : List Value := ps.flatMap fun p => [.int .i64 p.1, .int .i64 p.2]
theorem pcs_append (a b : List (Int × Int)) : pcs (a ++ b) = pcs a ++ pcs b := by unfold pcs; rw [List.flatMap_append]
theorem infoPa : (Tryz.prog.info? 127).map (fun i => (i.zero, i.size, i.bytes)) = some (some (.agg #[.int .i64 0, .int .i64 0]), 2, 16) := by kernel_rfl
theorem descPas : Tryz.prog.underlying 23 = some (.slice 127) := by kernel_rfl
namespace Tx
/-- The line that no newline ends. -/
def lasts (t : List By) : List (List By) := if t = [] then [] else [t]
end Tx
theorem wpList_append_rds {P : Program} {w : World} {ops : Array Oper} {rest : List Oper} {o : Oper} {a : Act} {Q : Exit → Act → World → Prop} (hgd : o.guard = none) (s x : Operand) (t : TypeId)
    (ho : o.op = .call { callee := .builtin .append, args := #[s, x], argTypes := #[t, t] })
    (base : Nat) (e : TypeId) (i : TypeInfo) (z : Value) (size bytes : Nat) (ht : P.underlying t = some (.slice e)) (hi : P.info? e = some i) (hz : i.zero = some z)
    (hsize : i.size = size) (hby : i.bytes = bytes) (hzs : z.cells.size = size) (hsz : 0 < size)
    (v : Value) (n : Nat) (xs : List Value) (hs : a.eval s = v) (hown : w.ownsRow base e size v n xs)
    (B : Nat) (A : Option Addr) (m c : Nat) (news : List Value) (hx : a.eval x = .slice A m c) (hm : news.length = m * size) (hnil : A = none → m = 0 ∧ c = 0) (hr : Rd w B A news) (h1 : ∀ u ∈ news, u.oneCell' = true)
    (h63 : n + m ≤ maxLen) (hbytes : (n + m) * bytes ≤ 140737488355328) (hbase : base ≤ w.heap.size)
    (h : ∀ v' w', w'.ownsRow base e size v' (n + m) (xs ++ news) → w.grownBy w' v.ownBlock → wpList P ops Q rest (a.put o.dst v') w') : wpList P ops Q (o :: rest) a w := by
  rcases A with _ | ad
  · obtain ⟨rfl, rfl⟩ := hnil rfl
    have hn : news = [] := List.eq_nil_of_length_eq_zero (by omega)
    subst hn
    refine wpList_append_own_none hgd s x t ho base e i size ht hi v n xs hs hown hx ?_
    exact h v w (by simpa using hown) (World.grownBy.refl w _)
  · exact wpList_append_own w hgd s x t ho base e i z size bytes ht hi hz hsize hby hzs hsz v n xs hs hown ad m c news hx hm (rd_news hr ad rfl) h1 h63 hbytes hbase fun v' w' a b _ => h v' w' a b
namespace Tx
/-- All lines of a text. -/
def lines (t : List By) : List (List By) := whole t ++ lasts (tail t)
end Tx
namespace Tx
/-- What a change says. -/
structure Ch where
  u : Int
  v : Int
  gone : Bool
  e : Int
def change (ws : List (List By)) (n : Int) : Ch :=
  match ws with
  | [a, b, c] => if a = [43#8] ∨ a = [45#8] then ⟨(two b c n).1, (two b c n).2.1, decide (a = [45#8]), (two b c n).2.2⟩ else ⟨0, 0, false, 40⟩
  | _ => ⟨0, 0, false, 40⟩
end Tx
/-- A change in memory. -/
def ChIs (w : World) (g : Nat) (u v : Int) (b : Bool) : Prop := w.heap[g]? = some (.cells #[.int .i64 u, .int .i64 v, .bool b] 130 (0, 0))
theorem ChIs.c {w : World} {g : Nat} {u v : Int} {b : Bool} (h : ChIs w g u v b) : w.cell? ⟨g, 0, none⟩ = some (.int .i64 u) ∧ w.cell? ⟨g, 1, none⟩ = some (.int .i64 v) ∧ w.cell? ⟨g, 2, none⟩ = some (.bool b) := by
  refine ⟨?_, ?_, ?_⟩ <;> rw [cell_heap h] <;> rfl
theorem ChIs.f {w : World} {g : Nat} {u v : Int} {b : Bool} (h : ChIs w g u v b) (o : Nat) : w.frozen? ⟨g, o, none⟩ = false := by unfold ChIs at h; simp [World.frozen?, h]
/-- Pieces that lie in memory. -/
def Piece (w : World) (B : Nat) (v : Value) (l : List (BitVec 8)) : Prop := ∃ A cap, v = .slice A l.length cap ∧ l.length ≤ cap ∧ (A = none → l.length = 0 ∧ cap = 0) ∧ Rd w B A (l.map V8)
def Pieces (w : World) (B : Nat) : List Value → List (List (BitVec 8)) → Prop
  | [], [] => True
  | v :: vs, l :: ls => Piece w B v l ∧ Pieces w B vs ls
  | _, _ => False
theorem Piece.below {w w' : World} {B : Nat} {v : Value} {l : List (BitVec 8)} {b : Nat} (h : Piece w B v l) (hb : Below b w w') (hB : B ≤ b) : Piece w' B v l := by
  obtain ⟨A, cap, h1, h2, h3, h4⟩ := h
  exact ⟨A, cap, h1, h2, h3, h4.below hb hB⟩
theorem Pieces.below {w w' : World} {B : Nat} {b : Nat} (hb : Below b w w') (hB : B ≤ b) : ∀ {vs : List Value} {ls : List (List (BitVec 8))}, Pieces w B vs ls → Pieces w' B vs ls
  | [], [], _ => trivial
  | _ :: _, _ :: _, h => ⟨h.1.below hb hB, Pieces.below hb hB h.2⟩
theorem Pieces.length {w : World} {B : Nat} : ∀ {vs : List Value} {ls : List (List (BitVec 8))}, Pieces w B vs ls → vs.length = ls.length
  | [], [], _ => rfl
  | _ :: _, _ :: _, h => by simp [Pieces.length h.2]
theorem Pieces.at {w : World} {B : Nat} : ∀ {vs : List Value} {ls : List (List (BitVec 8))} {i : Nat} {l : List (BitVec 8)}, Pieces w B vs ls → ls[i]? = some l → ∃ v, vs[i]? = some v ∧ Piece w B v l
  | [], [], i, l, _, h => by simp at h
  | v :: vs, l0 :: ls, 0, l, h, hi => by
    simp at hi; subst hi; exact ⟨v, rfl, h.1⟩
  | v :: vs, l0 :: ls, i + 1, l, h, hi => by
    simp at hi
    obtain ⟨u, h1, h2⟩ := Pieces.at h.2 hi
    exact ⟨u, by simpa using h1, h2⟩
namespace Tx
/-- What lines say as changes up to the first fault. -/
structure CRun where
  cs : List Ch
  k : Nat
  e : Int
def CRun.out (R : CRun) : List Ch := if R.e = 0 then R.cs else []
end Tx
/-- The cells of changes. -/
def chs (cs : List Tx.Ch) : List Value := cs.flatMap fun c => [.int .i64 c.u, .int .i64 c.v, .bool c.gone]
theorem chs_append (a b : List Tx.Ch) : chs (a ++ b) = chs a ++ chs b := by unfold chs; rw [List.flatMap_append]
theorem infoCh : (Tryz.prog.info? 130).map (fun i => (i.zero, i.size, i.bytes)) = some (some (.agg #[.int .i64 0, .int .i64 0, .bool false]), 3, 24) := by kernel_rfl
theorem descChs : Tryz.prog.underlying 54 = some (.slice 130) := by kernel_rfl
theorem pcs_get {ps : List (Int × Int)} : ∀ {a : Nat} {p : Int × Int}, ps[a]? = some p → (pcs ps)[a * 2]? = some (.int .i64 p.1) ∧ (pcs ps)[a * 2 + 1]? = some (.int .i64 p.2) := by
  induction ps with
  | nil => intro a p h; simp at h
  | cons q ps ih =>
    intro a p h
    have e : pcs (q :: ps) = .int .i64 q.1 :: .int .i64 q.2 :: pcs ps := rfl
    rw [e]
    cases a with
    | zero => simp at h; subst h; exact ⟨rfl, rfl⟩
    | succ a =>
      simp at h
      obtain ⟨h1, h2⟩ := ih h
      rw [show (a + 1) * 2 = a * 2 + 1 + 1 by omega]
      exact ⟨by simpa using h1, by simpa using h2⟩
theorem chs_get {ps : List Tx.Ch} : ∀ {a : Nat} {p : Tx.Ch}, ps[a]? = some p → (chs ps)[a * 3]? = some (.int .i64 p.u) ∧ (chs ps)[a * 3 + 1]? = some (.int .i64 p.v) ∧ (chs ps)[a * 3 + 2]? = some (.bool p.gone) := by
  induction ps with
  | nil => intro a p h; simp at h
  | cons q ps ih =>
    intro a p h
    have e : chs (q :: ps) = .int .i64 q.u :: .int .i64 q.v :: .bool q.gone :: chs ps := rfl
    rw [e]
    cases a with
    | zero => simp at h; subst h; exact ⟨rfl, rfl, rfl⟩
    | succ a =>
      simp at h
      obtain ⟨h1, h2, h3⟩ := ih h
      rw [show (a + 1) * 3 = a * 3 + 1 + 1 + 1 by omega]
      exact ⟨by simpa using h1, by simpa using h2, by simpa using h3⟩
theorem rd_pair {w : World} {B : Nat} {A : Option Addr} {ps : List (Int × Int)} (h : Rd w B A (pcs ps)) {a : Nat} {p : Int × Int} (hp : ps[a]? = some p) : ∃ b off, A = some ⟨b, off, none⟩ ∧ b < B ∧ w.cell? ⟨b, off + a * 2, none⟩ = some (.int .i64 p.1) ∧ w.cell? ⟨b, off + a * 2 + 1, none⟩ = some (.int .i64 p.2) := by
  obtain ⟨h1, h2⟩ := pcs_get hp
  obtain ⟨b, off, he, hb, hc⟩ := h _ _ h1
  obtain ⟨b', off', he', _, hc'⟩ := h _ _ h2
  rw [he] at he'; injection he' with he'; injection he' with e1 e2; subst e1 e2
  exact ⟨b, off, he, hb, hc, by rw [Nat.add_assoc]; exact hc'⟩
theorem rd_ch {w : World} {B : Nat} {A : Option Addr} {ps : List Tx.Ch} (h : Rd w B A (chs ps)) {a : Nat} {p : Tx.Ch} (hp : ps[a]? = some p) : ∃ b off, A = some ⟨b, off, none⟩ ∧ b < B ∧ w.cell? ⟨b, off + a * 3, none⟩ = some (.int .i64 p.u) ∧ w.cell? ⟨b, off + a * 3 + 1, none⟩ = some (.int .i64 p.v) ∧ w.cell? ⟨b, off + a * 3 + 2, none⟩ = some (.bool p.gone) := by
  obtain ⟨h1, h2, h3⟩ := chs_get hp
  obtain ⟨b, off, he, hb, hc⟩ := h _ _ h1
  obtain ⟨b', off', he', _, hc'⟩ := h _ _ h2
  obtain ⟨b'', off'', he'', _, hc''⟩ := h _ _ h3
  rw [he] at he' he''; injection he' with he'; injection he' with e1 e2; subst e1 e2
  injection he'' with he''; injection he'' with e1 e2; subst e1 e2
  exact ⟨b, off, he, hb, hc, by rw [Nat.add_assoc]; exact hc', by rw [Nat.add_assoc]; exact hc''⟩
set_option maxHeartbeats 4000000 in
theorem sameP_calls (A A' : Option Addr) (n cap n' cap' B B' : Nat) (ps qs : List (Int × Int)) (w : World) (hn : n = ps.length) (hn' : n' = qs.length) (hc : n ≤ cap) (hc' : n' ≤ cap') (hcm : cap ≤ maxLen) (hcm' : cap' ≤ maxLen) (hr : Rd w B A (pcs ps)) (hr' : Rd w B' A' (pcs qs)) :
    Calls Tryz.prog 23 #[.slice A n cap, .slice A' n' cap'] w fun e w' => e = .returned (.bool (decide (ps = qs))) ∧ ∃ k, w' = w.drewN k := by
  have Hn := Lib.hid hn; have Hr := Lib.hid hr; have Hn' := Lib.hid hn'; have Hr' := Lib.hid hr'
  unfold maxLen at hcm hcm'
  clear hn hr hn' hr'
  go_enter Tryz.func23, Tryz.ntmps23
  by_cases hnn : n = n'
  · subst hnn
    go_wp2_with fail
    go_loopw [5] (fun i wr => ∃ a : Nat, i = .int .i64 (a : Int) ∧ a ≤ n ∧ ps.take a = qs.take a ∧ ∃ k, wr = w.drewN k) (fun i _ => n - (intOf i).toNat)
    case atStart => exact ⟨0, rfl, by omega, by simp, 0, rfl⟩
    case round =>
      obtain ⟨a, rfl, ha, he, hd⟩ := hrel
      have He := Lib.hid he; have Hd := Lib.hid hd; clear he hd
      by_cases hlt : a < n
      · have q1 : (a : Int) < (n : Int) := by omega
        obtain ⟨⟨u, v⟩, hz⟩ : ∃ z, ps[a]? = some z := ⟨ps[a]'(by rw [← Hn.out]; omega), List.getElem?_eq_getElem _⟩
        obtain ⟨⟨u', v'⟩, hz'⟩ : ∃ z, qs[a]? = some z := ⟨qs[a]'(by rw [← Hn'.out]; omega), List.getElem?_eq_getElem _⟩
        obtain ⟨b, off, rfl, hb, hc1, hc2⟩ := rd_pair (w := wr) (by obtain ⟨d, rfl⟩ := Hd.out; exact Hr.out) hz
        obtain ⟨b', off', rfl, hb', hc1', hc2'⟩ := rd_pair (w := wr) (by obtain ⟨d, rfl⟩ := Hd.out; exact Hr'.out) hz'
        have Hz := Lib.hid hz; have Hz' := Lib.hid hz'
        dsimp only at hc1 hc2 hc1' hc2'
        clear hz hz'
        have Hdn := Lib.hid (show ∀ q, ∃ k, wr.drewN q = w.drewN k from fun q => by obtain ⟨d, rfl⟩ := Hd.out; exact ⟨_, World.drewN_drewN _ _ _⟩)
        by_cases hu : u = u'
        · by_cases hv : v = v'
          · have He2 := Lib.hid (show ps.take (a + 1) = qs.take (a + 1) by rw [List.take_add_one, List.take_add_one, He.out, Hz.out, Hz'.out, hu, hv])
            have t1 : (u == u') = true := by simpa using hu
            have t2 : (v == v') = true := by simpa using hv
            clear hu hv
            go_wp2_with fail
            go_big_quiet (fail)
            go_wp2_with fail
            exact ⟨⟨a + 1, by congr 1, by omega, He2.out, Hdn.out _⟩, by simp [intOf]; omega⟩
          · have Hne := Lib.hid (show ¬ ps = qs from fun h => by subst h; have := Hz.out.symm.trans Hz'.out; injection this with this; injection this with _ this; exact hv this)
            have t1 : (u == u') = true := by simpa using hu
            have t2 : (v == v') = false := by simpa using hv
            clear hu hv
            go_wp2_with fail
            go_big_quiet (fail)
            go_wp2_with fail
            go_ret
            exact ⟨by rw [decide_eq_false Hne.out]; rfl, Hdn.out _⟩
        · have Hne := Lib.hid (show ¬ ps = qs from fun h => by subst h; have := Hz.out.symm.trans Hz'.out; injection this with this; injection this with this _; exact hu this)
          have t1 : (u == u') = false := by simpa using hu
          clear hu
          go_wp2_with fail
          go_big_quiet (fail)
          go_wp2_with fail
          go_ret
          exact ⟨by rw [decide_eq_false Hne.out]; rfl, Hdn.out _⟩
      · have hza : ps = qs := by
          have := He.out
          rwa [List.take_of_length_le (by rw [← Hn.out]; omega), List.take_of_length_le (by rw [← Hn'.out]; omega)] at this
        have Hza := Lib.hid hza; clear hza
        go_wp2_with fail
        go_ret
        exact ⟨by rw [decide_eq_true Hza.out]; rfl, Hd.out⟩
  · have hz : ((n : Int) != (n' : Int)) = true := by rw [bne_iff_ne]; omega
    have Hne := Lib.hid (show ¬ ps = qs from fun h => hnn (by rw [Hn.out, Hn'.out, h]))
    clear hnn
    go_wp2_with fail
    go_ret
    exact ⟨by rw [decide_eq_false Hne.out]; rfl, 0, rfl⟩
/-- What is compared. -/
def Tx.Ch.tr (c : Tx.Ch) : Int × Int × Bool := (c.u, c.v, c.gone)
set_option maxHeartbeats 4000000 in
theorem sameC_calls (A A' : Option Addr) (n cap n' cap' B B' : Nat) (ps qs : List Tx.Ch) (w : World) (hn : n = ps.length) (hn' : n' = qs.length) (hc : n ≤ cap) (hc' : n' ≤ cap') (hcm : cap ≤ maxLen) (hcm' : cap' ≤ maxLen) (hr : Rd w B A (chs ps)) (hr' : Rd w B' A' (chs qs)) :
    Calls Tryz.prog 61 #[.slice A n cap, .slice A' n' cap'] w fun e w' => e = .returned (.bool (decide (ps.map Tx.Ch.tr = qs.map Tx.Ch.tr))) ∧ ∃ k, w' = w.drewN k := by
  have Hn := Lib.hid hn; have Hr := Lib.hid hr; have Hn' := Lib.hid hn'; have Hr' := Lib.hid hr'
  unfold maxLen at hcm hcm'
  clear hn hr hn' hr'
  go_enter Tryz.func61, Tryz.ntmps61
  by_cases hnn : n = n'
  · subst hnn
    go_wp2_with fail
    go_loopw [5] (fun i wr => ∃ a : Nat, i = .int .i64 (a : Int) ∧ a ≤ n ∧ (ps.map Tx.Ch.tr).take a = (qs.map Tx.Ch.tr).take a ∧ ∃ k, wr = w.drewN k) (fun i _ => n - (intOf i).toNat)
    case atStart => exact ⟨0, rfl, by omega, by simp, 0, rfl⟩
    case round =>
      obtain ⟨a, rfl, ha, he, hd⟩ := hrel
      have He := Lib.hid he; have Hd := Lib.hid hd; clear he hd
      by_cases hlt : a < n
      · have q1 : (a : Int) < (n : Int) := by omega
        obtain ⟨⟨u, v, gn, e0⟩, hz⟩ : ∃ z, ps[a]? = some z := ⟨ps[a]'(by rw [← Hn.out]; omega), List.getElem?_eq_getElem _⟩
        obtain ⟨⟨u', v', gn', e0'⟩, hz'⟩ : ∃ z, qs[a]? = some z := ⟨qs[a]'(by rw [← Hn'.out]; omega), List.getElem?_eq_getElem _⟩
        obtain ⟨b, off, rfl, hb, hc1, hc2, hc3⟩ := rd_ch (w := wr) (by obtain ⟨d, rfl⟩ := Hd.out; exact Hr.out) hz
        obtain ⟨b', off', rfl, hb', hc1', hc2', hc3'⟩ := rd_ch (w := wr) (by obtain ⟨d, rfl⟩ := Hd.out; exact Hr'.out) hz'
        have Hz := Lib.hid (show (ps.map Tx.Ch.tr)[a]? = some (u, v, gn) by rw [List.getElem?_map, hz]; rfl); have Hz' := Lib.hid (show (qs.map Tx.Ch.tr)[a]? = some (u', v', gn') by rw [List.getElem?_map, hz']; rfl)
        dsimp only at hc1 hc2 hc3 hc1' hc2' hc3'
        clear hz hz'
        have Hdn := Lib.hid (show ∀ q, ∃ k, wr.drewN q = w.drewN k from fun q => by obtain ⟨d, rfl⟩ := Hd.out; exact ⟨_, World.drewN_drewN _ _ _⟩)
        by_cases hu : u = u'
        · by_cases hv : v = v'
          · have t1 : (u == u') = true := by simpa using hu
            have t2 : (v == v') = true := by simpa using hv
            by_cases hg : gn = gn'
            · have He2 := Lib.hid (show (ps.map Tx.Ch.tr).take (a + 1) = (qs.map Tx.Ch.tr).take (a + 1) by rw [List.take_add_one, List.take_add_one, He.out, Hz.out, Hz'.out, hu, hv, hg])
              subst hg
              have t3 : (gn == gn) = true := by simp
              clear hu hv
              go_wp2_with fail
              go_big_quiet (fail)
              go_wp2_with fail
              exact ⟨⟨a + 1, by congr 1, by omega, He2.out, Hdn.out _⟩, by simp [intOf]; omega⟩
            · have Hne := Lib.hid (show ¬ ps.map Tx.Ch.tr = qs.map Tx.Ch.tr from fun h => by rw [h] at Hz; have := Hz.out.symm.trans Hz'.out; injection this with this; injection this with _ this; injection this with _ this; exact hg this)
              have t3 : (gn == gn') = false := by simpa using hg
              clear hu hv hg
              go_wp2_with fail
              go_big_quiet (fail)
              go_wp2_with fail
              go_ret
              exact ⟨by rw [decide_eq_false Hne.out]; rfl, Hdn.out _⟩
          · have Hne := Lib.hid (show ¬ ps.map Tx.Ch.tr = qs.map Tx.Ch.tr from fun h => by rw [h] at Hz; have := Hz.out.symm.trans Hz'.out; injection this with this; injection this with _ this; injection this with this _; exact hv this)
            have t1 : (u == u') = true := by simpa using hu
            have t2 : (v == v') = false := by simpa using hv
            clear hu hv
            go_wp2_with fail
            go_big_quiet (fail)
            go_wp2_with fail
            go_ret
            exact ⟨by rw [decide_eq_false Hne.out]; rfl, Hdn.out _⟩
        · have Hne := Lib.hid (show ¬ ps.map Tx.Ch.tr = qs.map Tx.Ch.tr from fun h => by rw [h] at Hz; have := Hz.out.symm.trans Hz'.out; injection this with this; injection this with this _; exact hu this)
          have t1 : (u == u') = false := by simpa using hu
          clear hu
          go_wp2_with fail
          go_big_quiet (fail)
          go_wp2_with fail
          go_ret
          exact ⟨by rw [decide_eq_false Hne.out]; rfl, Hdn.out _⟩
      · have hza : ps.map Tx.Ch.tr = qs.map Tx.Ch.tr := by
          have := He.out
          rwa [List.take_of_length_le (by rw [List.length_map, ← Hn.out]; omega), List.take_of_length_le (by rw [List.length_map, ← Hn'.out]; omega)] at this
        have Hza := Lib.hid hza; clear hza
        go_wp2_with fail
        go_ret
        exact ⟨by rw [decide_eq_true Hza.out]; rfl, Hd.out⟩
  · have hz : ((n : Int) != (n' : Int)) = true := by rw [bne_iff_ne]; omega
    have Hne := Lib.hid (show ¬ ps.map Tx.Ch.tr = qs.map Tx.Ch.tr from fun h => hnn (by rw [Hn.out, Hn'.out]; simpa using congrArg List.length h))
    clear hnn
    go_wp2_with fail
    go_ret
    exact ⟨by rw [decide_eq_false Hne.out]; rfl, 0, rfl⟩
theorem rd_new (w : World) (vs : List Value) (c : Array Value) (t : TypeId) (hc : c = vs.toArray) : Rd (w.alloc (.cells c t)) (w.heap.size + 1) (some ⟨w.heap.size, 0, none⟩) vs := by
  subst hc
  intro k v hv
  refine ⟨w.heap.size, 0, rfl, by omega, ?_⟩
  rw [Nat.zero_add, World.cell?_alloc_new]
  simpa using hv
def zerosP (n : Nat) : Array Value := madeCells (Value.agg #[.int .i64 0, .int .i64 0]).cells (n * 2)
theorem zerosP_size (n : Nat) : (zerosP n).size = n * 2 := by unfold zerosP; rw [size_madeCells]
theorem make0_P (c : Nat) (hc : c * 16 ≤ 140737488355328) (w : World) : (Instr.makeSlice 23 (.int .i64 0) (.int .i64 (c : Int))).run Tryz.prog w =
    .ok (.slice (some ⟨w.heap.size, 0, none⟩) 0 c) (w.alloc (.cells (zerosP c) 127)) := by
  obtain ⟨i0, hi, hz0, hz1, hz2⟩ := info_parts infoPa
  have := run_make (P := Tryz.prog) w 23 127 i0 _ descPas hi hz0 .i64 .i64 0 c (by omega) (by omega) (by rw [hz2]; omega) (by omega)
  rw [this, hz1]; rfl
set_option maxHeartbeats 4000000 in
set_option maxRecDepth 20000 in
theorem pairs_calls (A : Option Addr) (n cap B : Nat) (zs : List (Int × Int)) (w : World) (hn : n = zs.length) (hm : n ≤ 1099511627776) (hB : B ≤ w.heap.size) (hr : Rd w B A (pcs zs)) :
    Calls Tryz.prog 11 #[.slice A n cap] w fun e w' => ∃ A' cap', e = .returned (.slice A' n cap') ∧ w'.ownsRow w.heap.size 127 2 (.slice A' n cap') n (pcs zs) ∧ Below w.heap.size w w' := by
  obtain ⟨i0, hi, hz0, hz1, hz2⟩ := info_parts infoPa
  have hmk := make0_P n (by omega)
  have Hown := Lib.hid (World.ownsRow_made (base := w.heap.size) (e := 127) (size := 2) w (zerosP n) n (Nat.le_refl _) (by unfold maxLen; omega) (zerosP_size n))
  have Hr := Lib.hid hr
  have Hn := Lib.hid hn; clear hn hr
  have Hi := Lib.hid hi; clear hi
  go_enter Tryz.func11, Tryz.ntmps11
  go_wp2_with fail
  go_loopw [3, 4] (fun l i wr => ∃ (a : Nat) (L : List (Int × Int)), i = .int .i64 (a : Int) ∧ a ≤ n ∧ L = zs.take a ∧ wr.ownsRow w.heap.size 127 2 l a (pcs L) ∧ Below w.heap.size w wr) (fun _ i _ => n - (intOf i).toNat)
  case atStart => exact ⟨0, [], rfl, by omega, by simp, Hown.out, (Below.refl _ _).alloc (Nat.le_refl _) _⟩
  case round =>
    obtain ⟨a, L, rfl, ha, hL, hown, hbl⟩ := hrel
    obtain ⟨A1, cap1, rfl⟩ := own_size hown
    have HL := Lib.hid hL; have Hown1 := Lib.hid hown; have Hbl := Lib.hid hbl
    have hsz := hbl.size
    clear hL hown hbl
    by_cases hlt : a < n
    · have q1 : (a : Int) < (n : Int) := by omega
      obtain ⟨z, hz⟩ : ∃ z, zs[a]? = some z := ⟨zs[a]'(by rw [← Hn.out]; omega), List.getElem?_eq_getElem _⟩
      obtain ⟨b, off, rfl, hb, hc1, hc2⟩ := rd_pair (Hr.out.below Hbl.out hB) hz
      have Hz := Lib.hid hz
      have hbn : Below wr.heap.size wr (wr.alloc (.cells #[.int .i64 z.1, .int .i64 z.2] 127)) := (Below.refl _ _).alloc (Nat.le_refl _) _
      have Hown2 := Lib.hid (own_below_s Hown1.out hbn (Nat.le_refl _))
      have Hnew := Lib.hid (rd_new wr [.int .i64 z.1, .int .i64 z.2] #[.int .i64 z.1, .int .i64 z.2] 127 rfl)
      have hsb : w.heap.size ≤ (wr.alloc (.cells #[.int .i64 z.1, .int .i64 z.2] 127)).heap.size := by simp; omega
      clear hz hbn
      go_wp2_with (at_builtin; refine wpList_append_rds rfl _ _ 23 rfl w.heap.size 127 i0 _ 2 16 descPas Hi.out hz0 hz1 hz2 rfl (by decide) _ a (pcs L) rfl Hown2.out _ (some ⟨wr.heap.size, 0, none⟩) 1 1 [.int .i64 z.1, .int .i64 z.2] rfl rfl (by intro h; cases h) Hnew.out (by intro u hu; simp at hu; rcases hu with rfl | rfl <;> rfl) (by unfold maxLen; omega) (by omega) hsb ?_; intro v4 w4 hown4 hg4; obtain ⟨A4, cap4, rfl⟩ := own_size hown4; have Hown4 := Lib.hid hown4; have Hg4 := Lib.hid (show World.grownBy _ w4 (Value.slice A1 a cap1).ownBlock from hg4); clear hown4 hg4)
      go_roundw
      case rel =>
        have hLz : L ++ [z] = zs.take (a + 1) := by rw [HL.out, List.take_add_one, Hz.out]; rfl
        refine ⟨a + 1, _, by congr 1, by omega, hLz, ?_, (Hbl.out.trans (((Below.refl wr.heap.size wr).alloc (Nat.le_refl _) _).mono hsz)).grown Hg4.out hsb fun k hk => (Hown2.out.lt k hk).1⟩
        rw [pcs_append]
        exact Hown4.out
      case measure => simp [intOf]; omega
    · obtain rfl : a = n := by omega
      have Hx := Lib.hid (show zs.take a = zs from List.take_of_length_le (by rw [← Hn.out]; exact Nat.le_refl _))
      go_wp2_with fail
      go_ret
      have ho := Hown1.out
      rw [HL.out, Hx.out] at ho
      exact ⟨A1, cap1, rfl, ho, Hbl.out⟩
def zerosC (n : Nat) : Array Value := madeCells (Value.agg #[.int .i64 0, .int .i64 0, .bool false]).cells (n * 3)
theorem zerosC_size (n : Nat) : (zerosC n).size = n * 3 := by unfold zerosC; rw [size_madeCells]
theorem make0_C (c : Nat) (hc : c * 24 ≤ 140737488355328) (w : World) : (Instr.makeSlice 54 (.int .i64 0) (.int .i64 (c : Int))).run Tryz.prog w =
    .ok (.slice (some ⟨w.heap.size, 0, none⟩) 0 c) (w.alloc (.cells (zerosC c) 130)) := by
  obtain ⟨i0, hi, hz0, hz1, hz2⟩ := info_parts infoCh
  have := run_make (P := Tryz.prog) w 54 130 i0 _ descChs hi hz0 .i64 .i64 0 c (by omega) (by omega) (by rw [hz2]; omega) (by omega)
  rw [this, hz1]; rfl
set_option maxHeartbeats 4000000 in
set_option maxRecDepth 20000 in
theorem changes_calls (A : Option Addr) (n cap B : Nat) (zs : List Tx.Ch) (w : World) (hn : n = zs.length) (hm : n ≤ 1099511627776) (hB : B ≤ w.heap.size) (hr : Rd w B A (chs zs)) :
    Calls Tryz.prog 71 #[.slice A n cap] w fun e w' => ∃ A' cap', e = .returned (.slice A' n cap') ∧ w'.ownsRow w.heap.size 130 3 (.slice A' n cap') n (chs zs) ∧ Below w.heap.size w w' := by
  obtain ⟨i0, hi, hz0, hz1, hz2⟩ := info_parts infoCh
  have hmk := make0_C n (by omega)
  have Hown := Lib.hid (World.ownsRow_made (base := w.heap.size) (e := 130) (size := 3) w (zerosC n) n (Nat.le_refl _) (by unfold maxLen; omega) (zerosC_size n))
  have Hr := Lib.hid hr
  have Hn := Lib.hid hn; clear hn hr
  have Hi := Lib.hid hi; clear hi
  go_enter Tryz.func71, Tryz.ntmps71
  go_wp2_with fail
  go_loopw [3, 4] (fun l i wr => ∃ (a : Nat) (L : List Tx.Ch), i = .int .i64 (a : Int) ∧ a ≤ n ∧ L = zs.take a ∧ wr.ownsRow w.heap.size 130 3 l a (chs L) ∧ Below w.heap.size w wr) (fun _ i _ => n - (intOf i).toNat)
  case atStart => exact ⟨0, [], rfl, by omega, by simp, Hown.out, (Below.refl _ _).alloc (Nat.le_refl _) _⟩
  case round =>
    obtain ⟨a, L, rfl, ha, hL, hown, hbl⟩ := hrel
    obtain ⟨A1, cap1, rfl⟩ := own_size hown
    have HL := Lib.hid hL; have Hown1 := Lib.hid hown; have Hbl := Lib.hid hbl
    have hsz := hbl.size
    clear hL hown hbl
    by_cases hlt : a < n
    · have q1 : (a : Int) < (n : Int) := by omega
      obtain ⟨z, hz⟩ : ∃ z, zs[a]? = some z := ⟨zs[a]'(by rw [← Hn.out]; omega), List.getElem?_eq_getElem _⟩
      obtain ⟨b, off, rfl, hb, hc1, hc2, hc3⟩ := rd_ch (Hr.out.below Hbl.out hB) hz
      have Hz := Lib.hid hz
      have hbn : Below wr.heap.size wr (wr.alloc (.cells #[.int .i64 z.u, .int .i64 z.v, .bool z.gone] 130)) := (Below.refl _ _).alloc (Nat.le_refl _) _
      have Hown2 := Lib.hid (own_below_s Hown1.out hbn (Nat.le_refl _))
      have Hnew := Lib.hid (rd_new wr [.int .i64 z.u, .int .i64 z.v, .bool z.gone] #[.int .i64 z.u, .int .i64 z.v, .bool z.gone] 130 rfl)
      have hsb : w.heap.size ≤ (wr.alloc (.cells #[.int .i64 z.u, .int .i64 z.v, .bool z.gone] 130)).heap.size := by simp; omega
      clear hz hbn
      go_wp2_with (at_builtin; refine wpList_append_rds rfl _ _ 54 rfl w.heap.size 130 i0 _ 3 24 descChs Hi.out hz0 hz1 hz2 rfl (by decide) _ a (chs L) rfl Hown2.out _ (some ⟨wr.heap.size, 0, none⟩) 1 1 [.int .i64 z.u, .int .i64 z.v, .bool z.gone] rfl rfl (by intro h; cases h) Hnew.out (by intro u hu; simp at hu; rcases hu with rfl | rfl | rfl <;> rfl) (by unfold maxLen; omega) (by omega) hsb ?_; intro v4 w4 hown4 hg4; obtain ⟨A4, cap4, rfl⟩ := own_size hown4; have Hown4 := Lib.hid hown4; have Hg4 := Lib.hid (show World.grownBy _ w4 (Value.slice A1 a cap1).ownBlock from hg4); clear hown4 hg4)
      go_roundw
      case rel =>
        have hLz : L ++ [z] = zs.take (a + 1) := by rw [HL.out, List.take_add_one, Hz.out]; rfl
        refine ⟨a + 1, _, by congr 1, by omega, hLz, ?_, (Hbl.out.trans (((Below.refl wr.heap.size wr).alloc (Nat.le_refl _) _).mono hsz)).grown Hg4.out hsb fun k hk => (Hown2.out.lt k hk).1⟩
        rw [chs_append]
        exact Hown4.out
      case measure => simp [intOf]; omega
    · obtain rfl : a = n := by omega
      have Hx := Lib.hid (show zs.take a = zs from List.take_of_length_le (by rw [← Hn.out]; exact Nat.le_refl _))
      go_wp2_with fail
      go_ret
      have ho := Hown1.out
      rw [HL.out, Hx.out] at ho
      exact ⟨A1, cap1, rfl, ho, Hbl.out⟩
end Go.Proofs.YtmeoafodcniliaaGreatDoor
