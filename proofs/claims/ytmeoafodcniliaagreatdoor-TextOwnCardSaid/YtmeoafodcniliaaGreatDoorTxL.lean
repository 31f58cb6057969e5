/- The library contracts that this seat uses, laid at its translation (written by the kit's lay-shelf and lay-plain; trimmed). -/
import Derived.Shelf.Utf8.RuneCount
import Derived.Shelf.Strconv.Itoa0
import Derived.Shelf.Strconv.Itoa1
import Derived.Shelf.LaysM
import Derived.Shelf.Strconv.Itoa2
import Derived.Shelf.Strconv.Itoa3
import Derived.Shelf.Strings.Search1
import Derived.Shelf.Strconv.AppendUint10
import Derived.Shelf.Strconv.AppendInt10
import Derived.Shelf.Strconv.AppendIntPublic10
import Derived.Shelf.Strings.RuneCount
import Derived.Shelf.Bytes.SlIndexSmall
import Derived.Ground.SlbNamesProg
import Derived.Shelf.Bytes.SlCountOne
import Derived.Shelf.Bytes.SlIndexAt
import Derived.Shelf.Bytes.SlSearch0
import Derived.Shelf.Bytes.SlSearch1
import Derived.Shelf.Bytes.SlSearch2
import Derived.Shelf.Bytes.SlIndexWhole
import Derived.Shelf.Bytes.SlCountWhole
import Derived.Ground.SlbSplitProg
import Derived.Shelf.Bytes.SlSplit
import Derived.Shelf.Bytes.SlSplitNil
import Derived.Ground.SlbCloneProg
import Derived.Shelf.Bytes.SlClone
import Derived.Shelf.Bytes.SlEqualAll
import Derived.Ground.SlbtProg
import Derived.Shelf.Bytes.SlCut
import Derived.Shelf.Bytes.Small
import Derived.Shelf.Bytes.IndexByte
import Derived.Test.YtmeoafodcniliaaGreatDoorProg
namespace Go.Proofs
open Go.Shelf
def Tryz.laysM176_ren : Go.Shelf.Ren := ⟨fun | 176 => 103 | 249 => 187 | 288 => 249 | 283 => 265 | 284 => 266 | 285 => 267 | 286 => 268 | 129 => 274 | 317 => 273 | 318 => 275 | 319 => 276 | 320 => 277 | 337 => 280 | 338 => 281 | n => n, fun | 37 => 22 | 2 => 2 | 3 => 3 | 53 => 164 | 4 => 4 | 9 => 9 | 171 => 276 | 0 => 0 | 173 => 278 | 212 => 285 | 51 => 150 | 5 => 5 | 20 => 20 | 213 => 286 | 46 => 152 | 232 => 291 | 233 => 292 | n => n, fun | 17 => 5 | 18 => 6 | 19 => 7 | n => n⟩
theorem Tryz.laysM176 : Go.Proofs.LaysM.n176 Tryz.prog Tryz.laysM176_ren := {
  mixed := by kernel_rfl
  f129 := Tryz.func274.trans (congrArg some (by kernel_rfl))
  f176 := Tryz.func103.trans (congrArg some (by kernel_rfl))
  f249 := Tryz.func187.trans (congrArg some (by kernel_rfl))
  f283 := Tryz.func265.trans (congrArg some (by kernel_rfl))
  f284 := Tryz.func266.trans (congrArg some (by kernel_rfl))
  f285 := Tryz.func267.trans (congrArg some (by kernel_rfl))
  f286 := Tryz.func268.trans (congrArg some (by kernel_rfl))
  f288 := Tryz.func249.trans (congrArg some (by kernel_rfl))
  f317 := Tryz.func273.trans (congrArg some (by kernel_rfl))
  f318 := Tryz.func275.trans (congrArg some (by kernel_rfl))
  f319 := Tryz.func276.trans (congrArg some (by kernel_rfl))
  f320 := Tryz.func277.trans (congrArg some (by kernel_rfl))
  f337 := Tryz.func280.trans (congrArg some (by kernel_rfl))
  f338 := Tryz.func281.trans (congrArg some (by kernel_rfl))
  t0 := Tryz.underlying0
  a0 := Tryz.isAgg0
  z0 := Tryz.sizeOf0
  v0 := Tryz.zeroValue0
  t2 := Tryz.underlying2
  a2 := Tryz.isAgg2
  z2 := Tryz.sizeOf2
  v2 := Tryz.zeroValue2
  t3 := Tryz.underlying3
  a3 := Tryz.isAgg3
  z3 := Tryz.sizeOf3
  v3 := Tryz.zeroValue3
  t4 := Tryz.underlying4
  a4 := Tryz.isAgg4
  z4 := Tryz.sizeOf4
  v4 := Tryz.zeroValue4
  t5 := Tryz.underlying5
  a5 := Tryz.isAgg5
  z5 := Tryz.sizeOf5
  v5 := Tryz.zeroValue5
  t9 := Tryz.underlying9
  a9 := Tryz.isAgg9
  z9 := Tryz.sizeOf9
  v9 := Tryz.zeroValue9
  t20 := Tryz.underlying20
  a20 := Tryz.isAgg20
  z20 := Tryz.sizeOf20
  v20 := Tryz.zeroValue20
  t37 := Tryz.underlying22
  a37 := Tryz.isAgg22
  z37 := Tryz.sizeOf22
  v37 := Tryz.zeroValue22
  t46 := Tryz.underlying152
  a46 := Tryz.isAgg152
  z46 := Tryz.sizeOf152
  v46 := Tryz.zeroValue152
  t51 := Tryz.underlying150
  a51 := Tryz.isAgg150
  z51 := Tryz.sizeOf150
  v51 := Tryz.zeroValue150
  t53 := Tryz.underlying164
  a53 := Tryz.isAgg164
  z53 := Tryz.sizeOf164
  v53 := Tryz.zeroValue164
  t171 := Tryz.underlying276
  a171 := Tryz.isAgg276
  z171 := Tryz.sizeOf276
  v171 := Tryz.zeroValue276
  t173 := Tryz.underlying278
  a173 := Tryz.isAgg278
  z173 := Tryz.sizeOf278
  v173 := Tryz.zeroValue278
  t212 := Tryz.underlying285
  a212 := Tryz.isAgg285
  z212 := Tryz.sizeOf285
  v212 := Tryz.zeroValue285
  t213 := Tryz.underlying286
  a213 := Tryz.isAgg286
  z213 := Tryz.sizeOf286
  t232 := Tryz.underlying291
  a232 := Tryz.isAgg291
  z232 := Tryz.sizeOf291
  v232 := Tryz.zeroValue291
  t233 := Tryz.underlying292
  a233 := Tryz.isAgg292
  z233 := Tryz.sizeOf292
  v233 := Tryz.zeroValue292
  g17 := by kernel_rfl
  g18 := by kernel_rfl
  g19 := by kernel_rfl
  i0 := by kernel_rfl
  i2 := by kernel_rfl
  i3 := by kernel_rfl
  i4 := by kernel_rfl
  i5 := by kernel_rfl
  i9 := by kernel_rfl
  i20 := by kernel_rfl
  i37 := by kernel_rfl
  i46 := by kernel_rfl
  i51 := by kernel_rfl
  i53 := by kernel_rfl
  i171 := by kernel_rfl
  i173 := by kernel_rfl
  i212 := by kernel_rfl
  i232 := by kernel_rfl
  i233 := by kernel_rfl
  m17 := by kernel_rfl
  m18 := by kernel_rfl
  m19 := by kernel_rfl }
open Go.RowKit Go.Sort Go.Lib in
theorem Tryz.strconv_AppendInt_10 (B n : Nat) (i : Int) (h0 : -9223372036854775808 ≤ i) (h1 : i ≤ 9223372036854775807) (sv : Value) (xs : List Value) (w : World) (hown : w.ownsRow B 5 1 sv n xs) (hBw : B ≤ w.heap.size) (hlim : n + 21 ≤ 140737488355328) (htab : Lib.TabBelow Tryz.prog B w "internal/strconv.uint64pow10" .u64 Lib.pow10Tab) :
    Calls Tryz.prog 103 #[sv, .int .i64 i, .int .i64 10] w fun e w' => ∃ v', e = .returned v' ∧ w'.ownsRow B 5 1 v' (n + (Lib.itoa i).length) (xs ++ Lib.byteCells (Lib.itoa i)) ∧ Below B w w' ∧ Lib.OthersKept 5 none w w' := Any.strconv_AppendInt_10 Tryz.laysM176 B n i h0 h1 sv xs w hown hBw hlim htab
def Tryz.lays185_ren : Go.Shelf.Ren := ⟨fun | 185 => 104 | 187 => 188 | 115 => 189 | 253 => 190 | 224 => 191 | 254 => 192 | 255 => 250 | 291 => 251 | n => n, fun | 37 => 22 | 3 => 3 | 4 => 4 | 0 => 0 | 5 => 5 | 46 => 152 | 9 => 9 | 146 => 264 | 51 => 150 | n => n, fun | 1 => 0 | n => n⟩
theorem Tryz.lays185 : Go.Proofs.Lays.n185 Tryz.prog Tryz.lays185_ren := {
  mixed := by kernel_rfl
  f115 := Tryz.func189.trans (congrArg some (by kernel_rfl))
  f185 := Tryz.func104.trans (congrArg some (by kernel_rfl))
  f187 := Tryz.func188.trans (congrArg some (by kernel_rfl))
  f224 := Tryz.func191.trans (congrArg some (by kernel_rfl))
  f253 := Tryz.func190.trans (congrArg some (by kernel_rfl))
  f254 := Tryz.func192.trans (congrArg some (by kernel_rfl))
  f255 := Tryz.func250.trans (congrArg some (by kernel_rfl))
  f291 := Tryz.func251.trans (congrArg some (by kernel_rfl))
  t0 := Tryz.underlying0
  a0 := Tryz.isAgg0
  z0 := Tryz.sizeOf0
  v0 := Tryz.zeroValue0
  t3 := Tryz.underlying3
  a3 := Tryz.isAgg3
  z3 := Tryz.sizeOf3
  v3 := Tryz.zeroValue3
  t4 := Tryz.underlying4
  a4 := Tryz.isAgg4
  z4 := Tryz.sizeOf4
  v4 := Tryz.zeroValue4
  t5 := Tryz.underlying5
  a5 := Tryz.isAgg5
  z5 := Tryz.sizeOf5
  v5 := Tryz.zeroValue5
  t9 := Tryz.underlying9
  a9 := Tryz.isAgg9
  z9 := Tryz.sizeOf9
  v9 := Tryz.zeroValue9
  t37 := Tryz.underlying22
  a37 := Tryz.isAgg22
  z37 := Tryz.sizeOf22
  v37 := Tryz.zeroValue22
  t46 := Tryz.underlying152
  a46 := Tryz.isAgg152
  z46 := Tryz.sizeOf152
  v46 := Tryz.zeroValue152
  t51 := Tryz.underlying150
  a51 := Tryz.isAgg150
  z51 := Tryz.sizeOf150
  v51 := Tryz.zeroValue150
  t146 := Tryz.underlying264
  a146 := Tryz.isAgg264
  z146 := Tryz.sizeOf264
  v146 := Tryz.zeroValue264
  g1 := by kernel_rfl }
open Go.RowKit Go.Lib in
theorem Tryz.bytes_Index_one_nil (b2 o2 d : Nat) (cv : Int) (w : World) (hc2 : w.cell? ⟨b2, o2, none⟩ = some (.int .u8 cv)) :
    Calls Tryz.prog 104 #[.slice none 0 0, .slice (some ⟨b2, o2, none⟩) 1 d] w fun e w' => e = .returned (.int .i64 (-1)) ∧ w' = w := Any.bytes_Index_one_nil Tryz.lays185 b2 o2 d cv w hc2
def Tryz.laysSlB13_ren : Go.Shelf.Ren := ⟨fun | 13 => 186 | 24 => 247 | 25 => 248 | 12 => 104 | 31 => 264 | 19 => 188 | 20 => 189 | 21 => 190 | 22 => 191 | 23 => 192 | 29 => 250 | 30 => 251 | n => n, fun | 22 => 22 | 3 => 3 | 4 => 4 | 0 => 0 | 5 => 5 | 9 => 9 | 33 => 152 | 40 => 264 | 39 => 150 | n => n, fun | 0 => 0 | n => n⟩
theorem Tryz.laysSlB13 : Go.Proofs.SlLaysB.n13 Tryz.prog Tryz.laysSlB13_ren := {
  mixed := by kernel_rfl
  f13 := Tryz.func186.trans (congrArg some (by kernel_rfl))
  f25 := Tryz.func248.trans (congrArg some (by kernel_rfl))
  t0 := Tryz.underlying0
  a0 := Tryz.isAgg0
  z0 := Tryz.sizeOf0
  v0 := Tryz.zeroValue0
  t3 := Tryz.underlying3
  a3 := Tryz.isAgg3
  z3 := Tryz.sizeOf3
  v3 := Tryz.zeroValue3
  t4 := Tryz.underlying4
  a4 := Tryz.isAgg4
  z4 := Tryz.sizeOf4
  v4 := Tryz.zeroValue4
  t5 := Tryz.underlying5
  a5 := Tryz.isAgg5
  z5 := Tryz.sizeOf5
  v5 := Tryz.zeroValue5
  t22 := Tryz.underlying22
  a22 := Tryz.isAgg22
  z22 := Tryz.sizeOf22
  v22 := Tryz.zeroValue22 }
open Go.RowKit Go.Lib in
theorem Tryz.bytes_Count_one_at (a : Addr) (n c b2 o2 d : Nat) (xs : List Int) (cv : Int) (w : World) (hx : xs.length = n) (hc : ∀ i, i < n → w.cell? (a.add i) = some (.int .u8 (xs.getD i 0))) (hc2 : w.cell? ⟨b2, o2, none⟩ = some (.int .u8 cv)) :
    Calls Tryz.prog 186 #[.slice (some a) n c, .slice (some ⟨b2, o2, none⟩) 1 d] w fun e w' => e = .returned (.int .i64 (Lib.countByte (Lib.bytesOf xs) cv.toNat.toUInt8)) ∧ w' = w := Any.bytes_Count_one_at Tryz.laysSlB13 a n c b2 o2 d xs cv w hx hc hc2
open Go.RowKit Go.Lib in
theorem Tryz.bytes_Count_one_nil (b2 o2 d : Nat) (cv : Int) (w : World) (hc2 : w.cell? ⟨b2, o2, none⟩ = some (.int .u8 cv)) :
    Calls Tryz.prog 186 #[.slice none 0 0, .slice (some ⟨b2, o2, none⟩) 1 d] w fun e w' => e = .returned (.int .i64 0) ∧ w' = w := Any.bytes_Count_one_nil Tryz.laysSlB13 b2 o2 d cv w hc2
open Go.RowKit Go.Lib in
theorem Tryz.bytes_Index_one_at (a : Addr) (n c b2 o2 d : Nat) (xs : List Int) (cv : Int) (w : World) (hx : xs.length = n) (hc : ∀ i, i < n → w.cell? (a.add i) = some (.int .u8 (xs.getD i 0))) (hc2 : w.cell? ⟨b2, o2, none⟩ = some (.int .u8 cv)) :
    Calls Tryz.prog 104 #[.slice (some a) n c, .slice (some ⟨b2, o2, none⟩) 1 d] w fun e w' => e = .returned (.int .i64 (Lib.indexByte (Lib.bytesOf xs) cv.toNat.toUInt8)) ∧ w' = w := Any.bytes_Index_one_at Tryz.lays185 a n c b2 o2 d xs cv w hx hc hc2
def Tryz.laysSlP11_ren : Go.Shelf.Ren := ⟨fun | 11 => 101 | 14 => 185 | 15 => 186 | 16 => 104 | 17 => 246 | 19 => 247 | 20 => 248 | 21 => 188 | 22 => 189 | 23 => 190 | 24 => 191 | 25 => 192 | 26 => 263 | 29 => 264 | 30 => 250 | 31 => 251 | n => n, fun | 22 => 22 | 3 => 3 | 23 => 26 | 4 => 4 | 0 => 0 | 34 => 260 | 21 => 21 | 5 => 5 | 45 => 152 | 9 => 9 | 58 => 264 | 38 => 150 | 28 => 280 | 62 => 283 | 61 => 282 | n => n, fun | 2 => 0 | 3 => 3 | 4 => 4 | n => n⟩
theorem Tryz.laysSlP11 : Go.Proofs.SlLaysP.n11 Tryz.prog Tryz.laysSlP11_ren := {
  mixed := by kernel_rfl
  f11 := Tryz.func101.trans (congrArg some (by kernel_rfl))
  f15 := Tryz.func186.trans (congrArg some (by kernel_rfl))
  f16 := Tryz.func104.trans (congrArg some (by kernel_rfl))
  f20 := Tryz.func248.trans (congrArg some (by kernel_rfl))
  f21 := Tryz.func188.trans (congrArg some (by kernel_rfl))
  f22 := Tryz.func189.trans (congrArg some (by kernel_rfl))
  f23 := Tryz.func190.trans (congrArg some (by kernel_rfl))
  f24 := Tryz.func191.trans (congrArg some (by kernel_rfl))
  f25 := Tryz.func192.trans (congrArg some (by kernel_rfl))
  f30 := Tryz.func250.trans (congrArg some (by kernel_rfl))
  f31 := Tryz.func251.trans (congrArg some (by kernel_rfl))
  t0 := Tryz.underlying0
  a0 := Tryz.isAgg0
  z0 := Tryz.sizeOf0
  v0 := Tryz.zeroValue0
  t3 := Tryz.underlying3
  a3 := Tryz.isAgg3
  z3 := Tryz.sizeOf3
  v3 := Tryz.zeroValue3
  t4 := Tryz.underlying4
  a4 := Tryz.isAgg4
  z4 := Tryz.sizeOf4
  v4 := Tryz.zeroValue4
  t5 := Tryz.underlying5
  a5 := Tryz.isAgg5
  z5 := Tryz.sizeOf5
  v5 := Tryz.zeroValue5
  t9 := Tryz.underlying9
  a9 := Tryz.isAgg9
  z9 := Tryz.sizeOf9
  v9 := Tryz.zeroValue9
  t22 := Tryz.underlying22
  a22 := Tryz.isAgg22
  z22 := Tryz.sizeOf22
  v22 := Tryz.zeroValue22
  t23 := Tryz.underlying26
  a23 := Tryz.isAgg26
  z23 := Tryz.sizeOf26
  v23 := Tryz.zeroValue26
  t38 := Tryz.underlying150
  a38 := Tryz.isAgg150
  z38 := Tryz.sizeOf150
  v38 := Tryz.zeroValue150
  t45 := Tryz.underlying152
  a45 := Tryz.isAgg152
  z45 := Tryz.sizeOf152
  v45 := Tryz.zeroValue152
  t58 := Tryz.underlying264
  a58 := Tryz.isAgg264
  z58 := Tryz.sizeOf264
  v58 := Tryz.zeroValue264
  g2 := by kernel_rfl
  i22 := by kernel_rfl }
open Go.RowKit Go.Lib in
theorem Tryz.bytes_genSplit_core (a1 a2 : Addr) (n c1 k c2 : Nat) (xs : List Int) (sepL : List UInt8) (sv : Nat) (lim : Int) (N : Nat) (w : World) (hx : xs.length = n) (hr1 : ∀ x ∈ xs, 0 ≤ x ∧ x < 256) (hc1 : ∀ i, i < n → w.cell? (a1.add i) = some (.int .u8 (xs.getD i 0))) (hcap : n ≤ c1) (hs : n < 4294967281) (hc63 : c1 ≤ 9223372036854775807) (h1 : 1 ≤ k) (hk : k ≤ 9223372036854775807) (hsl : sepL.length = k) (hsv : sv ≤ k) (hI : ∀ (a : Addr) (zs : List Int) (ln cap q : Nat) (c : Array Value), zs.length = ln → (∀ x ∈ zs, 0 ≤ x ∧ x < 256) → (∀ i, i < ln → w.cell? (a.add i) = some (.int .u8 (zs.getD i 0))) → ln ≤ cap → ln ≤ n →
      Calls Tryz.prog 104 #[.slice (some a) ln cap, .slice (some a2) k c2] ((w.alloc (.cells c 22)).drewN q) fun e w' => e = .returned (.int .i64 (Lib.index (Lib.bytesOf zs) sepL)) ∧ ∃ q', w' = (w.alloc (.cells c 22)).drewN q') (hC : Calls Tryz.prog 186 #[.slice (some a1) n c1, .slice (some a2) k c2] w fun e w' => e = .returned (.int .i64 (Lib.count (Lib.bytesOf xs) sepL)) ∧ ∃ q, w' = w.drewN q) (hn0 : lim ≠ 0) (hn63 : lim ≤ 9223372036854775807) (hN : (N : Int) = min (if lim < 0 then (Lib.count (Lib.bytesOf xs) sepL : Int) + 1 else lim) ((n : Int) + 1)) :
    Calls Tryz.prog 101 #[.slice (some a1) n c1, .slice (some a2) k c2, .int .i64 sv, .int .i64 lim] w fun e w' =>
      e = .returned (.slice (some ⟨w.heap.size, 0, none⟩) (Lib.splitV sepL sv (N - 1) a1 c1 (Lib.bytesOf xs)).length N) ∧ ∃ q, w' = (w.alloc (.cells (Lib.cellsOfV (Lib.splitV sepL sv (N - 1) a1 c1 (Lib.bytesOf xs)) N) 22)).drewN q := Any.bytes_genSplit_core Tryz.laysSlP11 a1 a2 n c1 k c2 xs sepL sv lim N w hx hr1 hc1 hcap hs hc63 h1 hk hsl hsv hI hC hn0 hn63 hN
def Tryz.laysSlP7_ren : Go.Shelf.Ren := ⟨fun | 7 => 64 | 11 => 101 | 14 => 185 | 15 => 186 | 16 => 104 | 17 => 246 | 19 => 247 | 20 => 248 | 21 => 188 | 22 => 189 | 23 => 190 | 24 => 191 | 25 => 192 | 26 => 263 | 29 => 264 | 30 => 250 | 31 => 251 | n => n, fun | 22 => 22 | 23 => 26 | 3 => 3 | 4 => 4 | 0 => 0 | 34 => 260 | 21 => 21 | 5 => 5 | 45 => 152 | 9 => 9 | 58 => 264 | 38 => 150 | 28 => 280 | 62 => 283 | 61 => 282 | n => n, fun | 2 => 0 | 3 => 3 | 4 => 4 | n => n⟩
theorem Tryz.laysSlP7 : Go.Proofs.SlLaysP.n7 Tryz.prog Tryz.laysSlP7_ren := {
  mixed := by kernel_rfl
  f7 := Tryz.func64.trans (congrArg some (by kernel_rfl))
  f11 := Tryz.func101.trans (congrArg some (by kernel_rfl))
  f15 := Tryz.func186.trans (congrArg some (by kernel_rfl))
  f16 := Tryz.func104.trans (congrArg some (by kernel_rfl))
  f20 := Tryz.func248.trans (congrArg some (by kernel_rfl))
  f21 := Tryz.func188.trans (congrArg some (by kernel_rfl))
  f22 := Tryz.func189.trans (congrArg some (by kernel_rfl))
  f23 := Tryz.func190.trans (congrArg some (by kernel_rfl))
  f24 := Tryz.func191.trans (congrArg some (by kernel_rfl))
  f25 := Tryz.func192.trans (congrArg some (by kernel_rfl))
  f30 := Tryz.func250.trans (congrArg some (by kernel_rfl))
  f31 := Tryz.func251.trans (congrArg some (by kernel_rfl))
  t0 := Tryz.underlying0
  a0 := Tryz.isAgg0
  z0 := Tryz.sizeOf0
  v0 := Tryz.zeroValue0
  t3 := Tryz.underlying3
  a3 := Tryz.isAgg3
  z3 := Tryz.sizeOf3
  v3 := Tryz.zeroValue3
  t4 := Tryz.underlying4
  a4 := Tryz.isAgg4
  z4 := Tryz.sizeOf4
  v4 := Tryz.zeroValue4
  t5 := Tryz.underlying5
  a5 := Tryz.isAgg5
  z5 := Tryz.sizeOf5
  v5 := Tryz.zeroValue5
  t9 := Tryz.underlying9
  a9 := Tryz.isAgg9
  z9 := Tryz.sizeOf9
  v9 := Tryz.zeroValue9
  t22 := Tryz.underlying22
  a22 := Tryz.isAgg22
  z22 := Tryz.sizeOf22
  v22 := Tryz.zeroValue22
  t23 := Tryz.underlying26
  a23 := Tryz.isAgg26
  z23 := Tryz.sizeOf26
  v23 := Tryz.zeroValue26
  t38 := Tryz.underlying150
  a38 := Tryz.isAgg150
  z38 := Tryz.sizeOf150
  v38 := Tryz.zeroValue150
  t45 := Tryz.underlying152
  a45 := Tryz.isAgg152
  z45 := Tryz.sizeOf152
  v45 := Tryz.zeroValue152
  t58 := Tryz.underlying264
  a58 := Tryz.isAgg264
  z58 := Tryz.sizeOf264
  v58 := Tryz.zeroValue264
  g2 := by kernel_rfl
  i22 := by kernel_rfl }
open Go.RowKit Go.Lib in
theorem Tryz.bytes_Split (a1 a2 : Addr) (n c1 k c2 : Nat) (xs ys : List Int) (m : Int) (w : World) (hx : xs.length = n) (hy : ys.length = k) (hr1 : ∀ x ∈ xs, 0 ≤ x ∧ x < 256) (hr2 : ∀ y ∈ ys, 0 ≤ y ∧ y < 256) (hc1 : ∀ i, i < n → w.cell? (a1.add i) = some (.int .u8 (xs.getD i 0))) (hc2 : ∀ i, i < k → w.cell? (a2.add i) = some (.int .u8 (ys.getD i 0))) (hcap : n ≤ c1) (hs : n < 4294967281) (hk : k ≤ 9223372036854775807) (hc63 : c1 ≤ 9223372036854775807) (h1 : 1 ≤ k) (hm : w.cell? ⟨0, 0, none⟩ = some (.int .i64 m)) :
    Calls Tryz.prog 64 #[.slice (some a1) n c1, .slice (some a2) k c2] w fun e w' =>
      e = .returned (.slice (some ⟨w.heap.size, 0, none⟩) (Lib.count (Lib.bytesOf xs) (Lib.bytesOf ys) + 1) (Lib.count (Lib.bytesOf xs) (Lib.bytesOf ys) + 1)) ∧ ∃ q, w' = (w.alloc (.cells (Lib.splitV (Lib.bytesOf ys) 0 (Lib.count (Lib.bytesOf xs) (Lib.bytesOf ys)) a1 c1 (Lib.bytesOf xs)).toArray 22)).drewN q := Any.bytes_Split Tryz.laysSlP7 a1 a2 n c1 k c2 xs ys m w hx hy hr1 hr2 hc1 hc2 hcap hs hk hc63 h1 hm
open Go.RowKit Go.Lib in
theorem Tryz.bytes_genSplit_nil (p2 : Option Addr) (k c2 : Nat) (w : World) (h1 : 1 ≤ k) (hk : k ≤ 9223372036854775807) (h1c : k = 1 → ∃ b2 o2 cv, p2 = some ⟨b2, o2, none⟩ ∧ w.cell? ⟨b2, o2, none⟩ = some (.int .u8 cv)) (sv : Nat) (lim : Int) (hn0 : lim ≠ 0) (hn63 : lim ≤ 9223372036854775807) :
    Calls Tryz.prog 101 #[.slice none 0 0, .slice p2 k c2, .int .i64 sv, .int .i64 lim] w fun e w' => e = .returned (.slice (some ⟨w.heap.size, 0, none⟩) 1 1) ∧ w' = w.alloc (.cells #[.slice none 0 0] 22) := Any.bytes_genSplit_nil Tryz.laysSlP11 p2 k c2 w h1 hk h1c sv lim hn0 hn63
open Go.RowKit Go.Lib in
theorem Tryz.bytes_Split_nil (p2 : Option Addr) (k c2 : Nat) (w : World) (h1 : 1 ≤ k) (hk : k ≤ 9223372036854775807) (h1c : k = 1 → ∃ b2 o2 cv, p2 = some ⟨b2, o2, none⟩ ∧ w.cell? ⟨b2, o2, none⟩ = some (.int .u8 cv)) :
    Calls Tryz.prog 64 #[.slice none 0 0, .slice p2 k c2] w fun e w' => e = .returned (.slice (some ⟨w.heap.size, 0, none⟩) 1 1) ∧ w' = w.alloc (.cells #[.slice none 0 0] 22) := Any.bytes_Split_nil Tryz.laysSlP7 p2 k c2 w h1 hk h1c
def Tryz.laysSlK4_ren : Go.Shelf.Ren := ⟨fun | 4 => 70 | n => n, fun | 22 => 22 | 4 => 4 | 5 => 5 | n => n, fun | n => n⟩
theorem Tryz.laysSlK4 : Go.Proofs.SlLaysK.n4 Tryz.prog Tryz.laysSlK4_ren := {
  mixed := by kernel_rfl
  f4 := Tryz.func70.trans (congrArg some (by kernel_rfl))
  t4 := Tryz.underlying4
  a4 := Tryz.isAgg4
  z4 := Tryz.sizeOf4
  v4 := Tryz.zeroValue4
  t22 := Tryz.underlying22
  a22 := Tryz.isAgg22
  z22 := Tryz.sizeOf22
  v22 := Tryz.zeroValue22
  t5 := Tryz.underlying5
  i5 := by kernel_rfl }
open Go.RowKit Go.Lib in
theorem Tryz.bytes_Clone_at (a : Addr) (n c : Nat) (xs : List Int) (w : World) (hx : xs.length = n) (hbig : n ≤ 140737488355328) (hc : ∀ i, i < n → w.cell? (a.add i) = some (.int .u8 (xs.getD i 0))) :
    Calls Tryz.prog 70 #[.slice (some a) n c] w fun e w' => ∃ v', e = .returned v' ∧ w'.ownsRow w.heap.size 5 1 v' n (xs.map (Value.int .u8)) ∧ v' ≠ .slice none 0 0 ∧ Below w.heap.size w w' := Any.bytes_Clone_at Tryz.laysSlK4 a n c xs w hx hbig hc
open Go.RowKit Go.Lib in
theorem Tryz.bytes_Clone_nil (n c : Nat) (w : World) :
    Calls Tryz.prog 70 #[.slice none n c] w fun e w' => e = .returned (.slice none 0 0) ∧ w' = w := Any.bytes_Clone_nil Tryz.laysSlK4 n c w
def Tryz.laysSlT4_ren : Go.Shelf.Ren := ⟨fun | 4 => 68 | 5 => 104 | 6 => 188 | 7 => 189 | 8 => 190 | 9 => 191 | 10 => 192 | 11 => 250 | 12 => 251 | n => n, fun | 22 => 22 | 4 => 4 | 3 => 3 | 0 => 0 | 5 => 5 | 29 => 152 | 9 => 9 | 31 => 264 | 30 => 150 | n => n, fun | 0 => 0 | n => n⟩
theorem Tryz.laysSlT4 : Go.Proofs.SlLaysT.n4 Tryz.prog Tryz.laysSlT4_ren := {
  mixed := by kernel_rfl
  f4 := Tryz.func68.trans (congrArg some (by kernel_rfl))
  f5 := Tryz.func104.trans (congrArg some (by kernel_rfl))
  f6 := Tryz.func188.trans (congrArg some (by kernel_rfl))
  f7 := Tryz.func189.trans (congrArg some (by kernel_rfl))
  f8 := Tryz.func190.trans (congrArg some (by kernel_rfl))
  f9 := Tryz.func191.trans (congrArg some (by kernel_rfl))
  f10 := Tryz.func192.trans (congrArg some (by kernel_rfl))
  f11 := Tryz.func250.trans (congrArg some (by kernel_rfl))
  f12 := Tryz.func251.trans (congrArg some (by kernel_rfl))
  t0 := Tryz.underlying0
  a0 := Tryz.isAgg0
  z0 := Tryz.sizeOf0
  v0 := Tryz.zeroValue0
  t3 := Tryz.underlying3
  a3 := Tryz.isAgg3
  z3 := Tryz.sizeOf3
  v3 := Tryz.zeroValue3
  t4 := Tryz.underlying4
  a4 := Tryz.isAgg4
  z4 := Tryz.sizeOf4
  v4 := Tryz.zeroValue4
  t5 := Tryz.underlying5
  a5 := Tryz.isAgg5
  z5 := Tryz.sizeOf5
  v5 := Tryz.zeroValue5
  t9 := Tryz.underlying9
  a9 := Tryz.isAgg9
  z9 := Tryz.sizeOf9
  v9 := Tryz.zeroValue9
  t22 := Tryz.underlying22
  a22 := Tryz.isAgg22
  z22 := Tryz.sizeOf22
  v22 := Tryz.zeroValue22
  t29 := Tryz.underlying152
  a29 := Tryz.isAgg152
  z29 := Tryz.sizeOf152
  v29 := Tryz.zeroValue152
  t30 := Tryz.underlying150
  a30 := Tryz.isAgg150
  z30 := Tryz.sizeOf150
  v30 := Tryz.zeroValue150
  t31 := Tryz.underlying264
  a31 := Tryz.isAgg264
  z31 := Tryz.sizeOf264
  v31 := Tryz.zeroValue264
  g0 := by kernel_rfl }
theorem Tryz.bytes_Cut_of (p1 p2 : Option Addr) (n c1 k c2 : Nat) (i : Int) (w : World) (hcap : n ≤ c1) (hlo : -1 ≤ i) (hroom : 0 ≤ i → i + k ≤ n) (hn : n ≤ 4611686018427387904) (hidx : Calls Tryz.prog 104 #[.slice p1 n c1, .slice p2 k c2] w fun e w' => e = .returned (.int .i64 i) ∧ ∃ q, w' = w.drewN q) :
    Calls Tryz.prog 68 #[.slice p1 n c1, .slice p2 k c2] w fun e w' => e = .returned (Lib.cutV p1 n c1 k i) ∧ ∃ q, w' = w.drewN q := Any.bytes_Cut_of Tryz.laysSlT4 p1 p2 n c1 k c2 i w hcap hlo hroom hn hidx
end Go.Proofs
