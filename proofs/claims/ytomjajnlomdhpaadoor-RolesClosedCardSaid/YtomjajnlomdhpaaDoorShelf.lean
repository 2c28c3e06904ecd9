/-
  DERIVED: THE SHELF's CONTRACTS AT THIS DUMP, IN PLAIN WORDS (tools/lay-plain.mjs out of 'TrydShelf.lean', which tools/lay-shelf.mjs wrote): THE SAME DECLARATIONS UNDER THE SAME NAMES: 'import', 'namespace', 'open', 'def', 'theorem' AND NOTHING ELSE: no command of the shelf's: FOR A HAND-IN. Each laying: the table of numbers ('.._ren') and one theorem, a field a fact of the dump's own or the kernel's comparison; each contract: ONE APPLICATION.
-/
import Derived.Shelf.Strings.Builder1
import Derived.Shelf.Strings.Builder2
import Derived.Shelf.Strings.OnBuilder
import Derived.Shelf.Small.Bits
import Derived.Shelf.Strconv.Itoa0
import Derived.Shelf.Strconv.Itoa1
import Derived.Shelf.LaysM
import Derived.Shelf.Strconv.Itoa2
import Derived.Shelf.Strconv.Itoa3
import Derived.Shelf.Strings.Search1
import Derived.Shelf.Strings.Search2
import Derived.Shelf.Strings.Cut
import Derived.Shelf.Strings.Shaped
import Derived.Shelf.Slices.Reverse
import Derived.Shelf.Slices.Cells
import Derived.Test.YtomjajnlomdhpaaDoorProg
namespace Go.Proofs
open Go.Shelf
def Tryd.lays156_ren : Go.Shelf.Ren := ⟨fun | 156 => 96 | 165 => 109 | 166 => 110 | 169 => 111 | 240 => 128 | 241 => 129 | 276 => 137 | 277 => 138 | n => n, fun | 31 => 39 | 9 => 9 | 3 => 3 | 4 => 4 | 0 => 0 | 20 => 20 | 72 => 178 | 76 => 182 | 70 => 176 | 37 => 34 | 75 => 181 | 127 => 198 | 164 => 206 | 5 => 5 | 80 => 184 | n => n, fun | n => n⟩
theorem Tryd.lays156 : Go.Proofs.Lays.n156 Tryd.prog Tryd.lays156_ren := {
  mixed := by kernel_rfl
  f156 := Tryd.func96.trans (congrArg some (by kernel_rfl))
  f165 := Tryd.func109.trans (congrArg some (by kernel_rfl))
  f166 := Tryd.func110.trans (congrArg some (by kernel_rfl))
  f169 := Tryd.func111.trans (congrArg some (by kernel_rfl))
  f240 := Tryd.func128.trans (congrArg some (by kernel_rfl))
  f241 := Tryd.func129.trans (congrArg some (by kernel_rfl))
  f276 := Tryd.func137.trans (congrArg some (by kernel_rfl))
  f277 := Tryd.func138.trans (congrArg some (by kernel_rfl))
  t0 := Tryd.underlying0
  a0 := Tryd.isAgg0
  z0 := Tryd.sizeOf0
  v0 := Tryd.zeroValue0
  t3 := Tryd.underlying3
  a3 := Tryd.isAgg3
  z3 := Tryd.sizeOf3
  v3 := Tryd.zeroValue3
  t4 := Tryd.underlying4
  a4 := Tryd.isAgg4
  z4 := Tryd.sizeOf4
  v4 := Tryd.zeroValue4
  t9 := Tryd.underlying9
  a9 := Tryd.isAgg9
  z9 := Tryd.sizeOf9
  v9 := Tryd.zeroValue9
  t20 := Tryd.underlying20
  a20 := Tryd.isAgg20
  z20 := Tryd.sizeOf20
  v20 := Tryd.zeroValue20
  t31 := Tryd.underlying39
  a31 := Tryd.isAgg39
  z31 := Tryd.sizeOf39
  v31 := Tryd.zeroValue39
  t37 := Tryd.underlying34
  a37 := Tryd.isAgg34
  z37 := Tryd.sizeOf34
  v37 := Tryd.zeroValue34
  t70 := Tryd.underlying176
  a70 := Tryd.isAgg176
  z70 := Tryd.sizeOf176
  v70 := Tryd.zeroValue176
  t72 := Tryd.underlying178
  a72 := Tryd.isAgg178
  z72 := Tryd.sizeOf178
  v72 := Tryd.zeroValue178
  t75 := Tryd.underlying181
  a75 := Tryd.isAgg181
  z75 := Tryd.sizeOf181
  v75 := Tryd.zeroValue181
  t76 := Tryd.underlying182
  a76 := Tryd.isAgg182
  z76 := Tryd.sizeOf182
  v76 := Tryd.zeroValue182
  t127 := Tryd.underlying198
  a127 := Tryd.isAgg198
  z127 := Tryd.sizeOf198
  v127 := Tryd.zeroValue198
  t164 := Tryd.underlying206
  a164 := Tryd.isAgg206
  z164 := Tryd.sizeOf206
  v164 := Tryd.zeroValue206 }
theorem Tryd.Builder_Extra_156 : Builder.Extra Tryd.prog Tryd.lays156_ren := {
  sizeBuilder := by kernel_rfl
  liesBuilder := by kernel_rfl
  t5 := Tryd.underlying5
  a5 := Tryd.isAgg5
  z5 := Tryd.sizeOf5
  v5 := Tryd.zeroValue5
  infoByte := by kernel_rfl
  cellsByte := by kernel_rfl
  sizeByte := by kernel_rfl
  neB5 := by decide }
open Go.RowKit in
/-- No element: the empty string; the world is as it was. (Whatever the slice's address and capacity: a nil slice too.) (LAID: no walk: one application.) -/
theorem Tryd.strings_Join_none (a : Option Addr) (c : Nat) (sep : ByteArray) (w : World) :
    Calls Tryd.prog 96 #[.slice a 0 c, .string sep] w fun e w' => e = .returned (.string ⟨#[]⟩) ∧ w' = w := Any.strings_Join_none Tryd.lays156 Tryd.Builder_Extra_156 a c sep w
open Go.RowKit in
/-- strings.Join: "Join concatenates the elements of its first argument to create a single string. The separator string sep is placed between elements in the resulting string.": HOWEVER MANY ELEMENTS. Below the heap's end the world is as it was. (LAID: no walk: one application.) -/
theorem Tryd.strings_Join (bk o c : Nat) (xs : List ByteArray) (sep : ByteArray) (w : World) (hcells : ∀ (j : Nat) x, xs[j]? = some x → w.cell? ⟨bk, o + j, none⟩ = some (.string x)) (hbk : bk < w.heap.size) (hN : xs.length ≤ 140737488355328) (hcap : xs.length ≤ c) (hlen : (Lib.join (xs.map (·.data.toList)) sep.data.toList).length ≤ 140737488355328) :
    Calls Tryd.prog 96 #[.slice (some ⟨bk, o, none⟩) xs.length c, .string sep] w fun e w' => e = .returned (.string ⟨(Lib.join (xs.map (·.data.toList)) sep.data.toList).toArray⟩) ∧ Below w.heap.size w w' := Any.strings_Join Tryd.lays156 Tryd.Builder_Extra_156 bk o c xs sep w hcells hbk hN hcap hlen
def Tryd.laysM171_ren : Go.Shelf.Ren := ⟨fun | 171 => 97 | 243 => 112 | 246 => 130 | 283 => 139 | 284 => 140 | 285 => 141 | 286 => 142 | 129 => 122 | 317 => 148 | 318 => 149 | 319 => 150 | 320 => 151 | 337 => 154 | 338 => 155 | n => n, fun | 3 => 3 | 9 => 9 | 2 => 2 | 4 => 4 | 171 => 209 | 0 => 0 | 53 => 195 | 37 => 34 | 5 => 5 | 173 => 211 | 212 => 218 | 51 => 193 | 20 => 20 | 213 => 219 | 46 => 170 | 232 => 223 | 233 => 224 | n => n, fun | 17 => 3 | 18 => 4 | 19 => 5 | n => n⟩
theorem Tryd.laysM171 : Go.Proofs.LaysM.n171 Tryd.prog Tryd.laysM171_ren := {
  mixed := by kernel_rfl
  f129 := Tryd.func122.trans (congrArg some (by kernel_rfl))
  f171 := Tryd.func97.trans (congrArg some (by kernel_rfl))
  f243 := Tryd.func112.trans (congrArg some (by kernel_rfl))
  f246 := Tryd.func130.trans (congrArg some (by kernel_rfl))
  f283 := Tryd.func139.trans (congrArg some (by kernel_rfl))
  f284 := Tryd.func140.trans (congrArg some (by kernel_rfl))
  f285 := Tryd.func141.trans (congrArg some (by kernel_rfl))
  f286 := Tryd.func142.trans (congrArg some (by kernel_rfl))
  f317 := Tryd.func148.trans (congrArg some (by kernel_rfl))
  f318 := Tryd.func149.trans (congrArg some (by kernel_rfl))
  f319 := Tryd.func150.trans (congrArg some (by kernel_rfl))
  f320 := Tryd.func151.trans (congrArg some (by kernel_rfl))
  f337 := Tryd.func154.trans (congrArg some (by kernel_rfl))
  f338 := Tryd.func155.trans (congrArg some (by kernel_rfl))
  t0 := Tryd.underlying0
  a0 := Tryd.isAgg0
  z0 := Tryd.sizeOf0
  v0 := Tryd.zeroValue0
  t2 := Tryd.underlying2
  a2 := Tryd.isAgg2
  z2 := Tryd.sizeOf2
  v2 := Tryd.zeroValue2
  t3 := Tryd.underlying3
  a3 := Tryd.isAgg3
  z3 := Tryd.sizeOf3
  v3 := Tryd.zeroValue3
  t4 := Tryd.underlying4
  a4 := Tryd.isAgg4
  z4 := Tryd.sizeOf4
  v4 := Tryd.zeroValue4
  t5 := Tryd.underlying5
  a5 := Tryd.isAgg5
  z5 := Tryd.sizeOf5
  v5 := Tryd.zeroValue5
  t9 := Tryd.underlying9
  a9 := Tryd.isAgg9
  z9 := Tryd.sizeOf9
  v9 := Tryd.zeroValue9
  t20 := Tryd.underlying20
  a20 := Tryd.isAgg20
  z20 := Tryd.sizeOf20
  v20 := Tryd.zeroValue20
  t37 := Tryd.underlying34
  a37 := Tryd.isAgg34
  z37 := Tryd.sizeOf34
  v37 := Tryd.zeroValue34
  t46 := Tryd.underlying170
  a46 := Tryd.isAgg170
  z46 := Tryd.sizeOf170
  v46 := Tryd.zeroValue170
  t51 := Tryd.underlying193
  a51 := Tryd.isAgg193
  z51 := Tryd.sizeOf193
  v51 := Tryd.zeroValue193
  t53 := Tryd.underlying195
  a53 := Tryd.isAgg195
  z53 := Tryd.sizeOf195
  v53 := Tryd.zeroValue195
  t171 := Tryd.underlying209
  a171 := Tryd.isAgg209
  z171 := Tryd.sizeOf209
  v171 := Tryd.zeroValue209
  t173 := Tryd.underlying211
  a173 := Tryd.isAgg211
  z173 := Tryd.sizeOf211
  v173 := Tryd.zeroValue211
  t212 := Tryd.underlying218
  a212 := Tryd.isAgg218
  z212 := Tryd.sizeOf218
  v212 := Tryd.zeroValue218
  t213 := Tryd.underlying219
  a213 := Tryd.isAgg219
  z213 := Tryd.sizeOf219
  t232 := Tryd.underlying223
  a232 := Tryd.isAgg223
  z232 := Tryd.sizeOf223
  v232 := Tryd.zeroValue223
  t233 := Tryd.underlying224
  a233 := Tryd.isAgg224
  z233 := Tryd.sizeOf224
  v233 := Tryd.zeroValue224
  g17 := by kernel_rfl
  g18 := by kernel_rfl
  g19 := by kernel_rfl
  i0 := by kernel_rfl
  i2 := by kernel_rfl
  i3 := by kernel_rfl
  i4 := by kernel_rfl
  i5 := by kernel_rfl
  i9 := by kernel_rfl
  i20 := by kernel_rfl
  i37 := by kernel_rfl
  i46 := by kernel_rfl
  i51 := by kernel_rfl
  i53 := by kernel_rfl
  i171 := by kernel_rfl
  i173 := by kernel_rfl
  i212 := by kernel_rfl
  i232 := by kernel_rfl
  i233 := by kernel_rfl
  m17 := by kernel_rfl
  m18 := by kernel_rfl
  m19 := by kernel_rfl }
open Go.RowKit Go.Sort Go.Lib in
/-- strconv.Itoa: "Itoa is equivalent to FormatInt(int64(i), 10).": i's DECIMAL NUMERAL ('Lib.itoa': a '-' where i is negative, then the digits), FOR EVERY int. The world behind the call: the world before it, new blocks behind the heap (the library's 'var a [24]byte'), draws. (LAID: no walk: one application.) -/
theorem Tryd.strconv_Itoa (n : Int) (h0 : -9223372036854775808 ≤ n) (h1 : n ≤ 9223372036854775807) (w : World) (htab : Lib.TabIs Tryd.prog w "internal/strconv.uint64pow10" .u64 Lib.pow10Tab) :
    Calls Tryd.prog 97 #[.int .i64 n] w fun e w' => e = .returned (.string ⟨(Lib.itoa n).toArray⟩) ∧ ∃ k os, w' = grow (w.drewN k) os := Any.strconv_Itoa Tryd.laysM171 n h0 h1 w htab
def Tryd.lays219_ren : Go.Shelf.Ren := ⟨fun | 219 => 136 | 217 => 144 | 225 => 145 | 224 => 146 | 267 => 147 | 266 => 152 | 314 => 153 | n => n, fun | 9 => 9 | 3 => 3 | 4 => 4 | 5 => 5 | 46 => 170 | 146 => 221 | 51 => 193 | n => n, fun | 1 => 2 | n => n⟩
theorem Tryd.lays219 : Go.Proofs.Lays.n219 Tryd.prog Tryd.lays219_ren := {
  mixed := by kernel_rfl
  f217 := Tryd.func144.trans (congrArg some (by kernel_rfl))
  f219 := Tryd.func136.trans (congrArg some (by kernel_rfl))
  f224 := Tryd.func146.trans (congrArg some (by kernel_rfl))
  f225 := Tryd.func145.trans (congrArg some (by kernel_rfl))
  f266 := Tryd.func152.trans (congrArg some (by kernel_rfl))
  f267 := Tryd.func147.trans (congrArg some (by kernel_rfl))
  f314 := Tryd.func153.trans (congrArg some (by kernel_rfl))
  t3 := Tryd.underlying3
  a3 := Tryd.isAgg3
  z3 := Tryd.sizeOf3
  v3 := Tryd.zeroValue3
  t4 := Tryd.underlying4
  a4 := Tryd.isAgg4
  z4 := Tryd.sizeOf4
  v4 := Tryd.zeroValue4
  t5 := Tryd.underlying5
  a5 := Tryd.isAgg5
  z5 := Tryd.sizeOf5
  v5 := Tryd.zeroValue5
  t9 := Tryd.underlying9
  a9 := Tryd.isAgg9
  z9 := Tryd.sizeOf9
  v9 := Tryd.zeroValue9
  t46 := Tryd.underlying170
  a46 := Tryd.isAgg170
  z46 := Tryd.sizeOf170
  v46 := Tryd.zeroValue170
  t51 := Tryd.underlying193
  a51 := Tryd.isAgg193
  z51 := Tryd.sizeOf193
  v51 := Tryd.zeroValue193
  t146 := Tryd.underlying221
  a146 := Tryd.isAgg221
  z146 := Tryd.sizeOf221
  v146 := Tryd.zeroValue221
  g1 := by kernel_rfl }
open Go.RowKit Go.Lib in
/-- internal/stringslite.Index (what strings.Index calls) AT A substr OF ONE BYTE c: IT RETURNS 'Lib.indexByte s c'; the world is as it was. (LAID: no walk: one application.) -/
theorem Tryd.stringslite_Index_one (s : ByteArray) (c : UInt8) (w : World) :
    Calls Tryd.prog 136 #[.string s, .string ⟨#[c]⟩] w fun e w' => e = .returned (.int .i64 (Lib.indexByte s.data.toList c)) ∧ w' = w := Any.stringslite_Index_one Tryd.lays219 s c w
end Go.Proofs
