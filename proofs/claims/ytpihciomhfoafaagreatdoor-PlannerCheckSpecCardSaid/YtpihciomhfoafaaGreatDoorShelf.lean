/-
  DERIVED: THE SHELF's CONTRACTS AT THIS DUMP, IN PLAIN WORDS (tools/lay-plain.mjs out of 'TryzShelf.lean', which tools/lay-shelf.mjs wrote): THE SAME DECLARATIONS UNDER THE SAME NAMES: 'import', 'namespace', 'open', 'def', 'theorem' AND NOTHING ELSE: no command of the shelf's: FOR A HAND-IN. Each laying: the table of numbers ('.._ren') and one theorem, a field a fact of the dump's own or the kernel's comparison; each contract: ONE APPLICATION.
-/
import Derived.Shelf.Strings.Builder1
import Derived.Shelf.Strings.Builder2
import Derived.Shelf.Strings.OnBuilder
import Derived.Shelf.Small.Bits
import Derived.Shelf.Small.Strs
import Derived.Shelf.Small.Wraps
import Derived.Shelf.Strings.BuilderF
import Derived.Shelf.Strings.BuilderK
import Derived.Shelf.Utf8.RuneCount
import Derived.Shelf.Strings.Builder2Cap
import Derived.Shelf.Strconv.Itoa0
import Derived.Shelf.Strconv.Itoa1
import Derived.Shelf.LaysM
import Derived.Shelf.Strconv.Itoa2
import Derived.Shelf.Strconv.Itoa3
import Derived.Shelf.Strings.Search1
import Derived.Shelf.Strings.Search2
import Derived.Shelf.Strings.Search3
import Derived.Shelf.Strings.Cut
import Derived.Shelf.Strings.Count
import Derived.Shelf.Strings.Shaped
import Derived.Shelf.Sort.Plain
import Derived.Shelf.Strings.Prefix
import Derived.Shelf.Strings.Split
import Derived.Shelf.Strings.SplitShaped
import Derived.Shelf.Unicode.Decode
import Derived.Shelf.Strings.RuneCount
import Derived.Shelf.Strings.Explode
import Derived.Shelf.Unicode.DecodeSlow
import Derived.Shelf.Unicode.DecodeAny
import Derived.Shelf.Slices.Turned
import Derived.Shelf.Slices.Reverse
import Derived.Ground.Names2Prog
import Derived.Shelf.Slices.Clone
import Derived.Shelf.Slices.CompactS
import Derived.Shelf.Slices.SearchI
import Derived.Shelf.Slices.Cells
import Derived.Shelf.Slices.In.SortNone
import Derived.Ground.SlgnProg
import Derived.Shelf.SlicesE.Reverse
import Derived.Shelf.SlicesE.Clone
import Derived.Ground.SlsfProg
import Derived.Shelf.SlSortCmp.Insertion
import Derived.Shelf.SlSortCmp.SiftDown1
import Derived.Shelf.SlSortCmp.HeapSort1
import Derived.Shelf.SlSortCmp.Insertion1
import Derived.Shelf.SlSortCmp.Median1
import Derived.Shelf.SlSortCmp.Pivot1
import Derived.Shelf.SlSortCmp.ReverseRange1
import Derived.Shelf.SlSortCmp.PartialInsertion1
import Derived.Shelf.SlSortCmp.PartitionEqual1
import Derived.Shelf.SlSortCmp.Partition1
import Derived.Shelf.SlSortCmp.Pdq1
import Derived.Shelf.SlSortCmp.Whole1
import Derived.Shelf.SlSortCmp.NoneTotal
import Derived.Test.YtpihciomhfoafaaGreatDoorProg
namespace Go.Proofs
open Go.Shelf
def Tryz.lays156_ren : Go.Shelf.Ren := ⟨fun | 156 => 359 | 165 => 365 | 166 => 366 | 169 => 367 | 240 => 370 | 241 => 371 | 276 => 373 | 277 => 374 | n => n, fun | 31 => 32 | 9 => 9 | 3 => 3 | 4 => 4 | 0 => 0 | 20 => 20 | 72 => 375 | 76 => 379 | 70 => 373 | 37 => 47 | 75 => 378 | 127 => 382 | 164 => 388 | 5 => 5 | 80 => 381 | n => n, fun | n => n⟩
theorem Tryz.lays156 : Go.Proofs.Lays.n156 Tryz.prog Tryz.lays156_ren := {
  mixed := by kernel_rfl
  f156 := Tryz.func359.trans (congrArg some (by kernel_rfl))
  f165 := Tryz.func365.trans (congrArg some (by kernel_rfl))
  f166 := Tryz.func366.trans (congrArg some (by kernel_rfl))
  f169 := Tryz.func367.trans (congrArg some (by kernel_rfl))
  f240 := Tryz.func370.trans (congrArg some (by kernel_rfl))
  f241 := Tryz.func371.trans (congrArg some (by kernel_rfl))
  f276 := Tryz.func373.trans (congrArg some (by kernel_rfl))
  f277 := Tryz.func374.trans (congrArg some (by kernel_rfl))
  t0 := Tryz.underlying0
  a0 := Tryz.isAgg0
  z0 := Tryz.sizeOf0
  v0 := Tryz.zeroValue0
  t3 := Tryz.underlying3
  a3 := Tryz.isAgg3
  z3 := Tryz.sizeOf3
  v3 := Tryz.zeroValue3
  t4 := Tryz.underlying4
  a4 := Tryz.isAgg4
  z4 := Tryz.sizeOf4
  v4 := Tryz.zeroValue4
  t9 := Tryz.underlying9
  a9 := Tryz.isAgg9
  z9 := Tryz.sizeOf9
  v9 := Tryz.zeroValue9
  t20 := Tryz.underlying20
  a20 := Tryz.isAgg20
  z20 := Tryz.sizeOf20
  v20 := Tryz.zeroValue20
  t31 := Tryz.underlying32
  a31 := Tryz.isAgg32
  z31 := Tryz.sizeOf32
  v31 := Tryz.zeroValue32
  t37 := Tryz.underlying47
  a37 := Tryz.isAgg47
  z37 := Tryz.sizeOf47
  v37 := Tryz.zeroValue47
  t70 := Tryz.underlying373
  a70 := Tryz.isAgg373
  z70 := Tryz.sizeOf373
  v70 := Tryz.zeroValue373
  t72 := Tryz.underlying375
  a72 := Tryz.isAgg375
  z72 := Tryz.sizeOf375
  v72 := Tryz.zeroValue375
  t75 := Tryz.underlying378
  a75 := Tryz.isAgg378
  z75 := Tryz.sizeOf378
  v75 := Tryz.zeroValue378
  t76 := Tryz.underlying379
  a76 := Tryz.isAgg379
  z76 := Tryz.sizeOf379
  v76 := Tryz.zeroValue379
  t127 := Tryz.underlying382
  a127 := Tryz.isAgg382
  z127 := Tryz.sizeOf382
  v127 := Tryz.zeroValue382
  t164 := Tryz.underlying388
  a164 := Tryz.isAgg388
  z164 := Tryz.sizeOf388
  v164 := Tryz.zeroValue388 }
theorem Tryz.Builder_Extra_156 : Builder.Extra Tryz.prog Tryz.lays156_ren := {
  sizeBuilder := by kernel_rfl
  liesBuilder := by kernel_rfl
  t5 := Tryz.underlying5
  a5 := Tryz.isAgg5
  z5 := Tryz.sizeOf5
  v5 := Tryz.zeroValue5
  infoByte := by kernel_rfl
  cellsByte := by kernel_rfl
  sizeByte := by kernel_rfl
  neB5 := by decide }
open Go.RowKit in
/-- No element: the empty string; the world is as it was. (Whatever the slice's address and capacity: a nil slice too.) (LAID: no walk: one application.) -/
theorem Tryz.strings_Join_none (a : Option Addr) (c : Nat) (sep : ByteArray) (w : World) :
    Calls Tryz.prog 359 #[.slice a 0 c, .string sep] w fun e w' => e = .returned (.string ⟨#[]⟩) ∧ w' = w := Any.strings_Join_none Tryz.lays156 Tryz.Builder_Extra_156 a c sep w
open Go.RowKit in
/-- strings.Join: "Join concatenates the elements of its first argument to create a single string. The separator string sep is placed between elements in the resulting string.": HOWEVER MANY ELEMENTS. Below the heap's end the world is as it was. (LAID: no walk: one application.) -/
theorem Tryz.strings_Join (bk o c : Nat) (xs : List ByteArray) (sep : ByteArray) (w : World) (hcells : ∀ (j : Nat) x, xs[j]? = some x → w.cell? ⟨bk, o + j, none⟩ = some (.string x)) (hbk : bk < w.heap.size) (hN : xs.length ≤ 140737488355328) (hcap : xs.length ≤ c) (hlen : (Lib.join (xs.map (·.data.toList)) sep.data.toList).length ≤ 140737488355328) :
    Calls Tryz.prog 359 #[.slice (some ⟨bk, o, none⟩) xs.length c, .string sep] w fun e w' => e = .returned (.string ⟨(Lib.join (xs.map (·.data.toList)) sep.data.toList).toArray⟩) ∧ Below w.heap.size w w' := Any.strings_Join Tryz.lays156 Tryz.Builder_Extra_156 bk o c xs sep w hcells hbk hN hcap hlen
def Tryz.lays106_ren : Go.Shelf.Ren := ⟨fun | 106 => 84 | 213 => 153 | 265 => 247 | n => n, fun | 9 => 9 | 3 => 3 | n => n, fun | n => n⟩
theorem Tryz.lays106 : Go.Proofs.Lays.n106 Tryz.prog Tryz.lays106_ren := {
  mixed := by kernel_rfl
  f106 := Tryz.func84.trans (congrArg some (by kernel_rfl))
  f213 := Tryz.func153.trans (congrArg some (by kernel_rfl))
  f265 := Tryz.func247.trans (congrArg some (by kernel_rfl))
  t3 := Tryz.underlying3
  a3 := Tryz.isAgg3
  z3 := Tryz.sizeOf3
  v3 := Tryz.zeroValue3
  t9 := Tryz.underlying9
  a9 := Tryz.isAgg9
  z9 := Tryz.sizeOf9
  v9 := Tryz.zeroValue9 }
open Go.RowKit in
/-- strings.Compare: "Compare returns an integer comparing two strings lexicographically. The result will be 0 if a == b, -1 if a < b, and +1 if a > b.": IT RETURNS 'Lib.compareBytes a b'; the world is as it was. (LAID: no walk: one application.) -/
theorem Tryz.strings_Compare (a b : ByteArray) (w : World) :
    Calls Tryz.prog 84 #[.string a, .string b] w fun e w' => e = .returned (.int .i64 (Lib.compareBytes a.data.toList b.data.toList)) ∧ w' = w := Any.strings_Compare Tryz.lays106 a b w
def Tryz.laysM171_ren : Go.Shelf.Ren := ⟨fun | 171 => 361 | 243 => 368 | 246 => 372 | 283 => 375 | 284 => 376 | 285 => 377 | 286 => 378 | 129 => 152 | 317 => 379 | 318 => 380 | 319 => 381 | 320 => 382 | 337 => 383 | 338 => 384 | n => n, fun | 3 => 3 | 9 => 9 | 2 => 2 | 4 => 4 | 171 => 391 | 0 => 0 | 53 => 228 | 37 => 47 | 5 => 5 | 173 => 393 | 212 => 396 | 51 => 226 | 20 => 20 | 213 => 397 | 46 => 146 | 232 => 398 | 233 => 399 | n => n, fun | 17 => 6 | 18 => 7 | 19 => 8 | n => n⟩
theorem Tryz.laysM171 : Go.Proofs.LaysM.n171 Tryz.prog Tryz.laysM171_ren := {
  mixed := by kernel_rfl
  f129 := Tryz.func152.trans (congrArg some (by kernel_rfl))
  f171 := Tryz.func361.trans (congrArg some (by kernel_rfl))
  f243 := Tryz.func368.trans (congrArg some (by kernel_rfl))
  f246 := Tryz.func372.trans (congrArg some (by kernel_rfl))
  f283 := Tryz.func375.trans (congrArg some (by kernel_rfl))
  f284 := Tryz.func376.trans (congrArg some (by kernel_rfl))
  f285 := Tryz.func377.trans (congrArg some (by kernel_rfl))
  f286 := Tryz.func378.trans (congrArg some (by kernel_rfl))
  f317 := Tryz.func379.trans (congrArg some (by kernel_rfl))
  f318 := Tryz.func380.trans (congrArg some (by kernel_rfl))
  f319 := Tryz.func381.trans (congrArg some (by kernel_rfl))
  f320 := Tryz.func382.trans (congrArg some (by kernel_rfl))
  f337 := Tryz.func383.trans (congrArg some (by kernel_rfl))
  f338 := Tryz.func384.trans (congrArg some (by kernel_rfl))
  t0 := Tryz.underlying0
  a0 := Tryz.isAgg0
  z0 := Tryz.sizeOf0
  v0 := Tryz.zeroValue0
  t2 := Tryz.underlying2
  a2 := Tryz.isAgg2
  z2 := Tryz.sizeOf2
  v2 := Tryz.zeroValue2
  t3 := Tryz.underlying3
  a3 := Tryz.isAgg3
  z3 := Tryz.sizeOf3
  v3 := Tryz.zeroValue3
  t4 := Tryz.underlying4
  a4 := Tryz.isAgg4
  z4 := Tryz.sizeOf4
  v4 := Tryz.zeroValue4
  t5 := Tryz.underlying5
  a5 := Tryz.isAgg5
  z5 := Tryz.sizeOf5
  v5 := Tryz.zeroValue5
  t9 := Tryz.underlying9
  a9 := Tryz.isAgg9
  z9 := Tryz.sizeOf9
  v9 := Tryz.zeroValue9
  t20 := Tryz.underlying20
  a20 := Tryz.isAgg20
  z20 := Tryz.sizeOf20
  v20 := Tryz.zeroValue20
  t37 := Tryz.underlying47
  a37 := Tryz.isAgg47
  z37 := Tryz.sizeOf47
  v37 := Tryz.zeroValue47
  t46 := Tryz.underlying146
  a46 := Tryz.isAgg146
  z46 := Tryz.sizeOf146
  v46 := Tryz.zeroValue146
  t51 := Tryz.underlying226
  a51 := Tryz.isAgg226
  z51 := Tryz.sizeOf226
  v51 := Tryz.zeroValue226
  t53 := Tryz.underlying228
  a53 := Tryz.isAgg228
  z53 := Tryz.sizeOf228
  v53 := Tryz.zeroValue228
  t171 := Tryz.underlying391
  a171 := Tryz.isAgg391
  z171 := Tryz.sizeOf391
  v171 := Tryz.zeroValue391
  t173 := Tryz.underlying393
  a173 := Tryz.isAgg393
  z173 := Tryz.sizeOf393
  v173 := Tryz.zeroValue393
  t212 := Tryz.underlying396
  a212 := Tryz.isAgg396
  z212 := Tryz.sizeOf396
  v212 := Tryz.zeroValue396
  t213 := Tryz.underlying397
  a213 := Tryz.isAgg397
  z213 := Tryz.sizeOf397
  t232 := Tryz.underlying398
  a232 := Tryz.isAgg398
  z232 := Tryz.sizeOf398
  v232 := Tryz.zeroValue398
  t233 := Tryz.underlying399
  a233 := Tryz.isAgg399
  z233 := Tryz.sizeOf399
  v233 := Tryz.zeroValue399
  g17 := by kernel_rfl
  g18 := by kernel_rfl
  g19 := by kernel_rfl
  i0 := by kernel_rfl
  i2 := by kernel_rfl
  i3 := by kernel_rfl
  i4 := by kernel_rfl
  i5 := by kernel_rfl
  i9 := by kernel_rfl
  i20 := by kernel_rfl
  i37 := by kernel_rfl
  i46 := by kernel_rfl
  i51 := by kernel_rfl
  i53 := by kernel_rfl
  i171 := by kernel_rfl
  i173 := by kernel_rfl
  i212 := by kernel_rfl
  i232 := by kernel_rfl
  i233 := by kernel_rfl
  m17 := by kernel_rfl
  m18 := by kernel_rfl
  m19 := by kernel_rfl }
open Go.RowKit Go.Sort Go.Lib in
/-- strconv.Itoa: "Itoa is equivalent to FormatInt(int64(i), 10).": i's DECIMAL NUMERAL ('Lib.itoa': a '-' where i is negative, then the digits), FOR EVERY int. The world behind the call: the world before it, new blocks behind the heap (the library's 'var a [24]byte'), draws. (LAID: no walk: one application.) -/
theorem Tryz.strconv_Itoa (n : Int) (h0 : -9223372036854775808 ≤ n) (h1 : n ≤ 9223372036854775807) (w : World) (htab : Lib.TabIs Tryz.prog w "internal/strconv.uint64pow10" .u64 Lib.pow10Tab) :
    Calls Tryz.prog 361 #[.int .i64 n] w fun e w' => e = .returned (.string ⟨(Lib.itoa n).toArray⟩) ∧ ∃ k os, w' = grow (w.drewN k) os := Any.strconv_Itoa Tryz.laysM171 n h0 h1 w htab
def Tryz.lays219_ren : Go.Shelf.Ren := ⟨fun | 219 => 320 | 217 => 332 | 225 => 333 | 224 => 334 | 267 => 335 | 266 => 356 | 314 => 357 | n => n, fun | 9 => 9 | 3 => 3 | 4 => 4 | 5 => 5 | 46 => 146 | 146 => 365 | 51 => 226 | n => n, fun | 1 => 1 | n => n⟩
theorem Tryz.lays219 : Go.Proofs.Lays.n219 Tryz.prog Tryz.lays219_ren := {
  mixed := by kernel_rfl
  f217 := Tryz.func332.trans (congrArg some (by kernel_rfl))
  f219 := Tryz.func320.trans (congrArg some (by kernel_rfl))
  f224 := Tryz.func334.trans (congrArg some (by kernel_rfl))
  f225 := Tryz.func333.trans (congrArg some (by kernel_rfl))
  f266 := Tryz.func356.trans (congrArg some (by kernel_rfl))
  f267 := Tryz.func335.trans (congrArg some (by kernel_rfl))
  f314 := Tryz.func357.trans (congrArg some (by kernel_rfl))
  t3 := Tryz.underlying3
  a3 := Tryz.isAgg3
  z3 := Tryz.sizeOf3
  v3 := Tryz.zeroValue3
  t4 := Tryz.underlying4
  a4 := Tryz.isAgg4
  z4 := Tryz.sizeOf4
  v4 := Tryz.zeroValue4
  t5 := Tryz.underlying5
  a5 := Tryz.isAgg5
  z5 := Tryz.sizeOf5
  v5 := Tryz.zeroValue5
  t9 := Tryz.underlying9
  a9 := Tryz.isAgg9
  z9 := Tryz.sizeOf9
  v9 := Tryz.zeroValue9
  t46 := Tryz.underlying146
  a46 := Tryz.isAgg146
  z46 := Tryz.sizeOf146
  v46 := Tryz.zeroValue146
  t51 := Tryz.underlying226
  a51 := Tryz.isAgg226
  z51 := Tryz.sizeOf226
  v51 := Tryz.zeroValue226
  t146 := Tryz.underlying365
  a146 := Tryz.isAgg365
  z146 := Tryz.sizeOf365
  v146 := Tryz.zeroValue365
  g1 := by kernel_rfl }
open Go.RowKit Go.Lib in
/-- internal/stringslite.Index (what strings.Index calls) AT A substr OF ONE BYTE c: IT RETURNS 'Lib.indexByte s c'; the world is as it was. (LAID: no walk: one application.) -/
theorem Tryz.stringslite_Index_one (s : ByteArray) (c : UInt8) (w : World) :
    Calls Tryz.prog 320 #[.string s, .string ⟨#[c]⟩] w fun e w' => e = .returned (.int .i64 (Lib.indexByte s.data.toList c)) ∧ w' = w := Any.stringslite_Index_one Tryz.lays219 s c w
def Tryz.lays138_ren : Go.Shelf.Ren := ⟨fun | 138 => 353 | 195 => 362 | 218 => 364 | 143 => 354 | 219 => 320 | 217 => 332 | 225 => 333 | 224 => 334 | 267 => 335 | 266 => 356 | 314 => 357 | n => n, fun | 9 => 9 | 3 => 3 | 4 => 4 | 5 => 5 | 0 => 0 | 46 => 146 | 146 => 365 | 51 => 226 | n => n, fun | 1 => 1 | n => n⟩
theorem Tryz.lays138 : Go.Proofs.Lays.n138 Tryz.prog Tryz.lays138_ren := {
  mixed := by kernel_rfl
  f138 := Tryz.func353.trans (congrArg some (by kernel_rfl))
  f143 := Tryz.func354.trans (congrArg some (by kernel_rfl))
  f195 := Tryz.func362.trans (congrArg some (by kernel_rfl))
  f217 := Tryz.func332.trans (congrArg some (by kernel_rfl))
  f218 := Tryz.func364.trans (congrArg some (by kernel_rfl))
  f219 := Tryz.func320.trans (congrArg some (by kernel_rfl))
  f224 := Tryz.func334.trans (congrArg some (by kernel_rfl))
  f225 := Tryz.func333.trans (congrArg some (by kernel_rfl))
  f266 := Tryz.func356.trans (congrArg some (by kernel_rfl))
  f267 := Tryz.func335.trans (congrArg some (by kernel_rfl))
  f314 := Tryz.func357.trans (congrArg some (by kernel_rfl))
  t0 := Tryz.underlying0
  a0 := Tryz.isAgg0
  z0 := Tryz.sizeOf0
  v0 := Tryz.zeroValue0
  t3 := Tryz.underlying3
  a3 := Tryz.isAgg3
  z3 := Tryz.sizeOf3
  v3 := Tryz.zeroValue3
  t4 := Tryz.underlying4
  a4 := Tryz.isAgg4
  z4 := Tryz.sizeOf4
  v4 := Tryz.zeroValue4
  t5 := Tryz.underlying5
  a5 := Tryz.isAgg5
  z5 := Tryz.sizeOf5
  v5 := Tryz.zeroValue5
  t9 := Tryz.underlying9
  a9 := Tryz.isAgg9
  z9 := Tryz.sizeOf9
  v9 := Tryz.zeroValue9
  t46 := Tryz.underlying146
  a46 := Tryz.isAgg146
  z46 := Tryz.sizeOf146
  v46 := Tryz.zeroValue146
  t51 := Tryz.underlying226
  a51 := Tryz.isAgg226
  z51 := Tryz.sizeOf226
  v51 := Tryz.zeroValue226
  t146 := Tryz.underlying365
  a146 := Tryz.isAgg365
  z146 := Tryz.sizeOf365
  v146 := Tryz.zeroValue365
  g1 := by kernel_rfl }
open Go.RowKit Go.Lib in
/-- strings.Count AT A substr OF ONE BYTE ('hp'): "Count counts the number of non-overlapping instances of substr in s.": IT RETURNS 'Lib.countByte s (that byte)'; the world is as it was. ✋ NO CONTRACT HERE YET at an empty substr (utf8.RuneCountInString) or at a longer one (a loop over strings.Index). (LAID: no walk: one application.) -/
theorem Tryz.strings_Count_one (s : ByteArray) (c : UInt8) (w : World) :
    Calls Tryz.prog 353 #[.string s, .string ⟨#[c]⟩] w fun e w' => e = .returned (.int .i64 (Lib.countByte s.data.toList c)) ∧ w' = w := Any.strings_Count_one Tryz.lays138 s c w
def Tryz.lays190_ren : Go.Shelf.Ren := ⟨fun | 190 => 70 | 125 => 81 | 258 => 138 | 128 => 151 | 129 => 152 | 302 => 232 | 303 => 233 | 304 => 234 | 305 => 235 | 306 => 236 | 307 => 237 | 308 => 238 | 309 => 239 | 310 => 240 | 333 => 289 | 329 => 243 | 330 => 244 | 334 => 290 | 335 => 291 | 336 => 277 | 344 => 319 | n => n, fun | 31 => 32 | 9 => 9 | 3 => 3 | 46 => 146 | 0 => 0 | 51 => 226 | 53 => 228 | 4 => 4 | 183 => 219 | 182 => 218 | 131 => 223 | 5 => 5 | 218 => 297 | 222 => 232 | 228 => 327 | 229 => 328 | n => n, fun | n => n⟩
theorem Tryz.lays190 : Go.Proofs.Lays.n190 Tryz.prog Tryz.lays190_ren := {
  mixed := by kernel_rfl
  f125 := Tryz.func81.trans (congrArg some (by kernel_rfl))
  f128 := Tryz.func151.trans (congrArg some (by kernel_rfl))
  f129 := Tryz.func152.trans (congrArg some (by kernel_rfl))
  f190 := Tryz.func70.trans (congrArg some (by kernel_rfl))
  f258 := Tryz.func138.trans (congrArg some (by kernel_rfl))
  f302 := Tryz.func232.trans (congrArg some (by kernel_rfl))
  f303 := Tryz.func233.trans (congrArg some (by kernel_rfl))
  f304 := Tryz.func234.trans (congrArg some (by kernel_rfl))
  f305 := Tryz.func235.trans (congrArg some (by kernel_rfl))
  f306 := Tryz.func236.trans (congrArg some (by kernel_rfl))
  f307 := Tryz.func237.trans (congrArg some (by kernel_rfl))
  f308 := Tryz.func238.trans (congrArg some (by kernel_rfl))
  f309 := Tryz.func239.trans (congrArg some (by kernel_rfl))
  f310 := Tryz.func240.trans (congrArg some (by kernel_rfl))
  f329 := Tryz.func243.trans (congrArg some (by kernel_rfl))
  f330 := Tryz.func244.trans (congrArg some (by kernel_rfl))
  f333 := Tryz.func289.trans (congrArg some (by kernel_rfl))
  f334 := Tryz.func290.trans (congrArg some (by kernel_rfl))
  f335 := Tryz.func291.trans (congrArg some (by kernel_rfl))
  f336 := Tryz.func277.trans (congrArg some (by kernel_rfl))
  f344 := Tryz.func319.trans (congrArg some (by kernel_rfl))
  t0 := Tryz.underlying0
  a0 := Tryz.isAgg0
  z0 := Tryz.sizeOf0
  v0 := Tryz.zeroValue0
  t3 := Tryz.underlying3
  a3 := Tryz.isAgg3
  z3 := Tryz.sizeOf3
  v3 := Tryz.zeroValue3
  t4 := Tryz.underlying4
  a4 := Tryz.isAgg4
  z4 := Tryz.sizeOf4
  v4 := Tryz.zeroValue4
  t5 := Tryz.underlying5
  a5 := Tryz.isAgg5
  z5 := Tryz.sizeOf5
  v5 := Tryz.zeroValue5
  t9 := Tryz.underlying9
  a9 := Tryz.isAgg9
  z9 := Tryz.sizeOf9
  v9 := Tryz.zeroValue9
  t31 := Tryz.underlying32
  a31 := Tryz.isAgg32
  z31 := Tryz.sizeOf32
  v31 := Tryz.zeroValue32
  t46 := Tryz.underlying146
  a46 := Tryz.isAgg146
  z46 := Tryz.sizeOf146
  v46 := Tryz.zeroValue146
  t51 := Tryz.underlying226
  a51 := Tryz.isAgg226
  z51 := Tryz.sizeOf226
  v51 := Tryz.zeroValue226
  t53 := Tryz.underlying228
  a53 := Tryz.isAgg228
  z53 := Tryz.sizeOf228
  v53 := Tryz.zeroValue228
  t131 := Tryz.underlying223
  a131 := Tryz.isAgg223
  z131 := Tryz.sizeOf223
  v131 := Tryz.zeroValue223
  t182 := Tryz.underlying218
  a182 := Tryz.isAgg218
  z182 := Tryz.sizeOf218
  v182 := Tryz.zeroValue218
  t183 := Tryz.underlying219
  a183 := Tryz.isAgg219
  z183 := Tryz.sizeOf219
  v183 := Tryz.zeroValue219
  t218 := Tryz.underlying297
  a218 := Tryz.isAgg297
  z218 := Tryz.sizeOf297
  v218 := Tryz.zeroValue297
  t222 := Tryz.underlying232
  a222 := Tryz.isAgg232
  z222 := Tryz.sizeOf232
  v222 := Tryz.zeroValue232
  t228 := Tryz.underlying327
  a228 := Tryz.isAgg327
  z228 := Tryz.sizeOf327
  v228 := Tryz.zeroValue327
  t229 := Tryz.underlying328
  a229 := Tryz.isAgg328
  z229 := Tryz.sizeOf328
  v229 := Tryz.zeroValue328 }
open Go.Sort Go.RowKit in
theorem Tryz.slices_Sort_string (blk off cap : Nat) (ss : List (List UInt8)) (w : World) (hH : Holds encStr w blk off ss.toArray) (hblk : blk < w.heap.size) (hsz : ss.length < 4611686018427387904) :
    Calls Tryz.prog 70 #[.slice (some ⟨blk, off, none⟩) ss.length cap] w fun e w' =>
      e = .returned (.tuple #[]) ∧ ∃ n os, w' = grow (putRow encStr (Sort.ahead w n) blk off (ss.mergeSort fun x y => decide (x ≤ y)).toArray) os := Any.slices_Sort_string Tryz.lays190 blk off cap ss w hH hblk hsz
open Go.RowKit Go.Sort in
/-- .. and plain. (LAID: no walk: one application.) -/
theorem Tryz.slices_Sort_string_none (p : Option Addr) (cap : Nat) (w : World) :
    Calls Tryz.prog 70 #[.slice p 0 cap] w fun e w' => e = .returned (.tuple #[]) ∧ w' = w := Any.slices_Sort_string_none Tryz.lays190 p cap w
end Go.Proofs
