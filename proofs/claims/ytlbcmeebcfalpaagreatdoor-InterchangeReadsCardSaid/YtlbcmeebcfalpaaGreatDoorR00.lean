/- Joined: Shelf, Base, CVal. -/
import Derived.Shelf.Strings.Builder1
import Derived.Shelf.Small.Strs
import Derived.Shelf.Strings.BuilderF
import Derived.Shelf.Strings.BuilderK
import Derived.Shelf.Strconv.Atoi
import Derived.Shelf.Strconv.Itoa0
import Derived.Shelf.Strconv.Itoa1
import Derived.Shelf.LaysM
import Derived.Shelf.Strconv.Itoa2
import Derived.Shelf.Strconv.Itoa3
import Derived.Shelf.Strconv.AtoiErrFast
import Derived.Shelf.Strconv.ParseIntEmpty
import Derived.Shelf.Strconv.AtoiFail
import Derived.Shelf.Strconv.Clone
import Derived.Shelf.Strconv.SyntaxError
import Derived.Shelf.LaysC
import Derived.Shelf.Strconv.ToError
import Derived.Shelf.Strconv.AtoiErr
import Derived.Shelf.Strconv.ErrVar
import Derived.Shelf.Strconv.Lower
import Derived.Shelf.Strconv.ParseUint10
import Derived.Shelf.Strconv.ParseUint10Empty
import Derived.Shelf.Strconv.ParseUint10Any
import Derived.Shelf.Strconv.ParseInt10
import Derived.Shelf.Strconv.AtoiLong
import Derived.Shelf.Strconv.AtoiInnerAll
import Derived.Shelf.Strconv.RangeError
import Derived.Shelf.Strconv.ToErrorRange
import Derived.Shelf.Strconv.AtoiAll
import Derived.Shelf.Strconv.ErrVarAll
import Derived.Shelf.Strconv.ParseUintEmpty
import Derived.Shelf.Strconv.ParseUint10b64
import Derived.Shelf.Strconv.ParseUint10b32
import Derived.Shelf.Strconv.ParseUint10b16
import Derived.Shelf.Strconv.ParseUint10b8
import Derived.Shelf.Strconv.ParseUint10At
import Derived.Shelf.Strconv.ParseInt10At64
import Derived.Shelf.Strconv.ParseInt10At32
import Derived.Shelf.Strconv.ParseInt10At16
import Derived.Shelf.Strconv.ParseInt10At8
import Derived.Shelf.Strconv.ParseInt10All
import Derived.Shelf.Strings.Search1
import Derived.Shelf.Strings.Prefix
import Derived.Shelf.Strings.BuilderCap
import Derived.Test.YtlbcmeebcfalpaaGreatDoorProg
import Derived.Test.YtlbcmeebcfalpaaGreatDoorRows
import Derived.WalkKit
import Derived.WalkSpells
import Derived.WalkLawsBesides
import Derived.Deep.QuietTactic
import Derived.BigQuiet
import Derived.Lib.Hide
import Derived.OneCell
import Derived.RangeFuncOwn
set_option linter.unusedVariables false
set_option linter.unusedSimpArgs false
set_option maxRecDepth 100000
set_option maxHeartbeats 16000000
namespace Go.Proofs
open Go.Shelf
def Tryz.lays170_ren : Go.Shelf.Ren := ⟨fun | 170 => 199 | n => n, fun | 70 => 263 | 3 => 3 | 0 => 0 | 72 => 265 | 37 => 183 | 5 => 5 | n => n, fun | n => n⟩
theorem Tryz.lays170 : Go.Proofs.Lays.n170 Tryz.prog Tryz.lays170_ren := {
  mixed := by kernel_rfl
  f170 := Tryz.func199.trans (congrArg some (by kernel_rfl))
  t0 := Tryz.underlying0
  a0 := Tryz.isAgg0
  z0 := Tryz.sizeOf0
  v0 := Tryz.zeroValue0
  t3 := Tryz.underlying3
  a3 := Tryz.isAgg3
  z3 := Tryz.sizeOf3
  v3 := Tryz.zeroValue3
  t37 := Tryz.underlying183
  a37 := Tryz.isAgg183
  z37 := Tryz.sizeOf183
  v37 := Tryz.zeroValue183
  t70 := Tryz.underlying263
  a70 := Tryz.isAgg263
  z70 := Tryz.sizeOf263
  v70 := Tryz.zeroValue263
  t72 := Tryz.underlying265
  a72 := Tryz.isAgg265
  z72 := Tryz.sizeOf265
  v72 := Tryz.zeroValue265 }
open Go.RowKit in
/-- (*strings.Builder).Len: "Len returns the number of accumulated bytes; b.Len() == len(b.String()).": the world is as it was. (LAID: no walk: one application.) -/
theorem Tryz.Builder_Len (B b : Nat) (bs : List Value) (w : World) (h : Lib.IsBuilder 265 5 B b bs w) :
    Calls Tryz.prog 199 #[.pointer (some ⟨b, 0, none⟩)] w fun e w' => e = .returned (.int .i64 bs.length) /\ w' = w := Any.Builder_Len Tryz.lays170 B b bs w h
def Tryz.lays169_ren : Go.Shelf.Ren := ⟨fun | 169 => 201 | n => n, fun | 70 => 263 | 9 => 9 | 0 => 0 | 72 => 265 | 37 => 183 | 127 => 301 | 3 => 3 | 5 => 5 | n => n, fun | n => n⟩
theorem Tryz.lays169 : Go.Proofs.Lays.n169 Tryz.prog Tryz.lays169_ren := {
  mixed := by kernel_rfl
  f169 := Tryz.func201.trans (congrArg some (by kernel_rfl))
  t0 := Tryz.underlying0
  a0 := Tryz.isAgg0
  z0 := Tryz.sizeOf0
  v0 := Tryz.zeroValue0
  t3 := Tryz.underlying3
  a3 := Tryz.isAgg3
  z3 := Tryz.sizeOf3
  v3 := Tryz.zeroValue3
  t9 := Tryz.underlying9
  a9 := Tryz.isAgg9
  z9 := Tryz.sizeOf9
  v9 := Tryz.zeroValue9
  t37 := Tryz.underlying183
  a37 := Tryz.isAgg183
  z37 := Tryz.sizeOf183
  v37 := Tryz.zeroValue183
  t70 := Tryz.underlying263
  a70 := Tryz.isAgg263
  z70 := Tryz.sizeOf263
  v70 := Tryz.zeroValue263
  t72 := Tryz.underlying265
  a72 := Tryz.isAgg265
  z72 := Tryz.sizeOf265
  v72 := Tryz.zeroValue265
  t127 := Tryz.underlying301
  a127 := Tryz.isAgg301
  z127 := Tryz.sizeOf301
  v127 := Tryz.zeroValue301 }
theorem Tryz.Builder_Extra_169 : Builder.Extra Tryz.prog Tryz.lays169_ren := {
  sizeBuilder := by kernel_rfl
  liesBuilder := by kernel_rfl
  t5 := Tryz.underlying5
  a5 := Tryz.isAgg5
  z5 := Tryz.sizeOf5
  v5 := Tryz.zeroValue5
  infoByte := by kernel_rfl
  cellsByte := by kernel_rfl
  sizeByte := by kernel_rfl
  neB5 := by decide }
open Go.RowKit in
/-- (*strings.Builder).String: "String returns the accumulated string.": WHATEVER THE BUILDER HOLDS. (LAID: no walk: one application.) -/
theorem Tryz.Builder_String_any (B b : Nat) (l : List UInt8) (w : World) (h : Lib.IsBuilder 265 5 B b (Lib.byteCells l) w) (hBw : B <= w.heap.size) :
    Calls Tryz.prog 201 #[.pointer (some ⟨b, 0, none⟩)] w fun e w' => e = .returned (.string ⟨l.toArray⟩) /\ Below B w w' := Any.Builder_String_any Tryz.lays169 Tryz.Builder_Extra_169 B b l w h hBw
def Tryz.lays137_ren : Go.Shelf.Ren := ⟨fun | 137 => 218 | 217 => 248 | 266 => 264 | n => n, fun | 9 => 9 | 5 => 5 | 3 => 3 | n => n, fun | n => n⟩
theorem Tryz.lays137 : Go.Proofs.Lays.n137 Tryz.prog Tryz.lays137_ren := {
  mixed := by kernel_rfl
  f137 := Tryz.func218.trans (congrArg some (by kernel_rfl))
  f217 := Tryz.func248.trans (congrArg some (by kernel_rfl))
  f266 := Tryz.func264.trans (congrArg some (by kernel_rfl))
  t3 := Tryz.underlying3
  a3 := Tryz.isAgg3
  z3 := Tryz.sizeOf3
  v3 := Tryz.zeroValue3
  t5 := Tryz.underlying5
  a5 := Tryz.isAgg5
  z5 := Tryz.sizeOf5
  v5 := Tryz.zeroValue5
  t9 := Tryz.underlying9
  a9 := Tryz.isAgg9
  z9 := Tryz.sizeOf9
  v9 := Tryz.zeroValue9 }
open Go.RowKit in
/-- strings.IndexByte: "IndexByte returns the index of the first instance of c in s, or -1 if c is not present in s.": IT RETURNS 'Lib.indexByte s c'; the world is as it was. (LAID: no walk: one application.) -/
theorem Tryz.strings_IndexByte (s : ByteArray) (c : Int) (w : World) :
    Calls Tryz.prog 218 #[.string s, .int .u8 c] w fun e w' => e = .returned (.int .i64 (Lib.indexByte s.data.toList c.toNat.toUInt8)) /\ w' = w := Any.strings_IndexByte Tryz.lays137 s c w
def Tryz.laysM171_ren : Go.Shelf.Ren := ⟨fun | 171 => 198 | 243 => 242 | 246 => 260 | 283 => 270 | 284 => 271 | 285 => 272 | 286 => 273 | 129 => 278 | 317 => 277 | 318 => 279 | 319 => 280 | 320 => 281 | 337 => 284 | 338 => 285 | n => n, fun | 3 => 3 | 9 => 9 | 2 => 2 | 4 => 4 | 171 => 326 | 0 => 0 | 53 => 327 | 37 => 183 | 5 => 5 | 173 => 330 | 212 => 341 | 51 => 342 | 20 => 20 | 213 => 343 | 46 => 334 | 232 => 351 | 233 => 352 | n => n, fun | 17 => 3 | 18 => 4 | 19 => 5 | n => n⟩
theorem Tryz.laysM171 : Go.Proofs.LaysM.n171 Tryz.prog Tryz.laysM171_ren := {
  mixed := by kernel_rfl
  f129 := Tryz.func278.trans (congrArg some (by kernel_rfl))
  f171 := Tryz.func198.trans (congrArg some (by kernel_rfl))
  f243 := Tryz.func242.trans (congrArg some (by kernel_rfl))
  f246 := Tryz.func260.trans (congrArg some (by kernel_rfl))
  f283 := Tryz.func270.trans (congrArg some (by kernel_rfl))
  f284 := Tryz.func271.trans (congrArg some (by kernel_rfl))
  f285 := Tryz.func272.trans (congrArg some (by kernel_rfl))
  f286 := Tryz.func273.trans (congrArg some (by kernel_rfl))
  f317 := Tryz.func277.trans (congrArg some (by kernel_rfl))
  f318 := Tryz.func279.trans (congrArg some (by kernel_rfl))
  f319 := Tryz.func280.trans (congrArg some (by kernel_rfl))
  f320 := Tryz.func281.trans (congrArg some (by kernel_rfl))
  f337 := Tryz.func284.trans (congrArg some (by kernel_rfl))
  f338 := Tryz.func285.trans (congrArg some (by kernel_rfl))
  t0 := Tryz.underlying0
  a0 := Tryz.isAgg0
  z0 := Tryz.sizeOf0
  v0 := Tryz.zeroValue0
  t2 := Tryz.underlying2
  a2 := Tryz.isAgg2
  z2 := Tryz.sizeOf2
  v2 := Tryz.zeroValue2
  t3 := Tryz.underlying3
  a3 := Tryz.isAgg3
  z3 := Tryz.sizeOf3
  v3 := Tryz.zeroValue3
  t4 := Tryz.underlying4
  a4 := Tryz.isAgg4
  z4 := Tryz.sizeOf4
  v4 := Tryz.zeroValue4
  t5 := Tryz.underlying5
  a5 := Tryz.isAgg5
  z5 := Tryz.sizeOf5
  v5 := Tryz.zeroValue5
  t9 := Tryz.underlying9
  a9 := Tryz.isAgg9
  z9 := Tryz.sizeOf9
  v9 := Tryz.zeroValue9
  t20 := Tryz.underlying20
  a20 := Tryz.isAgg20
  z20 := Tryz.sizeOf20
  v20 := Tryz.zeroValue20
  t37 := Tryz.underlying183
  a37 := Tryz.isAgg183
  z37 := Tryz.sizeOf183
  v37 := Tryz.zeroValue183
  t46 := Tryz.underlying334
  a46 := Tryz.isAgg334
  z46 := Tryz.sizeOf334
  v46 := Tryz.zeroValue334
  t51 := Tryz.underlying342
  a51 := Tryz.isAgg342
  z51 := Tryz.sizeOf342
  v51 := Tryz.zeroValue342
  t53 := Tryz.underlying327
  a53 := Tryz.isAgg327
  z53 := Tryz.sizeOf327
  v53 := Tryz.zeroValue327
  t171 := Tryz.underlying326
  a171 := Tryz.isAgg326
  z171 := Tryz.sizeOf326
  v171 := Tryz.zeroValue326
  t173 := Tryz.underlying330
  a173 := Tryz.isAgg330
  z173 := Tryz.sizeOf330
  v173 := Tryz.zeroValue330
  t212 := Tryz.underlying341
  a212 := Tryz.isAgg341
  z212 := Tryz.sizeOf341
  v212 := Tryz.zeroValue341
  t213 := Tryz.underlying343
  a213 := Tryz.isAgg343
  z213 := Tryz.sizeOf343
  t232 := Tryz.underlying351
  a232 := Tryz.isAgg351
  z232 := Tryz.sizeOf351
  v232 := Tryz.zeroValue351
  t233 := Tryz.underlying352
  a233 := Tryz.isAgg352
  z233 := Tryz.sizeOf352
  v233 := Tryz.zeroValue352
  g17 := by kernel_rfl
  g18 := by kernel_rfl
  g19 := by kernel_rfl
  i0 := by kernel_rfl
  i2 := by kernel_rfl
  i3 := by kernel_rfl
  i4 := by kernel_rfl
  i5 := by kernel_rfl
  i9 := by kernel_rfl
  i20 := by kernel_rfl
  i37 := by kernel_rfl
  i46 := by kernel_rfl
  i51 := by kernel_rfl
  i53 := by kernel_rfl
  i171 := by kernel_rfl
  i173 := by kernel_rfl
  i212 := by kernel_rfl
  i232 := by kernel_rfl
  i233 := by kernel_rfl
  m17 := by kernel_rfl
  m18 := by kernel_rfl
  m19 := by kernel_rfl }
open Go.RowKit Go.Sort Go.Lib in
/-- strconv.Itoa: "Itoa is equivalent to FormatInt(int64(i), 10).": i's DECIMAL NUMERAL ('Lib.itoa': a '-' where i is negative, then the digits), FOR EVERY int. The world behind the call: the world before it, new blocks behind the heap (the library's 'var a [24]byte'), draws. (LAID: no walk: one application.) -/
theorem Tryz.strconv_Itoa (n : Int) (h0 : -9223372036854775808 <= n) (h1 : n <= 9223372036854775807) (w : World) (htab : Lib.TabIs Tryz.prog w "internal/strconv.uint64pow10" .u64 Lib.pow10Tab) :
    Calls Tryz.prog 198 #[.int .i64 n] w fun e w' => e = .returned (.string ⟨(Lib.itoa n).toArray⟩) /\ ∃ k os, w' = grow (w.drewN k) os := Any.strconv_Itoa Tryz.laysM171 n h0 h1 w htab
def Tryz.laysC172_ren : Go.Shelf.Ren := ⟨fun | 172 => 219 | 244 => 249 | 245 => 250 | 247 => 265 | 279 => 266 | 280 => 267 | 281 => 268 | 282 => 269 | 287 => 274 | 316 => 275 | 171 => 198 | 205 => 276 | 321 => 282 | 322 => 283 | 243 => 242 | 246 => 260 | 283 => 270 | 284 => 271 | 285 => 272 | 286 => 273 | 129 => 278 | 317 => 277 | 318 => 279 | 319 => 280 | 320 => 281 | 337 => 284 | 338 => 285 | n => n, fun | 9 => 9 | 3 => 3 | 75 => 267 | 76 => 268 | 4 => 4 | 5 => 5 | 167 => 320 | 37 => 183 | 0 => 0 | 85 => 321 | 2 => 2 | 168 => 323 | 53 => 327 | 175 => 332 | 46 => 334 | 210 => 337 | 127 => 301 | 145 => 349 | 143 => 347 | 21 => 21 | 171 => 326 | 173 => 330 | 212 => 341 | 51 => 342 | 20 => 20 | 213 => 343 | 232 => 351 | 233 => 352 | 80 => 101 | n => n, fun | 15 => 1 | 16 => 2 | 17 => 3 | 18 => 4 | 19 => 5 | n => n⟩
theorem Tryz.laysC172 : Go.Proofs.LaysC.n172 Tryz.prog Tryz.laysC172_ren := {
  mixed := by kernel_rfl
  f129 := Tryz.func278.trans (congrArg some (by kernel_rfl))
  f171 := Tryz.func198.trans (congrArg some (by kernel_rfl))
  f172 := Tryz.func219.trans (congrArg some (by kernel_rfl))
  f205 := Tryz.func276.trans (congrArg some (by kernel_rfl))
  f243 := Tryz.func242.trans (congrArg some (by kernel_rfl))
  f244 := Tryz.func249.trans (congrArg some (by kernel_rfl))
  f245 := Tryz.func250.trans (congrArg some (by kernel_rfl))
  f246 := Tryz.func260.trans (congrArg some (by kernel_rfl))
  f247 := Tryz.func265.trans (congrArg some (by kernel_rfl))
  f279 := Tryz.func266.trans (congrArg some (by kernel_rfl))
  f280 := Tryz.func267.trans (congrArg some (by kernel_rfl))
  f281 := Tryz.func268.trans (congrArg some (by kernel_rfl))
  f282 := Tryz.func269.trans (congrArg some (by kernel_rfl))
  f283 := Tryz.func270.trans (congrArg some (by kernel_rfl))
  f284 := Tryz.func271.trans (congrArg some (by kernel_rfl))
  f285 := Tryz.func272.trans (congrArg some (by kernel_rfl))
  f286 := Tryz.func273.trans (congrArg some (by kernel_rfl))
  f287 := Tryz.func274.trans (congrArg some (by kernel_rfl))
  f316 := Tryz.func275.trans (congrArg some (by kernel_rfl))
  f317 := Tryz.func277.trans (congrArg some (by kernel_rfl))
  f318 := Tryz.func279.trans (congrArg some (by kernel_rfl))
  f319 := Tryz.func280.trans (congrArg some (by kernel_rfl))
  f320 := Tryz.func281.trans (congrArg some (by kernel_rfl))
  f321 := Tryz.func282.trans (congrArg some (by kernel_rfl))
  f322 := Tryz.func283.trans (congrArg some (by kernel_rfl))
  f337 := Tryz.func284.trans (congrArg some (by kernel_rfl))
  f338 := Tryz.func285.trans (congrArg some (by kernel_rfl))
  t0 := Tryz.underlying0
  a0 := Tryz.isAgg0
  z0 := Tryz.sizeOf0
  v0 := Tryz.zeroValue0
  t2 := Tryz.underlying2
  a2 := Tryz.isAgg2
  z2 := Tryz.sizeOf2
  v2 := Tryz.zeroValue2
  t3 := Tryz.underlying3
  a3 := Tryz.isAgg3
  z3 := Tryz.sizeOf3
  v3 := Tryz.zeroValue3
  t4 := Tryz.underlying4
  a4 := Tryz.isAgg4
  z4 := Tryz.sizeOf4
  v4 := Tryz.zeroValue4
  t5 := Tryz.underlying5
  a5 := Tryz.isAgg5
  z5 := Tryz.sizeOf5
  v5 := Tryz.zeroValue5
  t9 := Tryz.underlying9
  a9 := Tryz.isAgg9
  z9 := Tryz.sizeOf9
  v9 := Tryz.zeroValue9
  t20 := Tryz.underlying20
  a20 := Tryz.isAgg20
  z20 := Tryz.sizeOf20
  v20 := Tryz.zeroValue20
  t21 := Tryz.underlying21
  a21 := Tryz.isAgg21
  z21 := Tryz.sizeOf21
  v21 := Tryz.zeroValue21
  t37 := Tryz.underlying183
  a37 := Tryz.isAgg183
  z37 := Tryz.sizeOf183
  v37 := Tryz.zeroValue183
  t46 := Tryz.underlying334
  a46 := Tryz.isAgg334
  z46 := Tryz.sizeOf334
  v46 := Tryz.zeroValue334
  t51 := Tryz.underlying342
  a51 := Tryz.isAgg342
  z51 := Tryz.sizeOf342
  v51 := Tryz.zeroValue342
  t53 := Tryz.underlying327
  a53 := Tryz.isAgg327
  z53 := Tryz.sizeOf327
  v53 := Tryz.zeroValue327
  t75 := Tryz.underlying267
  a75 := Tryz.isAgg267
  z75 := Tryz.sizeOf267
  v75 := Tryz.zeroValue267
  t76 := Tryz.underlying268
  a76 := Tryz.isAgg268
  z76 := Tryz.sizeOf268
  v76 := Tryz.zeroValue268
  t85 := Tryz.underlying321
  a85 := Tryz.isAgg321
  z85 := Tryz.sizeOf321
  v85 := Tryz.zeroValue321
  t127 := Tryz.underlying301
  a127 := Tryz.isAgg301
  z127 := Tryz.sizeOf301
  v127 := Tryz.zeroValue301
  t143 := Tryz.underlying347
  a143 := Tryz.isAgg347
  z143 := Tryz.sizeOf347
  v143 := Tryz.zeroValue347
  t145 := Tryz.underlying349
  a145 := Tryz.isAgg349
  z145 := Tryz.sizeOf349
  v145 := Tryz.zeroValue349
  t167 := Tryz.underlying320
  a167 := Tryz.isAgg320
  z167 := Tryz.sizeOf320
  v167 := Tryz.zeroValue320
  t168 := Tryz.underlying323
  a168 := Tryz.isAgg323
  z168 := Tryz.sizeOf323
  v168 := Tryz.zeroValue323
  t171 := Tryz.underlying326
  a171 := Tryz.isAgg326
  z171 := Tryz.sizeOf326
  v171 := Tryz.zeroValue326
  t173 := Tryz.underlying330
  a173 := Tryz.isAgg330
  z173 := Tryz.sizeOf330
  v173 := Tryz.zeroValue330
  t175 := Tryz.underlying332
  a175 := Tryz.isAgg332
  z175 := Tryz.sizeOf332
  v175 := Tryz.zeroValue332
  t210 := Tryz.underlying337
  a210 := Tryz.isAgg337
  z210 := Tryz.sizeOf337
  v210 := Tryz.zeroValue337
  t212 := Tryz.underlying341
  a212 := Tryz.isAgg341
  z212 := Tryz.sizeOf341
  v212 := Tryz.zeroValue341
  t213 := Tryz.underlying343
  a213 := Tryz.isAgg343
  z213 := Tryz.sizeOf343
  t232 := Tryz.underlying351
  a232 := Tryz.isAgg351
  z232 := Tryz.sizeOf351
  v232 := Tryz.zeroValue351
  t233 := Tryz.underlying352
  a233 := Tryz.isAgg352
  z233 := Tryz.sizeOf352
  v233 := Tryz.zeroValue352
  g15 := by kernel_rfl
  g16 := by kernel_rfl
  g17 := by kernel_rfl
  g18 := by kernel_rfl
  g19 := by kernel_rfl
  t80 := Tryz.underlying101
  a80 := Tryz.isAgg101
  z80 := Tryz.sizeOf101
  v80 := Tryz.zeroValue101
  i0 := by kernel_rfl
  i2 := by kernel_rfl
  i3 := by kernel_rfl
  i4 := by kernel_rfl
  i5 := by kernel_rfl
  i9 := by kernel_rfl
  i20 := by kernel_rfl
  i21 := by kernel_rfl
  i37 := by kernel_rfl
  i46 := by kernel_rfl
  i51 := by kernel_rfl
  i53 := by kernel_rfl
  i75 := by kernel_rfl
  i76 := by kernel_rfl
  i80 := by kernel_rfl
  i85 := by kernel_rfl
  i127 := by kernel_rfl
  i143 := by kernel_rfl
  i145 := by kernel_rfl
  i167 := by kernel_rfl
  i168 := by kernel_rfl
  i171 := by kernel_rfl
  i173 := by kernel_rfl
  i175 := by kernel_rfl
  i210 := by kernel_rfl
  i212 := by kernel_rfl
  i232 := by kernel_rfl
  i233 := by kernel_rfl
  m15 := by kernel_rfl
  m16 := by kernel_rfl
  m17 := by kernel_rfl
  m18 := by kernel_rfl
  m19 := by kernel_rfl
  c0 := by kernel_rfl
  c2 := by kernel_rfl
  c3 := by kernel_rfl
  c4 := by kernel_rfl
  c5 := by kernel_rfl
  c9 := by kernel_rfl
  c20 := by kernel_rfl
  c21 := by kernel_rfl
  c37 := by kernel_rfl
  c46 := by kernel_rfl
  c51 := by kernel_rfl
  c53 := by kernel_rfl
  c75 := by kernel_rfl
  c76 := by kernel_rfl
  c80 := by kernel_rfl
  c85 := by kernel_rfl
  c127 := by kernel_rfl
  c143 := by kernel_rfl
  c145 := by kernel_rfl
  c167 := by kernel_rfl
  c168 := by kernel_rfl
  c171 := by kernel_rfl
  c173 := by kernel_rfl
  c175 := by kernel_rfl
  c210 := by kernel_rfl
  c212 := by kernel_rfl
  c213 := by kernel_rfl
  c232 := by kernel_rfl
  c233 := by kernel_rfl }
open Go.RowKit in
/-- strconv.Atoi, AT EVERY STRING THAT SPELLS AN int ('Lib.atoiAll .. = .ok v'; of whatever length: leading zeros count): v, AND NO ERROR. The world: as it was, or with the one new row that '[]byte(..)' lays. (LAID: no walk: one application.) -/
theorem Tryz.strconv_Atoi_ok (s : ByteArray) (hmax : s.size <= 9223372036854775806) (v : Int) (h : Lib.atoiAll s.data.toList = .ok v) (w : World) :
    Calls Tryz.prog 219 #[.string s] w fun e w' => e = .returned (.tuple #[.int .i64 v, .nilIface]) /\ (w' = w \/ ∃ t, w' = Lib.bytesWorld w 5 t) := Any.strconv_Atoi_ok Tryz.laysC172 s hmax v h w
open Go.RowKit in
theorem Tryz.strconv_Atoi_syntax_var (s : ByteArray) (hlim : s.size <= 281474976710656) (h : Lib.atoiAll s.data.toList = Lib.NumEnd.syntax) (tp : TypeId) (p : Value) (w : World) (hvar : w.var? Tryz.prog "strconv.ErrSyntax" = some #[.iface tp p]) :
    Calls Tryz.prog 219 #[.string s] w fun e w' => ∃ N, e = .returned (.tuple #[.int .i64 0, .iface 323 (.pointer (some ⟨N, 0, none⟩))]) /\ w.heap.size <= N /\ w'.heap[N]? = some (.cells #[.string ⟨#[65, 116, 111, 105]⟩, .string s, .iface tp p] 337 (0, 0)) /\ Below w.heap.size w w' := Any.strconv_Atoi_syntax_var Tryz.laysC172 s hlim h tp p w hvar
open Go.RowKit in
theorem Tryz.strconv_Atoi_range_var (s : ByteArray) (hlim : s.size <= 281474976710656) (h : Lib.atoiAll s.data.toList = .range) (tp : TypeId) (p : Value) (w : World) (hvar : w.var? Tryz.prog "strconv.ErrRange" = some #[.iface tp p]) :
    Calls Tryz.prog 219 #[.string s] w fun e w' => ∃ N, e = .returned (.tuple #[.int .i64 (Lib.atoiSat s.data.toList), .iface 323 (.pointer (some ⟨N, 0, none⟩))]) /\ w.heap.size <= N /\ w'.heap[N]? = some (.cells #[.string ⟨#[65, 116, 111, 105]⟩, .string s, .iface tp p] 337 (0, 0)) /\ Below w.heap.size w w' := Any.strconv_Atoi_range_var Tryz.laysC172 s hlim h tp p w hvar
def Tryz.lays99_ren : Go.Shelf.Ren := ⟨fun | 99 => 28 | 206 => 49 | n => n, fun | 9 => 9 | 4 => 4 | 3 => 3 | n => n, fun | n => n⟩
theorem Tryz.lays99 : Go.Proofs.Lays.n99 Tryz.prog Tryz.lays99_ren := {
  mixed := by kernel_rfl
  f99 := Tryz.func28.trans (congrArg some (by kernel_rfl))
  f206 := Tryz.func49.trans (congrArg some (by kernel_rfl))
  t3 := Tryz.underlying3
  a3 := Tryz.isAgg3
  z3 := Tryz.sizeOf3
  v3 := Tryz.zeroValue3
  t4 := Tryz.underlying4
  a4 := Tryz.isAgg4
  z4 := Tryz.sizeOf4
  v4 := Tryz.zeroValue4
  t9 := Tryz.underlying9
  a9 := Tryz.isAgg9
  z9 := Tryz.sizeOf9
  v9 := Tryz.zeroValue9 }
open Go.RowKit Go.Lib in
/-- strings.HasPrefix: "HasPrefix reports whether the string s begins with prefix.": IT RETURNS 'Lib.hasPrefix s prefix'; the world is as it was. (LAID: no walk: one application.) -/
theorem Tryz.strings_HasPrefix (s p : ByteArray) (w : World) :
    Calls Tryz.prog 28 #[.string s, .string p] w fun e w' => e = .returned (.bool (Lib.hasPrefix s.data.toList p.data.toList)) /\ w' = w := Any.strings_HasPrefix Tryz.lays99 s p w
end Go.Proofs
namespace Go.Proofs.YtlbcmeebcfalpaaGreatDoor
theorem hiq {p : Prop} (h : p) : Go.RowKit.Hid p := Go.Lib.hid h
theorem clq {w wx : Go.World} {a : Go.Addr} {v : Go.Value} (hb : Go.RowKit.Below w.heap.size w wx) (h : w.cell? a = some v) : wx.cell? a = some v := Go.cell_later hb h
open Go.RowKit

/-- The number fits an int. -/
def I64 (x : Int) : Prop := -9223372036854775808 <= x /\ x <= 9223372036854775807

theorem I64.wf {x : Int} (h : I64 x) : (Lit.int .i64 x).wf = true := WalkArith.wf_i64 h
theorem I64.of_wf {x : Int} (h : (Lit.int .i64 x).wf = true) : I64 x := by
  simp [Lit.wf, IntKind.min, IntKind.max, IntKind.signed, IntKind.bits] at h
  exact ⟨by omega, by omega⟩
theorem I64.zero : I64 0 := ⟨by decide, by decide⟩
/-- The slice value 'a n cap' reads as the list l of ints. -/
def Ints (w : World) (a : Option Addr) (n cap : Nat) (l : List Int) : Prop :=
  n = l.length /\ n <= cap /\ n * 8 <= 140737488355328 /\ (∀ x ∈ l, I64 x) /\
    ∀ j, j < n -> ∃ b off, a = some ⟨b, off, none⟩ /\ w.cell? ⟨b, off + j, none⟩ = some (.int .i64 (l[j]?.getD 0))

namespace Ints
variable {w w' : World} {a : Option Addr} {n cap : Nat} {l : List Int}
theorem len (h : Ints w a n cap l) : n = l.length := h.1
theorem le (h : Ints w a n cap l) : n <= cap := h.2.1
theorem i64 (h : Ints w a n cap l) (j : Nat) : I64 (l[j]?.getD 0) := by
  by_cases hj : j < l.length
  · rw [List.getElem?_eq_getElem hj]; exact h.2.2.2.1 _ (List.getElem_mem hj)
  · rw [List.getElem?_eq_none (by omega)]; exact I64.zero
theorem at_ (h : Ints w a n cap l) (hn : 0 < n) : ∃ b off, a = some ⟨b, off, none⟩ /\ b < w.heap.size /\ Hid (∀ j, j < n -> w.cell? ⟨b, off + j, none⟩ = some (.int .i64 (l[j]?.getD 0))) := by
  obtain ⟨b, off, e, hc⟩ := h.2.2.2.2 0 hn
  refine ⟨b, off, e, World.block_lt_of_cell? _ _ hc, fun j hj => ?_⟩
  obtain ⟨b', off', e', hc'⟩ := h.2.2.2.2 j hj
  rw [e] at e'; cases e'
  exact hc'
theorem below (h : Ints w a n cap l) (hb : Below w.heap.size w w') : Ints w' a n cap l := by
  obtain ⟨h1, h2, h3, h4, h5⟩ := h
  refine ⟨h1, h2, h3, h4, fun j hj => ?_⟩
  obtain ⟨b, off, e, hc⟩ := h5 j hj
  exact ⟨b, off, e, clq hb hc⟩
theorem drewN (h : Ints w a n cap l) (q : Nat) : Ints (w.drewN q) a n cap l := h.below (below_drewN (Below.refl _ _) q)
theorem drew (h : Ints w a n cap l) : Ints w.drew a n cap l := h.below (Below.refl _ _).drew
theorem nil (w : World) : Ints w none 0 0 [] := ⟨rfl, Nat.le_refl _, by omega, by simp, fun j hj => by omega⟩
theorem alloc (h : Ints w a n cap l) (o : Obj) : Ints (w.alloc o) a n cap l := h.below ((Below.refl _ _).alloc (Nat.le_refl _) _)
end Ints

/-- The slice value 'a n cap' reads as a list of lists of ints. -/
def Intss (w : World) (a : Option Addr) (n cap : Nat) (ll : List (List Int)) : Prop :=
  n = ll.length /\ n <= cap /\ n * 24 <= 140737488355328 /\
    ∀ j, j < n -> ∃ b off a' n' c', a = some ⟨b, off, none⟩ /\ w.cell? ⟨b, off + j, none⟩ = some (.slice a' n' c') /\ Ints w a' n' c' (ll[j]?.getD [])

namespace Intss
variable {w w' : World} {a : Option Addr} {n cap : Nat} {l : List (List Int)}
theorem len (h : Intss w a n cap l) : n = l.length := h.1
theorem le (h : Intss w a n cap l) : n <= cap := h.2.1
theorem at_ (h : Intss w a n cap l) (hn : 0 < n) : ∃ b off, a = some ⟨b, off, none⟩ /\ b < w.heap.size /\ Hid (∀ j, j < n -> ∃ a' n' c', w.cell? ⟨b, off + j, none⟩ = some (.slice a' n' c') /\ Ints w a' n' c' (l[j]?.getD [])) := by
  obtain ⟨b, off, _, _, _, e, hc, _⟩ := h.2.2.2 0 hn
  refine ⟨b, off, e, World.block_lt_of_cell? _ _ hc, fun j hj => ?_⟩
  obtain ⟨b', off', a', n', c', e', hc', hi⟩ := h.2.2.2 j hj
  rw [e] at e'; cases e'
  exact ⟨_, _, _, hc', hi⟩
theorem below (h : Intss w a n cap l) (hb : Below w.heap.size w w') : Intss w' a n cap l := by
  obtain ⟨h1, h2, h3, h5⟩ := h
  refine ⟨h1, h2, h3, fun j hj => ?_⟩
  obtain ⟨b, off, a', n', c', e, hc, hi⟩ := h5 j hj
  exact ⟨b, off, a', n', c', e, clq hb hc, hi.below hb⟩
theorem drewN (h : Intss w a n cap l) (q : Nat) : Intss (w.drewN q) a n cap l := h.below (below_drewN (Below.refl _ _) q)
theorem drew (h : Intss w a n cap l) : Intss w.drew a n cap l := h.below (Below.refl _ _).drew
theorem alloc (h : Intss w a n cap l) (o : Obj) : Intss (w.alloc o) a n cap l := h.below ((Below.refl _ _).alloc (Nat.le_refl _) _)
theorem nil (w : World) : Intss w none 0 0 [] := ⟨rfl, Nat.le_refl _, by omega, fun j hj => by omega⟩
end Intss

theorem drewN_below (w : World) (q : Nat) (B : Nat) : Below B w (w.drewN q) := below_drewN (Below.refl _ _) q

/-- w' is w after some draws. -/
def Drew (w w' : World) : Prop := ∃ q, w' = w.drewN q
namespace Drew
theorem refl (w : World) : Drew w w := ⟨0, rfl⟩
theorem drewN {w w' : World} (h : Drew w w') (n : Nat) : Drew w (w'.drewN n) := by
  obtain ⟨q, rfl⟩ := h; exact ⟨q + n, World.drewN_drewN _ _ _⟩
theorem drew {w w' : World} (h : Drew w w') : Drew w w'.drew := h.drewN 1
theorem trans {a b c : World} (h : Drew a b) (k : Drew b c) : Drew a c := by
  obtain ⟨q, rfl⟩ := k; exact h.drewN q
theorem below {w w' : World} (h : Drew w w') (B : Nat) : Below B w w' := by
  obtain ⟨q, rfl⟩ := h; exact drewN_below _ _ _
theorem free {w w' : World} (h : Drew w w') {a : Addr} (hf : w.frozen? a = false) : w'.frozen? a = false := by
  obtain ⟨q, rfl⟩ := h; exact hf
end Drew
/-- The slice value 'a n cap' is the call's own (its block is B or behind it), and reads as l. -/
def OwnI (w : World) (B : Nat) (a : Option Addr) (n cap : Nat) (l : List Int) : Prop :=
  n = l.length /\ w.ownsRow B 3 1 (.slice a n cap) n (l.map (Value.int .i64))

theorem cell_row {w : World} {g j : Nat} {cur : Array Value} {e : TypeId} {fr : Nat × Nat} (h : w.heap[g]? = some (.cells cur e fr)) : w.cell? ⟨g, j, none⟩ = cur[j]? := by
  simp [World.cell?, h]

theorem ownsRow_below {w w' : World} {B : Nat} {e : TypeId} {size : Nat} {v : Value} {n : Nat} {xs : List Value} (h : w.ownsRow B e size v n xs) (hb : Below w.heap.size w w') : w'.ownsRow B e size v n xs := by
  refine ⟨h.1, ?_⟩
  rcases h.2 with h0 | ⟨g, cap', cur, hv, hB, hg, hrest⟩
  · exact .inl h0
  · exact .inr ⟨g, cap', cur, hv, hB, by rw [hb.block g (Array.getElem?_eq_some_iff.1 hg).1]; exact hg, hrest⟩

namespace OwnI
variable {w w' : World} {B g : Nat} {a : Option Addr} {n cap : Nat} {l : List Int}
theorem nil (w : World) (B : Nat) : OwnI w B none 0 0 [] := ⟨rfl, World.ownsRow_nil _ _ _ _⟩
theorem len (h : OwnI w B a n cap l) : n = l.length := h.1
theorem at_ (h : OwnI w B a n cap l) (hn : 0 < n) : ∃ g, a = some ⟨g, 0, none⟩ /\ B <= g /\ g < w.heap.size /\ n <= cap /\ w.frozen? ⟨g, 0, none⟩ = false /\ Hid (∀ j, j < n -> w.cell? ⟨g, j, none⟩ = some (.int .i64 (l[j]?.getD 0))) := by
  obtain ⟨h1, h2, h3⟩ := h
  rcases h3 with ⟨_, h0⟩ | ⟨g, cap', cur, hv, hb, hg, hc, hm, hs, ht⟩
  · omega
  · cases hv
    refine ⟨g, rfl, hb, (Array.getElem?_eq_some_iff.1 hg).1, hc, by simp [World.frozen?, hg], fun j hj => ?_⟩
    rw [cell_row hg]
    have : (cur.toList.take (n * 1))[j]? = (l.map (Value.int .i64))[j]? := by rw [ht]
    rw [List.getElem?_take] at this
    simp only [Nat.mul_one, hj, if_true, Array.getElem?_toList] at this
    rw [this]
    simp [List.getElem?_eq_getElem (show j < l.length by omega)]
theorem cap_le (h : OwnI w B a n cap l) : n <= cap := by
  rcases h.2.2 with ⟨hv, h0⟩ | ⟨g, cap', cur, hv, hb, hg, hc, _⟩
  · omega
  · cases hv; exact hc
theorem below (h : OwnI w B a n cap l) (hb : Below w.heap.size w w') : OwnI w' B a n cap l := by
  refine ⟨h.1, h.2.1, ?_⟩
  rcases h.2.2 with h0 | ⟨g, cap', cur, hv, hB, hg, hrest⟩
  · exact .inl h0
  · exact .inr ⟨g, cap', cur, hv, hB, by rw [hb.block g (Array.getElem?_eq_some_iff.1 hg).1]; exact hg, hrest⟩
theorem alloc (h : OwnI w B a n cap l) (o : Obj) : OwnI (w.alloc o) B a n cap l := h.below ((Below.refl _ _).alloc (Nat.le_refl _) _)
theorem drew (h : OwnI w B a n cap l) : OwnI w.drew B a n cap l := h
theorem drewN (h : OwnI w B a n cap l) (q : Nat) : OwnI (w.drewN q) B a n cap l := h
theorem mono {B' : Nat} (h : OwnI w B a n cap l) (hB : B' <= B) : OwnI w B' a n cap l := by
  refine ⟨h.1, h.2.1, ?_⟩
  rcases h.2.2 with h0 | ⟨g, cap', cur, hv, hb, hrest⟩
  · exact .inl h0
  · exact .inr ⟨g, cap', cur, hv, Nat.le_trans hB hb, hrest⟩
theorem cell (h : OwnI w B (some ⟨g, 0, none⟩) n cap l) : ∀ j, j < n -> w.cell? ⟨g, j, none⟩ = some (.int .i64 (l[j]?.getD 0)) := by
  intro j hj
  obtain ⟨g', e, _, _, _, _, hc⟩ := h.at_ (by omega)
  cases e
  exact hc.out j hj
theorem free (h : OwnI w B (some ⟨g, 0, none⟩) n cap l) (j : Nat) : w.frozen? ⟨g, j, none⟩ = false := h.2.frozenAt j
theorem stored (h : OwnI w B (some ⟨g, 0, none⟩) n cap l) (j : Nat) (v : Int) : OwnI (w.setCell ⟨g, j, none⟩ (.int .i64 v)) B (some ⟨g, 0, none⟩) n cap (l.set j v) :=
  ⟨by simpa using h.1, by rw [List.map_set]; exact (h.2.stored j _).1⟩
end OwnI

end Go.Proofs.YtlbcmeebcfalpaaGreatDoor
namespace Go.Proofs.YtlbcmeebcfalpaaGreatDoor
open Go.RowKit

/-- A value, with where its list lies. -/
inductive Vl where
  | mk (kind num : Int) (text : ByteArray) (addr : Option Addr) (cap : Nat) (items : List Vl)
namespace Vl
def kind : Vl -> Int | mk k _ _ _ _ _ => k
def num : Vl -> Int | mk _ n _ _ _ _ => n
def text : Vl -> ByteArray | mk _ _ t _ _ _ => t
def addr : Vl -> Option Addr | mk _ _ _ a _ _ => a
def cap : Vl -> Nat | mk _ _ _ _ c _ => c
def items : Vl -> List Vl | mk _ _ _ _ _ l => l
/-- The items' slice. -/
def sl (v : Vl) : Value := .slice v.addr v.items.length v.cap
def cells (v : Vl) : Array Value := #[.int .i64 v.kind, .int .i64 v.num, .string v.text, v.sl]
def val (v : Vl) : Value := .agg v.cells
theorem ind {P : Vl -> Prop} (h : ∀ v, (∀ u ∈ v.items, P u) -> P v) : ∀ v, P v
  | mk k n t a c l => h _ fun u hu => by
    have := List.sizeOf_lt_of_mem hu
    exact ind h u
  termination_by v => SizeOf.sizeOf v
  decreasing_by
    simp only [items] at hu
    have := List.sizeOf_lt_of_mem hu
    simp; omega
end Vl

/-- The four cells at o. -/
def VAt (w : World) (b o : Nat) (v : Vl) : Prop :=
  w.cell? ⟨b, o, none⟩ = some (.int .i64 v.kind) /\ w.cell? ⟨b, o + 1, none⟩ = some (.int .i64 v.num) /\ w.cell? ⟨b, o + 2, none⟩ = some (.string v.text) /\ w.cell? ⟨b, o + 3, none⟩ = some v.sl
mutual
/-- The value reads in w; its lists lie in blocks of S. -/
def Rd (S : Nat -> Prop) (w : World) : Vl -> Prop
  | .mk k n t a c l => I64 k /\ I64 n /\ t.size <= 140737488355328 /\ l.length <= c /\ l.length * 56 <= 140737488355328 /\ RdL S w a 0 l
def RdL (S : Nat -> Prop) (w : World) (a : Option Addr) : Nat -> List Vl -> Prop
  | _, [] => True
  | j, v :: r => (∃ b off, a = some ⟨b, off, none⟩ /\ S b /\ VAt w b (off + j * 4) v) /\ Rd S w v /\ RdL S w a (j + 1) r
end
/-- The slice value 'a n c' reads as a list of values. -/
def Vals (S : Nat -> Prop) (w : World) (a : Option Addr) (n c : Nat) (l : List Vl) : Prop :=
  n = l.length /\ n <= c /\ n * 56 <= 140737488355328 /\ ∀ j v, l[j]? = some v -> (∃ b off, a = some ⟨b, off, none⟩ /\ S b /\ VAt w b (off + j * 4) v) /\ Rd S w v
theorem rdL_iff {S : Nat -> Prop} {w : World} {a : Option Addr} : ∀ (l : List Vl) (i : Nat), RdL S w a i l ↔ ∀ j v, l[j]? = some v -> (∃ b off, a = some ⟨b, off, none⟩ /\ S b /\ VAt w b (off + (i + j) * 4) v) /\ Rd S w v
  | [], i => by simp [RdL]
  | u :: r, i => by
    rw [RdL, rdL_iff r (i + 1)]
    constructor
    · rintro ⟨h1, h2, h3⟩ j v hj
      cases j with
      | zero => simp at hj; subst hj; exact ⟨h1, h2⟩
      | succ j =>
        have := h3 j v (by simpa using hj)
        rw [show i + 1 + j = i + (j + 1) by omega] at this
        exact this
    · intro h
      obtain ⟨h1, h2⟩ := h 0 u rfl
      refine ⟨h1, h2, fun j v hj => ?_⟩
      have := h (j + 1) v (by simpa using hj)
      rw [show i + 1 + j = i + (j + 1) by omega]
      exact this
theorem rd_iff {S : Nat -> Prop} {w : World} {v : Vl} : Rd S w v ↔ I64 v.kind /\ I64 v.num /\ v.text.size <= 140737488355328 /\ Vals S w v.addr v.items.length v.cap v.items := by
  cases v with
  | mk k n t a c l =>
    rw [Rd, rdL_iff]
    simp only [Nat.zero_add, Vals, Vl.kind, Vl.num, Vl.text, Vl.addr, Vl.cap, Vl.items, true_and]
/-- What is cells, and lies in S, stays. -/
def KeepS (S : Nat -> Prop) (w w' : World) : Prop := w.heap.size <= w'.heap.size /\ ∀ b cs t fr, S b -> w.heap[b]? = some (.cells cs t fr) -> w'.heap[b]? = some (.cells cs t fr)
namespace KeepS
variable {S S' : Nat -> Prop} {w w' w'' : World}
theorem refl (S : Nat -> Prop) (w : World) : KeepS S w w := ⟨Nat.le_refl _, fun _ _ _ _ _ h => h⟩
theorem trans (h : KeepS S w w') (k : KeepS S w' w'') : KeepS S w w'' := ⟨Nat.le_trans h.1 k.1, fun b cs t fr hs hb => k.2 b cs t fr hs (h.2 b cs t fr hs hb)⟩
theorem mono (h : KeepS S w w') (hs : ∀ b, S' b -> S b) : KeepS S' w w' := ⟨h.1, fun b cs t fr hb => h.2 b cs t fr (hs b hb)⟩
theorem below (h : Below w.heap.size w w') : KeepS S w w' := ⟨h.size, fun b cs t fr _ hb => by rw [h.block b (Array.getElem?_eq_some_iff.1 hb).1]; exact hb⟩
theorem cell (h : KeepS S w w') {a : Addr} {v : Value} (hs : S a.block) (hc : w.cell? a = some v) : w'.cell? a = some v := by
  unfold World.cell? at hc ⊢
  cases hb : w.heap[a.block]? with
  | none => rw [hb] at hc; cases hc
  | some o =>
    rw [hb] at hc
    cases o with
    | cells cs t fr => rw [h.2 a.block cs t fr hs hb]; exact hc
    | _ => cases hc
theorem frozen (h : KeepS S w w') {a : Addr} {v : Value} (hs : S a.block) (hc : w.cell? a = some v) : w'.frozen? a = w.frozen? a := by
  unfold World.cell? at hc
  unfold World.frozen?
  cases hb : w.heap[a.block]? with
  | none => rw [hb] at hc; cases hc
  | some o =>
    rw [hb] at hc
    cases o with
    | cells cs t fr => rw [h.2 a.block cs t fr hs hb]
    | _ => cases hc
theorem grown {row : Option Nat} (h : w.grownBy w' row) (hr : ∀ r, row = some r -> ¬ S r) : KeepS S w w' :=
  ⟨h.size, fun b cs t fr hs hb => by rw [h.block b (Array.getElem?_eq_some_iff.1 hb).1 (fun e => hr b e.symm hs)]; exact hb⟩
theorem alloc (S : Nat -> Prop) (w : World) (o : Obj) : KeepS S w (w.alloc o) := below ((Below.refl _ _).alloc (Nat.le_refl _) _)
theorem setCell (w : World) {b j : Nat} (hb : ¬ S b) (v : Value) : KeepS S w (w.setCell ⟨b, j, none⟩ v) :=
  ⟨by simp [World.setCell], fun b' cs t fr hs h' => by rw [Below.heap_setCell _ _ _ _ (by intro e; have e : b' = b := e; exact hb (e ▸ hs))]; exact h'⟩
theorem putObj (w : World) {l : Nat} {o : Obj} (h : w.heap[l]? = some o) (ho : o.isCells = false) (o' : Obj) : KeepS S w (w.putObj l o') :=
  ⟨by simp [World.putObj], fun b cs t fr _ hb => by
    by_cases e : b = l
    · subst e; rw [h] at hb; cases hb; cases ho
    · rw [World.putObj_heap_other e]; exact hb⟩
theorem drewN (S : Nat -> Prop) (w : World) (q : Nat) : KeepS S w (w.drewN q) := below (below_drewN (Below.refl _ _) q)
end KeepS
theorem VAt.keep {S : Nat -> Prop} {w w' : World} {b o : Nat} {v : Vl} (h : VAt w b o v) (hs : S b) (k : KeepS S w w') : VAt w' b o v :=
  ⟨k.cell hs h.1, k.cell hs h.2.1, k.cell hs h.2.2.1, k.cell hs h.2.2.2⟩
theorem VAt.lt {w : World} {b o : Nat} {v : Vl} (h : VAt w b o v) : b < w.heap.size := World.block_lt_of_cell? _ _ h.1
theorem Rd.keep {S : Nat -> Prop} {w w' : World} (k : KeepS S w w') (v : Vl) : Rd S w v -> Rd S w' v := by
  induction v using Vl.ind with
  | h v ih =>
    rw [rd_iff, rd_iff]
    rintro ⟨h1, h2, h3, h4, h5, h6, h7⟩
    refine ⟨h1, h2, h3, h4, h5, h6, fun j u hj => ?_⟩
    obtain ⟨⟨b, off, e, hs, hat⟩, hr⟩ := h7 j u hj
    exact ⟨⟨b, off, e, hs, hat.keep hs k⟩, ih u (List.mem_of_getElem? hj) hr⟩
theorem Rd.mono {S S' : Nat -> Prop} {w : World} (k : ∀ b, S b -> b < w.heap.size -> S' b) (v : Vl) : Rd S w v -> Rd S' w v := by
  induction v using Vl.ind with
  | h v ih =>
    rw [rd_iff, rd_iff]
    rintro ⟨h1, h2, h3, h4, h5, h6, h7⟩
    refine ⟨h1, h2, h3, h4, h5, h6, fun j u hj => ?_⟩
    obtain ⟨⟨b, off, e, hs, hat⟩, hr⟩ := h7 j u hj
    exact ⟨⟨b, off, e, k b hs hat.lt, hat⟩, ih u (List.mem_of_getElem? hj) hr⟩
namespace Vals
variable {S S' : Nat -> Prop} {w w' : World} {a : Option Addr} {n c : Nat} {l : List Vl}
theorem keep (k : KeepS S w w') (h : Vals S w a n c l) : Vals S w' a n c l :=
  ⟨h.1, h.2.1, h.2.2.1, fun j v hj => by
    obtain ⟨⟨b, off, e, hs, hat⟩, hr⟩ := h.2.2.2 j v hj
    exact ⟨⟨b, off, e, hs, hat.keep hs k⟩, hr.keep k⟩⟩
theorem mono (k : ∀ b, S b -> b < w.heap.size -> S' b) (h : Vals S w a n c l) : Vals S' w a n c l :=
  ⟨h.1, h.2.1, h.2.2.1, fun j v hj => by
    obtain ⟨⟨b, off, e, hs, hat⟩, hr⟩ := h.2.2.2 j v hj
    exact ⟨⟨b, off, e, k b hs hat.lt, hat⟩, hr.mono k⟩⟩
theorem below (h : Vals S w a n c l) (hb : Below w.heap.size w w') : Vals S w' a n c l := h.keep (.below hb)
theorem get (h : Vals S w a n c l) {j : Nat} (hj : j < n) : ∃ v b off, l[j]? = some v /\ v ∈ l /\ a = some ⟨b, off, none⟩ /\ S b /\ b < w.heap.size /\ VAt w b (off + j * 4) v /\ Rd S w v := by
  have hl : j < l.length := by rw [<- h.1]; exact hj
  have e := List.getElem?_eq_getElem hl
  obtain ⟨⟨b, off, ea, hs, hat⟩, hr⟩ := h.2.2.2 j _ e
  exact ⟨l[j], b, off, e, List.getElem_mem hl, ea, hs, hat.lt, hat, hr⟩
theorem nil (S : Nat -> Prop) (w : World) : Vals S w none 0 0 [] := ⟨rfl, Nat.le_refl _, by omega, fun j v hj => by simp at hj⟩
end Vals
theorem Rd.below {S : Nat -> Prop} {w w' : World} {v : Vl} (h : Rd S w v) (hb : Below w.heap.size w w') : Rd S w' v := h.keep (.below hb)
end Go.Proofs.YtlbcmeebcfalpaaGreatDoor
