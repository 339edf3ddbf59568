/- The shelf's contracts at this dump, in plain words (lay-plain.mjs): those of Itoa and its like, behind Shelf's. -/
import Derived.Test.YtaejhdmkjodefaaGreatDoorJShelf
import Derived.Shelf.Strings.Trim
import Derived.Shelf.Strconv.Itoa1
import Derived.Shelf.Strconv.Itoa2
import Derived.Shelf.Strconv.Itoa3
import Derived.Shelf.Strings.Prefix
import Derived.Shelf.Unicode.DecodeAny
import Derived.Shelf.Unicode.DecodeLast
import Derived.Shelf.Slices.ReverseS
import Derived.Shelf.Slices.Cells
import Derived.Shelf.SlicesE.Clone
set_option linter.unusedSimpArgs false
set_option linter.unusedVariables false
namespace Go.Proofs
open Go.Shelf
def Tryz.lays231_ren : Go.Shelf.Ren := ⟨fun | 231 => 245 | n => n, fun | 9 => 9 | 5 => 5 | 3 => 3 | 4 => 4 | n => n, fun | n => n⟩
theorem Tryz.lays231 : Go.Proofs.Lays.n231 Tryz.prog Tryz.lays231_ren := {
  mixed := by kernel_rfl
  f231 := Tryz.func245.trans (congrArg some (by kernel_rfl))
  t3 := Tryz.underlying3
  a3 := Tryz.isAgg3
  z3 := Tryz.sizeOf3
  v3 := Tryz.zeroValue3
  t4 := Tryz.underlying4
  a4 := Tryz.isAgg4
  z4 := Tryz.sizeOf4
  v4 := Tryz.zeroValue4
  t5 := Tryz.underlying5
  a5 := Tryz.isAgg5
  z5 := Tryz.sizeOf5
  v5 := Tryz.zeroValue5
  t9 := Tryz.underlying9
  a9 := Tryz.isAgg9
  z9 := Tryz.sizeOf9
  v9 := Tryz.zeroValue9 }
open Go.RowKit in
/-- strings.trimLeftByte (no doc; what TrimLeft and Trim call at a cutset of one ASCII byte): the leading bytes that are c are cut off. The world is as it was. (LAID: no walk: one application.) -/
theorem Tryz.strings_trimLeftByte (s : ByteArray) (c : UInt8) (w : World) :
    Calls Tryz.prog 245 #[.string s, .int .u8 c.toNat] w fun e w' => e = .returned (.string ⟨(Lib.trimLeftB s.data.toList c).toArray⟩) ∧ w' = w := Any.strings_trimLeftByte Tryz.lays231 s c w
def Tryz.lays232_ren : Go.Shelf.Ren := ⟨fun | 232 => 249 | n => n, fun | 9 => 9 | 5 => 5 | 3 => 3 | 4 => 4 | n => n, fun | n => n⟩
theorem Tryz.lays232 : Go.Proofs.Lays.n232 Tryz.prog Tryz.lays232_ren := {
  mixed := by kernel_rfl
  f232 := Tryz.func249.trans (congrArg some (by kernel_rfl))
  t3 := Tryz.underlying3
  a3 := Tryz.isAgg3
  z3 := Tryz.sizeOf3
  v3 := Tryz.zeroValue3
  t4 := Tryz.underlying4
  a4 := Tryz.isAgg4
  z4 := Tryz.sizeOf4
  v4 := Tryz.zeroValue4
  t5 := Tryz.underlying5
  a5 := Tryz.isAgg5
  z5 := Tryz.sizeOf5
  v5 := Tryz.zeroValue5
  t9 := Tryz.underlying9
  a9 := Tryz.isAgg9
  z9 := Tryz.sizeOf9
  v9 := Tryz.zeroValue9 }
open Go.RowKit in
/-- strings.trimRightByte (no doc; what TrimRight and Trim call at a cutset of one ASCII byte): the trailing bytes that are c are cut off. The world is as it was. ('hs': a string's length is a number that an int holds.) (LAID: no walk: one application.) -/
theorem Tryz.strings_trimRightByte (s : ByteArray) (c : UInt8) (w : World) (hs : s.size ≤ 9223372036854775807) :
    Calls Tryz.prog 249 #[.string s, .int .u8 c.toNat] w fun e w' => e = .returned (.string ⟨(Lib.trimRightB s.data.toList c).toArray⟩) ∧ w' = w := Any.strings_trimRightByte Tryz.lays232 s c w hs
def Tryz.lays161_ren : Go.Shelf.Ren := ⟨fun | 161 => 190 | 231 => 245 | 227 => 246 | 233 => 247 | 235 => 248 | 228 => 294 | 197 => 295 | 151 => 296 | 260 => 331 | 152 => 332 | 137 => 95 | 119 => 359 | 224 => 100 | 225 => 99 | 217 => 98 | 266 => 142 | n => n, fun | 9 => 9 | 4 => 4 | 3 => 3 | 5 => 5 | 117 => 368 | 116 => 367 | 0 => 0 | 124 => 371 | 105 => 408 | 21 => 21 | 119 => 440 | 46 => 31 | 139 => 443 | 138 => 442 | n => n, fun | 3 => 5 | 4 => 6 | n => n⟩
theorem Tryz.lays161 : Go.Proofs.Lays.n161 Tryz.prog Tryz.lays161_ren := {
  mixed := by kernel_rfl
  f119 := Tryz.func359.trans (congrArg some (by kernel_rfl))
  f137 := Tryz.func95.trans (congrArg some (by kernel_rfl))
  f151 := Tryz.func296.trans (congrArg some (by kernel_rfl))
  f152 := Tryz.func332.trans (congrArg some (by kernel_rfl))
  f161 := Tryz.func190.trans (congrArg some (by kernel_rfl))
  f197 := Tryz.func295.trans (congrArg some (by kernel_rfl))
  f217 := Tryz.func98.trans (congrArg some (by kernel_rfl))
  f224 := Tryz.func100.trans (congrArg some (by kernel_rfl))
  f225 := Tryz.func99.trans (congrArg some (by kernel_rfl))
  f227 := Tryz.func246.trans (congrArg some (by kernel_rfl))
  f228 := Tryz.func294.trans (congrArg some (by kernel_rfl))
  f231 := Tryz.func245.trans (congrArg some (by kernel_rfl))
  f233 := Tryz.func247.trans (congrArg some (by kernel_rfl))
  f235 := Tryz.func248.trans (congrArg some (by kernel_rfl))
  f260 := Tryz.func331.trans (congrArg some (by kernel_rfl))
  f266 := Tryz.func142.trans (congrArg some (by kernel_rfl))
  t0 := Tryz.underlying0
  a0 := Tryz.isAgg0
  z0 := Tryz.sizeOf0
  v0 := Tryz.zeroValue0
  t3 := Tryz.underlying3
  a3 := Tryz.isAgg3
  z3 := Tryz.sizeOf3
  v3 := Tryz.zeroValue3
  t4 := Tryz.underlying4
  a4 := Tryz.isAgg4
  z4 := Tryz.sizeOf4
  v4 := Tryz.zeroValue4
  t5 := Tryz.underlying5
  a5 := Tryz.isAgg5
  z5 := Tryz.sizeOf5
  v5 := Tryz.zeroValue5
  t9 := Tryz.underlying9
  a9 := Tryz.isAgg9
  z9 := Tryz.sizeOf9
  v9 := Tryz.zeroValue9
  t21 := Tryz.underlying21
  a21 := Tryz.isAgg21
  z21 := Tryz.sizeOf21
  v21 := Tryz.zeroValue21
  t46 := Tryz.underlying31
  a46 := Tryz.isAgg31
  z46 := Tryz.sizeOf31
  v46 := Tryz.zeroValue31
  t105 := Tryz.underlying408
  a105 := Tryz.isAgg408
  z105 := Tryz.sizeOf408
  v105 := Tryz.zeroValue408
  t116 := Tryz.underlying367
  a116 := Tryz.isAgg367
  z116 := Tryz.sizeOf367
  t117 := Tryz.underlying368
  a117 := Tryz.isAgg368
  z117 := Tryz.sizeOf368
  v117 := Tryz.zeroValue368
  t119 := Tryz.underlying440
  a119 := Tryz.isAgg440
  z119 := Tryz.sizeOf440
  t124 := Tryz.underlying371
  a124 := Tryz.isAgg371
  z124 := Tryz.sizeOf371
  v124 := Tryz.zeroValue371
  t138 := Tryz.underlying442
  a138 := Tryz.isAgg442
  z138 := Tryz.sizeOf442
  v138 := Tryz.zeroValue442
  t139 := Tryz.underlying443
  a139 := Tryz.isAgg443
  z139 := Tryz.sizeOf443
  v139 := Tryz.zeroValue443
  g3 := by kernel_rfl
  g4 := by kernel_rfl }
open Go.RowKit in
/-- strings.TrimLeft: "TrimLeft returns a slice of the string s with all leading Unicode code points contained in cutset removed.": AT A cutset OF ONE ASCII BYTE. The world is as it was. (LAID: no walk: one application.) -/
theorem Tryz.strings_TrimLeft_one (s : ByteArray) (c : UInt8) (hc : c.toNat < 128) (w : World) :
    Calls Tryz.prog 190 #[.string s, .string ⟨#[c]⟩] w fun e w' => e = .returned (.string ⟨(Lib.trimLeftB s.data.toList c).toArray⟩) ∧ w' = w := Any.strings_TrimLeft_one Tryz.lays161 s c hc w
def Tryz.lays162_ren : Go.Shelf.Ren := ⟨fun | 162 => 191 | 232 => 249 | 227 => 246 | 234 => 250 | 236 => 251 | 228 => 294 | 271 => 297 | 151 => 296 | 120 => 333 | 197 => 295 | 152 => 332 | 260 => 331 | 137 => 95 | 119 => 359 | 224 => 100 | 225 => 99 | 217 => 98 | 266 => 142 | n => n, fun | 9 => 9 | 4 => 4 | 3 => 3 | 5 => 5 | 117 => 368 | 116 => 367 | 0 => 0 | 124 => 371 | 21 => 21 | 105 => 408 | 46 => 31 | 119 => 440 | 139 => 443 | 138 => 442 | n => n, fun | 3 => 5 | 4 => 6 | n => n⟩
theorem Tryz.lays162 : Go.Proofs.Lays.n162 Tryz.prog Tryz.lays162_ren := {
  mixed := by kernel_rfl
  f119 := Tryz.func359.trans (congrArg some (by kernel_rfl))
  f120 := Tryz.func333.trans (congrArg some (by kernel_rfl))
  f137 := Tryz.func95.trans (congrArg some (by kernel_rfl))
  f151 := Tryz.func296.trans (congrArg some (by kernel_rfl))
  f152 := Tryz.func332.trans (congrArg some (by kernel_rfl))
  f162 := Tryz.func191.trans (congrArg some (by kernel_rfl))
  f197 := Tryz.func295.trans (congrArg some (by kernel_rfl))
  f217 := Tryz.func98.trans (congrArg some (by kernel_rfl))
  f224 := Tryz.func100.trans (congrArg some (by kernel_rfl))
  f225 := Tryz.func99.trans (congrArg some (by kernel_rfl))
  f227 := Tryz.func246.trans (congrArg some (by kernel_rfl))
  f228 := Tryz.func294.trans (congrArg some (by kernel_rfl))
  f232 := Tryz.func249.trans (congrArg some (by kernel_rfl))
  f234 := Tryz.func250.trans (congrArg some (by kernel_rfl))
  f236 := Tryz.func251.trans (congrArg some (by kernel_rfl))
  f260 := Tryz.func331.trans (congrArg some (by kernel_rfl))
  f266 := Tryz.func142.trans (congrArg some (by kernel_rfl))
  f271 := Tryz.func297.trans (congrArg some (by kernel_rfl))
  t0 := Tryz.underlying0
  a0 := Tryz.isAgg0
  z0 := Tryz.sizeOf0
  v0 := Tryz.zeroValue0
  t3 := Tryz.underlying3
  a3 := Tryz.isAgg3
  z3 := Tryz.sizeOf3
  v3 := Tryz.zeroValue3
  t4 := Tryz.underlying4
  a4 := Tryz.isAgg4
  z4 := Tryz.sizeOf4
  v4 := Tryz.zeroValue4
  t5 := Tryz.underlying5
  a5 := Tryz.isAgg5
  z5 := Tryz.sizeOf5
  v5 := Tryz.zeroValue5
  t9 := Tryz.underlying9
  a9 := Tryz.isAgg9
  z9 := Tryz.sizeOf9
  v9 := Tryz.zeroValue9
  t21 := Tryz.underlying21
  a21 := Tryz.isAgg21
  z21 := Tryz.sizeOf21
  v21 := Tryz.zeroValue21
  t46 := Tryz.underlying31
  a46 := Tryz.isAgg31
  z46 := Tryz.sizeOf31
  v46 := Tryz.zeroValue31
  t105 := Tryz.underlying408
  a105 := Tryz.isAgg408
  z105 := Tryz.sizeOf408
  v105 := Tryz.zeroValue408
  t116 := Tryz.underlying367
  a116 := Tryz.isAgg367
  z116 := Tryz.sizeOf367
  t117 := Tryz.underlying368
  a117 := Tryz.isAgg368
  z117 := Tryz.sizeOf368
  v117 := Tryz.zeroValue368
  t119 := Tryz.underlying440
  a119 := Tryz.isAgg440
  z119 := Tryz.sizeOf440
  t124 := Tryz.underlying371
  a124 := Tryz.isAgg371
  z124 := Tryz.sizeOf371
  v124 := Tryz.zeroValue371
  t138 := Tryz.underlying442
  a138 := Tryz.isAgg442
  z138 := Tryz.sizeOf442
  v138 := Tryz.zeroValue442
  t139 := Tryz.underlying443
  a139 := Tryz.isAgg443
  z139 := Tryz.sizeOf443
  v139 := Tryz.zeroValue443
  g3 := by kernel_rfl
  g4 := by kernel_rfl }
open Go.RowKit in
/-- strings.TrimRight: "TrimRight returns a slice of the string s, with all trailing Unicode code points contained in cutset removed.": AT A cutset OF ONE ASCII BYTE. The world is as it was. (LAID: no walk: one application.) -/
theorem Tryz.strings_TrimRight_one (s : ByteArray) (c : UInt8) (hc : c.toNat < 128) (w : World) (hs : s.size ≤ 9223372036854775807) :
    Calls Tryz.prog 191 #[.string s, .string ⟨#[c]⟩] w fun e w' => e = .returned (.string ⟨(Lib.trimRightB s.data.toList c).toArray⟩) ∧ w' = w := Any.strings_TrimRight_one Tryz.lays162 s c hc w hs
def Tryz.lays317_ren : Go.Shelf.Ren := ⟨fun | 317 => 235 | n => n, fun | 3 => 3 | 46 => 31 | n => n, fun | n => n⟩
theorem Tryz.lays317 : Go.Proofs.Lays.n317 Tryz.prog Tryz.lays317_ren := {
  mixed := by kernel_rfl
  f317 := Tryz.func235.trans (congrArg some (by kernel_rfl))
  t3 := Tryz.underlying3
  a3 := Tryz.isAgg3
  z3 := Tryz.sizeOf3
  v3 := Tryz.zeroValue3
  t46 := Tryz.underlying31
  a46 := Tryz.isAgg31
  z46 := Tryz.sizeOf31
  v46 := Tryz.zeroValue31 }
open Go.Lib in
/-- internal/strconv.log10Pow2: "log10Pow2(x) returns ⌊log₁₀ 2**x⌋ = ⌊x * log₁₀ 2⌋.": '(x * 78913) >> 18', at an x up to 64 (a length in bits). The world is as it was. (LAID: no walk: one application.) -/
theorem Tryz.internal_strconv_log10Pow2 (x : Nat) (h : x ≤ 64) (w : World) :
    Calls Tryz.prog 235 #[.int .i64 x] w fun e w' => e = .returned (.int .i64 (Lib.l10 x)) ∧ w' = w := Any.internal_strconv_log10Pow2 Tryz.lays317 x h w
def Tryz.lays318_ren : Go.Shelf.Ren := ⟨fun | 318 => 236 | n => n, fun | 3 => 3 | 4 => 4 | n => n, fun | n => n⟩
theorem Tryz.lays318 : Go.Proofs.Lays.n318 Tryz.prog Tryz.lays318_ren := {
  mixed := by kernel_rfl
  f318 := Tryz.func236.trans (congrArg some (by kernel_rfl))
  t3 := Tryz.underlying3
  a3 := Tryz.isAgg3
  z3 := Tryz.sizeOf3
  v3 := Tryz.zeroValue3
  t4 := Tryz.underlying4
  a4 := Tryz.isAgg4
  z4 := Tryz.sizeOf4
  v4 := Tryz.zeroValue4 }
open Go.Lib in
/-- internal/strconv.bool2: "bool2 converts b to an integer: 1 for true, 0 for false." The world is as it was. (LAID: no walk: one application.) -/
theorem Tryz.internal_strconv_bool2_int (b : Bool) (w : World) :
    Calls Tryz.prog 236 #[.bool b] w fun e w' => e = .returned (.int .i64 (if b then 1 else 0)) ∧ w' = w := Any.internal_strconv_bool2_int Tryz.lays318 b w
def Tryz.lays283_ren : Go.Shelf.Ren := ⟨fun | 283 => 184 | n => n, fun | 3 => 3 | 9 => 9 | 4 => 4 | n => n, fun | n => n⟩
theorem Tryz.lays283 : Go.Proofs.Lays.n283 Tryz.prog Tryz.lays283_ren := {
  mixed := by kernel_rfl
  f283 := Tryz.func184.trans (congrArg some (by kernel_rfl))
  t3 := Tryz.underlying3
  a3 := Tryz.isAgg3
  z3 := Tryz.sizeOf3
  v3 := Tryz.zeroValue3
  t4 := Tryz.underlying4
  a4 := Tryz.isAgg4
  z4 := Tryz.sizeOf4
  v4 := Tryz.zeroValue4
  t9 := Tryz.underlying9
  a9 := Tryz.isAgg9
  z9 := Tryz.sizeOf9
  v9 := Tryz.zeroValue9 }
open Go.Lib in
/-- internal/strconv.small: "small returns the string for an i with 0 <= i < nSmalls.": i's decimal numeral. The world is as it was. (LAID: no walk: one application.) -/
theorem Tryz.internal_strconv_small (i : Nat) (h : i < 100) (w : World) :
    Calls Tryz.prog 184 #[.int .i64 i] w fun e w' => e = .returned (.string ⟨(Lib.decDigits i).toArray⟩) ∧ w' = w := Any.internal_strconv_small Tryz.lays283 i h w
def Tryz.laysM284_ren : Go.Shelf.Ren := ⟨fun | 284 => 185 | 129 => 166 | 317 => 235 | 318 => 236 | n => n, fun | 53 => 112 | 3 => 3 | 212 => 350 | 0 => 0 | 4 => 4 | 46 => 31 | 5 => 5 | 9 => 9 | n => n, fun | 17 => 1 | n => n⟩
theorem Tryz.laysM284 : Go.Proofs.LaysM.n284 Tryz.prog Tryz.laysM284_ren := {
  mixed := by kernel_rfl
  f129 := Tryz.func166.trans (congrArg some (by kernel_rfl))
  f284 := Tryz.func185.trans (congrArg some (by kernel_rfl))
  f317 := Tryz.func235.trans (congrArg some (by kernel_rfl))
  f318 := Tryz.func236.trans (congrArg some (by kernel_rfl))
  t0 := Tryz.underlying0
  a0 := Tryz.isAgg0
  z0 := Tryz.sizeOf0
  v0 := Tryz.zeroValue0
  t3 := Tryz.underlying3
  a3 := Tryz.isAgg3
  z3 := Tryz.sizeOf3
  v3 := Tryz.zeroValue3
  t4 := Tryz.underlying4
  a4 := Tryz.isAgg4
  z4 := Tryz.sizeOf4
  v4 := Tryz.zeroValue4
  t5 := Tryz.underlying5
  a5 := Tryz.isAgg5
  z5 := Tryz.sizeOf5
  v5 := Tryz.zeroValue5
  t9 := Tryz.underlying9
  a9 := Tryz.isAgg9
  z9 := Tryz.sizeOf9
  v9 := Tryz.zeroValue9
  t46 := Tryz.underlying31
  a46 := Tryz.isAgg31
  z46 := Tryz.sizeOf31
  v46 := Tryz.zeroValue31
  t53 := Tryz.underlying112
  a53 := Tryz.isAgg112
  z53 := Tryz.sizeOf112
  v53 := Tryz.zeroValue112
  t212 := Tryz.underlying350
  a212 := Tryz.isAgg350
  z212 := Tryz.sizeOf350
  v212 := Tryz.zeroValue350
  g17 := by kernel_rfl
  i0 := by kernel_rfl
  i3 := by kernel_rfl
  i4 := by kernel_rfl
  i5 := by kernel_rfl
  i9 := by kernel_rfl
  i46 := by kernel_rfl
  i53 := by kernel_rfl
  i212 := by kernel_rfl
  m17 := by kernel_rfl }
open Go.Lib in
/-- internal/strconv.numDigits, at a d that is not 0: THE NUMBER OF d's DECIMAL DIGITS. The world is as it was. (LAID: no walk: one application.) -/
theorem Tryz.internal_strconv_numDigits (u : Nat) (h1 : 1 ≤ u) (h2 : u < 18446744073709551616) (w : World) (htab : Lib.TabIs Tryz.prog w "internal/strconv.uint64pow10" .u64 Lib.pow10Tab) :
    Calls Tryz.prog 185 #[.int .u64 u] w fun e w' => e = .returned (.int .i64 (Lib.nDigits u)) ∧ w' = w := Any.internal_strconv_numDigits Tryz.laysM284 u h1 h2 w htab
def Tryz.lays285_ren : Go.Shelf.Ren := ⟨fun | 285 => 186 | n => n, fun | 37 => 104 | 53 => 112 | 3 => 3 | 4 => 4 | 51 => 244 | 9 => 9 | 5 => 5 | 0 => 0 | n => n, fun | n => n⟩
theorem Tryz.lays285 : Go.Proofs.Lays.n285 Tryz.prog Tryz.lays285_ren := {
  mixed := by kernel_rfl
  f285 := Tryz.func186.trans (congrArg some (by kernel_rfl))
  t0 := Tryz.underlying0
  a0 := Tryz.isAgg0
  z0 := Tryz.sizeOf0
  v0 := Tryz.zeroValue0
  t3 := Tryz.underlying3
  a3 := Tryz.isAgg3
  z3 := Tryz.sizeOf3
  v3 := Tryz.zeroValue3
  t4 := Tryz.underlying4
  a4 := Tryz.isAgg4
  z4 := Tryz.sizeOf4
  v4 := Tryz.zeroValue4
  t5 := Tryz.underlying5
  a5 := Tryz.isAgg5
  z5 := Tryz.sizeOf5
  v5 := Tryz.zeroValue5
  t9 := Tryz.underlying9
  a9 := Tryz.isAgg9
  z9 := Tryz.sizeOf9
  v9 := Tryz.zeroValue9
  t37 := Tryz.underlying104
  a37 := Tryz.isAgg104
  z37 := Tryz.sizeOf104
  v37 := Tryz.zeroValue104
  t51 := Tryz.underlying244
  a51 := Tryz.isAgg244
  z51 := Tryz.sizeOf244
  v51 := Tryz.zeroValue244
  t53 := Tryz.underlying112
  a53 := Tryz.isAgg112
  z53 := Tryz.sizeOf112
  v53 := Tryz.zeroValue112 }
open Go.RowKit Go.Sort Go.Lib in
/-- internal/strconv.formatBase10: "formatBase10 formats the decimal representation of u into a. The caller is responsible for ensuring that a is big enough to hold u. If a is too big, leading zeros will be filled in as needed.": THE ROW HOLDS u's DIGITS ('FmtInv .. 0 ..': every place t holds 'dg u (len - 1 - t)'); all else is as it was but for the count of draws. (LAID: no walk: one application.) -/
theorem Tryz.internal_strconv_formatBase10 (blk off cap : Nat) (u : Nat) (d : Array UInt8) (w : World) (hH : Holds (fun (b : UInt8) => Value.int .u8 (b.toNat : Int)) w blk off d) (hu : u < 10 ^ d.size) (hu64 : u < 18446744073709551616) (hsz : d.size < 4611686018427387904) :
    Calls Tryz.prog 186 #[.slice (some ⟨blk, off, none⟩) d.size cap, .int .u64 u] w fun e w' =>
      e = .returned (.tuple #[]) ∧ ∃ (n v' : Nat) (dk : Array UInt8), w' = (putRow (fun (b : UInt8) => Value.int .u8 (b.toNat : Int)) w blk off dk).drewN n ∧ FmtInv d.size u 0 v' dk := Any.internal_strconv_formatBase10 Tryz.lays285 blk off cap u d w hH hu hu64 hsz
def Tryz.laysM246_ren : Go.Shelf.Ren := ⟨fun | 246 => 144 | 283 => 184 | 284 => 185 | 285 => 186 | 286 => 187 | 129 => 166 | 317 => 235 | 318 => 236 | 319 => 237 | 320 => 238 | 337 => 288 | 338 => 232 | n => n, fun | 2 => 2 | 3 => 3 | 9 => 9 | 4 => 4 | 171 => 294 | 0 => 0 | 53 => 112 | 37 => 104 | 5 => 5 | 173 => 296 | 212 => 350 | 51 => 244 | 20 => 20 | 213 => 351 | 46 => 31 | 232 => 425 | 233 => 404 | n => n, fun | 17 => 1 | 18 => 4 | 19 => 3 | n => n⟩
theorem Tryz.laysM246 : Go.Proofs.LaysM.n246 Tryz.prog Tryz.laysM246_ren := {
  mixed := by kernel_rfl
  f129 := Tryz.func166.trans (congrArg some (by kernel_rfl))
  f246 := Tryz.func144.trans (congrArg some (by kernel_rfl))
  f283 := Tryz.func184.trans (congrArg some (by kernel_rfl))
  f284 := Tryz.func185.trans (congrArg some (by kernel_rfl))
  f285 := Tryz.func186.trans (congrArg some (by kernel_rfl))
  f286 := Tryz.func187.trans (congrArg some (by kernel_rfl))
  f317 := Tryz.func235.trans (congrArg some (by kernel_rfl))
  f318 := Tryz.func236.trans (congrArg some (by kernel_rfl))
  f319 := Tryz.func237.trans (congrArg some (by kernel_rfl))
  f320 := Tryz.func238.trans (congrArg some (by kernel_rfl))
  f337 := Tryz.func288.trans (congrArg some (by kernel_rfl))
  f338 := Tryz.func232.trans (congrArg some (by kernel_rfl))
  t0 := Tryz.underlying0
  a0 := Tryz.isAgg0
  z0 := Tryz.sizeOf0
  v0 := Tryz.zeroValue0
  t2 := Tryz.underlying2
  a2 := Tryz.isAgg2
  z2 := Tryz.sizeOf2
  v2 := Tryz.zeroValue2
  t3 := Tryz.underlying3
  a3 := Tryz.isAgg3
  z3 := Tryz.sizeOf3
  v3 := Tryz.zeroValue3
  t4 := Tryz.underlying4
  a4 := Tryz.isAgg4
  z4 := Tryz.sizeOf4
  v4 := Tryz.zeroValue4
  t5 := Tryz.underlying5
  a5 := Tryz.isAgg5
  z5 := Tryz.sizeOf5
  v5 := Tryz.zeroValue5
  t9 := Tryz.underlying9
  a9 := Tryz.isAgg9
  z9 := Tryz.sizeOf9
  v9 := Tryz.zeroValue9
  t20 := Tryz.underlying20
  a20 := Tryz.isAgg20
  z20 := Tryz.sizeOf20
  v20 := Tryz.zeroValue20
  t37 := Tryz.underlying104
  a37 := Tryz.isAgg104
  z37 := Tryz.sizeOf104
  v37 := Tryz.zeroValue104
  t46 := Tryz.underlying31
  a46 := Tryz.isAgg31
  z46 := Tryz.sizeOf31
  v46 := Tryz.zeroValue31
  t51 := Tryz.underlying244
  a51 := Tryz.isAgg244
  z51 := Tryz.sizeOf244
  v51 := Tryz.zeroValue244
  t53 := Tryz.underlying112
  a53 := Tryz.isAgg112
  z53 := Tryz.sizeOf112
  v53 := Tryz.zeroValue112
  t171 := Tryz.underlying294
  a171 := Tryz.isAgg294
  z171 := Tryz.sizeOf294
  v171 := Tryz.zeroValue294
  t173 := Tryz.underlying296
  a173 := Tryz.isAgg296
  z173 := Tryz.sizeOf296
  v173 := Tryz.zeroValue296
  t212 := Tryz.underlying350
  a212 := Tryz.isAgg350
  z212 := Tryz.sizeOf350
  v212 := Tryz.zeroValue350
  t213 := Tryz.underlying351
  a213 := Tryz.isAgg351
  z213 := Tryz.sizeOf351
  t232 := Tryz.underlying425
  a232 := Tryz.isAgg425
  z232 := Tryz.sizeOf425
  v232 := Tryz.zeroValue425
  t233 := Tryz.underlying404
  a233 := Tryz.isAgg404
  z233 := Tryz.sizeOf404
  v233 := Tryz.zeroValue404
  g17 := by kernel_rfl
  g18 := by kernel_rfl
  g19 := by kernel_rfl
  i0 := by kernel_rfl
  i2 := by kernel_rfl
  i3 := by kernel_rfl
  i4 := by kernel_rfl
  i5 := by kernel_rfl
  i9 := by kernel_rfl
  i20 := by kernel_rfl
  i37 := by kernel_rfl
  i46 := by kernel_rfl
  i51 := by kernel_rfl
  i53 := by kernel_rfl
  i171 := by kernel_rfl
  i173 := by kernel_rfl
  i212 := by kernel_rfl
  i232 := by kernel_rfl
  i233 := by kernel_rfl
  m17 := by kernel_rfl
  m18 := by kernel_rfl
  m19 := by kernel_rfl }
open Go.RowKit Go.Sort Go.Lib in
/-- internal/strconv.FormatInt: "FormatInt returns the string representation of i in the given base": AT BASE 10: i's decimal numeral, for every int64. The world behind the call: the world before it, new blocks behind the heap, draws. (LAID: no walk: one application.) -/
theorem Tryz.internal_strconv_FormatInt_10 (n : Int) (h0 : -9223372036854775808 ≤ n) (h1 : n ≤ 9223372036854775807) (w : World) (htab : Lib.TabIs Tryz.prog w "internal/strconv.uint64pow10" .u64 Lib.pow10Tab) :
    Calls Tryz.prog 144 #[.int .i64 n, .int .i64 10] w fun e w' => e = .returned (.string ⟨(Lib.itoa n).toArray⟩) ∧ ∃ k os, w' = grow (w.drewN k) os := Any.internal_strconv_FormatInt_10 Tryz.laysM246 n h0 h1 w htab
def Tryz.lays246_ren : Go.Shelf.Ren := ⟨fun | 246 => 144 | 283 => 184 | 284 => 185 | 285 => 186 | 286 => 187 | 129 => 166 | 317 => 235 | 318 => 236 | 319 => 237 | 320 => 238 | 337 => 288 | 338 => 232 | n => n, fun | 2 => 2 | 3 => 3 | 9 => 9 | 4 => 4 | 171 => 294 | 0 => 0 | 53 => 112 | 37 => 104 | 5 => 5 | 173 => 296 | 212 => 350 | 51 => 244 | 20 => 20 | 213 => 351 | 46 => 31 | 232 => 425 | 233 => 404 | n => n, fun | 17 => 1 | 18 => 4 | 19 => 3 | n => n⟩
theorem Tryz.lays246 : Go.Proofs.Lays.n246 Tryz.prog Tryz.lays246_ren := {
  mixed := by kernel_rfl
  f129 := Tryz.func166.trans (congrArg some (by kernel_rfl))
  f246 := Tryz.func144.trans (congrArg some (by kernel_rfl))
  f283 := Tryz.func184.trans (congrArg some (by kernel_rfl))
  f284 := Tryz.func185.trans (congrArg some (by kernel_rfl))
  f285 := Tryz.func186.trans (congrArg some (by kernel_rfl))
  f286 := Tryz.func187.trans (congrArg some (by kernel_rfl))
  f317 := Tryz.func235.trans (congrArg some (by kernel_rfl))
  f318 := Tryz.func236.trans (congrArg some (by kernel_rfl))
  f319 := Tryz.func237.trans (congrArg some (by kernel_rfl))
  f320 := Tryz.func238.trans (congrArg some (by kernel_rfl))
  f337 := Tryz.func288.trans (congrArg some (by kernel_rfl))
  f338 := Tryz.func232.trans (congrArg some (by kernel_rfl))
  t0 := Tryz.underlying0
  a0 := Tryz.isAgg0
  z0 := Tryz.sizeOf0
  v0 := Tryz.zeroValue0
  t2 := Tryz.underlying2
  a2 := Tryz.isAgg2
  z2 := Tryz.sizeOf2
  v2 := Tryz.zeroValue2
  t3 := Tryz.underlying3
  a3 := Tryz.isAgg3
  z3 := Tryz.sizeOf3
  v3 := Tryz.zeroValue3
  t4 := Tryz.underlying4
  a4 := Tryz.isAgg4
  z4 := Tryz.sizeOf4
  v4 := Tryz.zeroValue4
  t5 := Tryz.underlying5
  a5 := Tryz.isAgg5
  z5 := Tryz.sizeOf5
  v5 := Tryz.zeroValue5
  t9 := Tryz.underlying9
  a9 := Tryz.isAgg9
  z9 := Tryz.sizeOf9
  v9 := Tryz.zeroValue9
  t20 := Tryz.underlying20
  a20 := Tryz.isAgg20
  z20 := Tryz.sizeOf20
  v20 := Tryz.zeroValue20
  t37 := Tryz.underlying104
  a37 := Tryz.isAgg104
  z37 := Tryz.sizeOf104
  v37 := Tryz.zeroValue104
  t46 := Tryz.underlying31
  a46 := Tryz.isAgg31
  z46 := Tryz.sizeOf31
  v46 := Tryz.zeroValue31
  t51 := Tryz.underlying244
  a51 := Tryz.isAgg244
  z51 := Tryz.sizeOf244
  v51 := Tryz.zeroValue244
  t53 := Tryz.underlying112
  a53 := Tryz.isAgg112
  z53 := Tryz.sizeOf112
  v53 := Tryz.zeroValue112
  t171 := Tryz.underlying294
  a171 := Tryz.isAgg294
  z171 := Tryz.sizeOf294
  v171 := Tryz.zeroValue294
  t173 := Tryz.underlying296
  a173 := Tryz.isAgg296
  z173 := Tryz.sizeOf296
  v173 := Tryz.zeroValue296
  t212 := Tryz.underlying350
  a212 := Tryz.isAgg350
  z212 := Tryz.sizeOf350
  v212 := Tryz.zeroValue350
  t213 := Tryz.underlying351
  a213 := Tryz.isAgg351
  z213 := Tryz.sizeOf351
  t232 := Tryz.underlying425
  a232 := Tryz.isAgg425
  z232 := Tryz.sizeOf425
  v232 := Tryz.zeroValue425
  t233 := Tryz.underlying404
  a233 := Tryz.isAgg404
  z233 := Tryz.sizeOf404
  v233 := Tryz.zeroValue404
  g17 := by kernel_rfl
  g18 := by kernel_rfl
  g19 := by kernel_rfl }
open Go.RowKit Go.Sort Go.Lib in
/-- THE ROAD WITHOUT THE TABLE: 0 <= i < 100: two constants are read, nothing is laid: no premise on the world, and the world is as it was. (LAID: no walk: one application.) -/
theorem Tryz.internal_strconv_FormatInt_10_small (i : Nat) (hi : i < 100) (w : World) :
    Calls Tryz.prog 144 #[.int .i64 i, .int .i64 10] w fun e w' => e = .returned (.string ⟨(Lib.decDigits i).toArray⟩) ∧ w' = w := Any.internal_strconv_FormatInt_10_small Tryz.lays246 i hi w
def Tryz.laysM243_ren : Go.Shelf.Ren := ⟨fun | 243 => 102 | 246 => 144 | 283 => 184 | 284 => 185 | 285 => 186 | 286 => 187 | 129 => 166 | 317 => 235 | 318 => 236 | 319 => 237 | 320 => 238 | 337 => 288 | 338 => 232 | n => n, fun | 3 => 3 | 9 => 9 | 2 => 2 | 4 => 4 | 171 => 294 | 0 => 0 | 53 => 112 | 37 => 104 | 5 => 5 | 173 => 296 | 212 => 350 | 51 => 244 | 20 => 20 | 213 => 351 | 46 => 31 | 232 => 425 | 233 => 404 | n => n, fun | 17 => 1 | 18 => 4 | 19 => 3 | n => n⟩
theorem Tryz.laysM243 : Go.Proofs.LaysM.n243 Tryz.prog Tryz.laysM243_ren := {
  mixed := by kernel_rfl
  f129 := Tryz.func166.trans (congrArg some (by kernel_rfl))
  f243 := Tryz.func102.trans (congrArg some (by kernel_rfl))
  f246 := Tryz.func144.trans (congrArg some (by kernel_rfl))
  f283 := Tryz.func184.trans (congrArg some (by kernel_rfl))
  f284 := Tryz.func185.trans (congrArg some (by kernel_rfl))
  f285 := Tryz.func186.trans (congrArg some (by kernel_rfl))
  f286 := Tryz.func187.trans (congrArg some (by kernel_rfl))
  f317 := Tryz.func235.trans (congrArg some (by kernel_rfl))
  f318 := Tryz.func236.trans (congrArg some (by kernel_rfl))
  f319 := Tryz.func237.trans (congrArg some (by kernel_rfl))
  f320 := Tryz.func238.trans (congrArg some (by kernel_rfl))
  f337 := Tryz.func288.trans (congrArg some (by kernel_rfl))
  f338 := Tryz.func232.trans (congrArg some (by kernel_rfl))
  t0 := Tryz.underlying0
  a0 := Tryz.isAgg0
  z0 := Tryz.sizeOf0
  v0 := Tryz.zeroValue0
  t2 := Tryz.underlying2
  a2 := Tryz.isAgg2
  z2 := Tryz.sizeOf2
  v2 := Tryz.zeroValue2
  t3 := Tryz.underlying3
  a3 := Tryz.isAgg3
  z3 := Tryz.sizeOf3
  v3 := Tryz.zeroValue3
  t4 := Tryz.underlying4
  a4 := Tryz.isAgg4
  z4 := Tryz.sizeOf4
  v4 := Tryz.zeroValue4
  t5 := Tryz.underlying5
  a5 := Tryz.isAgg5
  z5 := Tryz.sizeOf5
  v5 := Tryz.zeroValue5
  t9 := Tryz.underlying9
  a9 := Tryz.isAgg9
  z9 := Tryz.sizeOf9
  v9 := Tryz.zeroValue9
  t20 := Tryz.underlying20
  a20 := Tryz.isAgg20
  z20 := Tryz.sizeOf20
  v20 := Tryz.zeroValue20
  t37 := Tryz.underlying104
  a37 := Tryz.isAgg104
  z37 := Tryz.sizeOf104
  v37 := Tryz.zeroValue104
  t46 := Tryz.underlying31
  a46 := Tryz.isAgg31
  z46 := Tryz.sizeOf31
  v46 := Tryz.zeroValue31
  t51 := Tryz.underlying244
  a51 := Tryz.isAgg244
  z51 := Tryz.sizeOf244
  v51 := Tryz.zeroValue244
  t53 := Tryz.underlying112
  a53 := Tryz.isAgg112
  z53 := Tryz.sizeOf112
  v53 := Tryz.zeroValue112
  t171 := Tryz.underlying294
  a171 := Tryz.isAgg294
  z171 := Tryz.sizeOf294
  v171 := Tryz.zeroValue294
  t173 := Tryz.underlying296
  a173 := Tryz.isAgg296
  z173 := Tryz.sizeOf296
  v173 := Tryz.zeroValue296
  t212 := Tryz.underlying350
  a212 := Tryz.isAgg350
  z212 := Tryz.sizeOf350
  v212 := Tryz.zeroValue350
  t213 := Tryz.underlying351
  a213 := Tryz.isAgg351
  z213 := Tryz.sizeOf351
  t232 := Tryz.underlying425
  a232 := Tryz.isAgg425
  z232 := Tryz.sizeOf425
  v232 := Tryz.zeroValue425
  t233 := Tryz.underlying404
  a233 := Tryz.isAgg404
  z233 := Tryz.sizeOf404
  v233 := Tryz.zeroValue404
  g17 := by kernel_rfl
  g18 := by kernel_rfl
  g19 := by kernel_rfl
  i0 := by kernel_rfl
  i2 := by kernel_rfl
  i3 := by kernel_rfl
  i4 := by kernel_rfl
  i5 := by kernel_rfl
  i9 := by kernel_rfl
  i20 := by kernel_rfl
  i37 := by kernel_rfl
  i46 := by kernel_rfl
  i51 := by kernel_rfl
  i53 := by kernel_rfl
  i171 := by kernel_rfl
  i173 := by kernel_rfl
  i212 := by kernel_rfl
  i232 := by kernel_rfl
  i233 := by kernel_rfl
  m17 := by kernel_rfl
  m18 := by kernel_rfl
  m19 := by kernel_rfl }
open Go.RowKit Go.Sort Go.Lib in
/-- internal/strconv.Itoa: "Itoa is equivalent to FormatInt(int64(i), 10).": i's decimal numeral, for every int. (LAID: no walk: one application.) -/
theorem Tryz.internal_strconv_Itoa (n : Int) (h0 : -9223372036854775808 ≤ n) (h1 : n ≤ 9223372036854775807) (w : World) (htab : Lib.TabIs Tryz.prog w "internal/strconv.uint64pow10" .u64 Lib.pow10Tab) :
    Calls Tryz.prog 102 #[.int .i64 n] w fun e w' => e = .returned (.string ⟨(Lib.itoa n).toArray⟩) ∧ ∃ k os, w' = grow (w.drewN k) os := Any.internal_strconv_Itoa Tryz.laysM243 n h0 h1 w htab
def Tryz.lays243_ren : Go.Shelf.Ren := ⟨fun | 243 => 102 | 246 => 144 | 283 => 184 | 284 => 185 | 285 => 186 | 286 => 187 | 129 => 166 | 317 => 235 | 318 => 236 | 319 => 237 | 320 => 238 | 337 => 288 | 338 => 232 | n => n, fun | 3 => 3 | 9 => 9 | 2 => 2 | 4 => 4 | 171 => 294 | 0 => 0 | 53 => 112 | 37 => 104 | 5 => 5 | 173 => 296 | 212 => 350 | 51 => 244 | 20 => 20 | 213 => 351 | 46 => 31 | 232 => 425 | 233 => 404 | n => n, fun | 17 => 1 | 18 => 4 | 19 => 3 | n => n⟩
theorem Tryz.lays243 : Go.Proofs.Lays.n243 Tryz.prog Tryz.lays243_ren := {
  mixed := by kernel_rfl
  f129 := Tryz.func166.trans (congrArg some (by kernel_rfl))
  f243 := Tryz.func102.trans (congrArg some (by kernel_rfl))
  f246 := Tryz.func144.trans (congrArg some (by kernel_rfl))
  f283 := Tryz.func184.trans (congrArg some (by kernel_rfl))
  f284 := Tryz.func185.trans (congrArg some (by kernel_rfl))
  f285 := Tryz.func186.trans (congrArg some (by kernel_rfl))
  f286 := Tryz.func187.trans (congrArg some (by kernel_rfl))
  f317 := Tryz.func235.trans (congrArg some (by kernel_rfl))
  f318 := Tryz.func236.trans (congrArg some (by kernel_rfl))
  f319 := Tryz.func237.trans (congrArg some (by kernel_rfl))
  f320 := Tryz.func238.trans (congrArg some (by kernel_rfl))
  f337 := Tryz.func288.trans (congrArg some (by kernel_rfl))
  f338 := Tryz.func232.trans (congrArg some (by kernel_rfl))
  t0 := Tryz.underlying0
  a0 := Tryz.isAgg0
  z0 := Tryz.sizeOf0
  v0 := Tryz.zeroValue0
  t2 := Tryz.underlying2
  a2 := Tryz.isAgg2
  z2 := Tryz.sizeOf2
  v2 := Tryz.zeroValue2
  t3 := Tryz.underlying3
  a3 := Tryz.isAgg3
  z3 := Tryz.sizeOf3
  v3 := Tryz.zeroValue3
  t4 := Tryz.underlying4
  a4 := Tryz.isAgg4
  z4 := Tryz.sizeOf4
  v4 := Tryz.zeroValue4
  t5 := Tryz.underlying5
  a5 := Tryz.isAgg5
  z5 := Tryz.sizeOf5
  v5 := Tryz.zeroValue5
  t9 := Tryz.underlying9
  a9 := Tryz.isAgg9
  z9 := Tryz.sizeOf9
  v9 := Tryz.zeroValue9
  t20 := Tryz.underlying20
  a20 := Tryz.isAgg20
  z20 := Tryz.sizeOf20
  v20 := Tryz.zeroValue20
  t37 := Tryz.underlying104
  a37 := Tryz.isAgg104
  z37 := Tryz.sizeOf104
  v37 := Tryz.zeroValue104
  t46 := Tryz.underlying31
  a46 := Tryz.isAgg31
  z46 := Tryz.sizeOf31
  v46 := Tryz.zeroValue31
  t51 := Tryz.underlying244
  a51 := Tryz.isAgg244
  z51 := Tryz.sizeOf244
  v51 := Tryz.zeroValue244
  t53 := Tryz.underlying112
  a53 := Tryz.isAgg112
  z53 := Tryz.sizeOf112
  v53 := Tryz.zeroValue112
  t171 := Tryz.underlying294
  a171 := Tryz.isAgg294
  z171 := Tryz.sizeOf294
  v171 := Tryz.zeroValue294
  t173 := Tryz.underlying296
  a173 := Tryz.isAgg296
  z173 := Tryz.sizeOf296
  v173 := Tryz.zeroValue296
  t212 := Tryz.underlying350
  a212 := Tryz.isAgg350
  z212 := Tryz.sizeOf350
  v212 := Tryz.zeroValue350
  t213 := Tryz.underlying351
  a213 := Tryz.isAgg351
  z213 := Tryz.sizeOf351
  t232 := Tryz.underlying425
  a232 := Tryz.isAgg425
  z232 := Tryz.sizeOf425
  v232 := Tryz.zeroValue425
  t233 := Tryz.underlying404
  a233 := Tryz.isAgg404
  z233 := Tryz.sizeOf404
  v233 := Tryz.zeroValue404
  g17 := by kernel_rfl
  g18 := by kernel_rfl
  g19 := by kernel_rfl }
open Go.RowKit Go.Sort Go.Lib in
/-- THE ROAD WITHOUT THE TABLE: 0 <= i < 100. (LAID: no walk: one application.) -/
theorem Tryz.internal_strconv_Itoa_small (i : Nat) (hi : i < 100) (w : World) :
    Calls Tryz.prog 102 #[.int .i64 i] w fun e w' => e = .returned (.string ⟨(Lib.decDigits i).toArray⟩) ∧ w' = w := Any.internal_strconv_Itoa_small Tryz.lays243 i hi w
def Tryz.laysM171_ren : Go.Shelf.Ren := ⟨fun | 171 => 64 | 243 => 102 | 246 => 144 | 283 => 184 | 284 => 185 | 285 => 186 | 286 => 187 | 129 => 166 | 317 => 235 | 318 => 236 | 319 => 237 | 320 => 238 | 337 => 288 | 338 => 232 | n => n, fun | 3 => 3 | 9 => 9 | 2 => 2 | 4 => 4 | 171 => 294 | 0 => 0 | 53 => 112 | 37 => 104 | 5 => 5 | 173 => 296 | 212 => 350 | 51 => 244 | 20 => 20 | 213 => 351 | 46 => 31 | 232 => 425 | 233 => 404 | n => n, fun | 17 => 1 | 18 => 4 | 19 => 3 | n => n⟩
theorem Tryz.laysM171 : Go.Proofs.LaysM.n171 Tryz.prog Tryz.laysM171_ren := {
  mixed := by kernel_rfl
  f129 := Tryz.func166.trans (congrArg some (by kernel_rfl))
  f171 := Tryz.func64.trans (congrArg some (by kernel_rfl))
  f243 := Tryz.func102.trans (congrArg some (by kernel_rfl))
  f246 := Tryz.func144.trans (congrArg some (by kernel_rfl))
  f283 := Tryz.func184.trans (congrArg some (by kernel_rfl))
  f284 := Tryz.func185.trans (congrArg some (by kernel_rfl))
  f285 := Tryz.func186.trans (congrArg some (by kernel_rfl))
  f286 := Tryz.func187.trans (congrArg some (by kernel_rfl))
  f317 := Tryz.func235.trans (congrArg some (by kernel_rfl))
  f318 := Tryz.func236.trans (congrArg some (by kernel_rfl))
  f319 := Tryz.func237.trans (congrArg some (by kernel_rfl))
  f320 := Tryz.func238.trans (congrArg some (by kernel_rfl))
  f337 := Tryz.func288.trans (congrArg some (by kernel_rfl))
  f338 := Tryz.func232.trans (congrArg some (by kernel_rfl))
  t0 := Tryz.underlying0
  a0 := Tryz.isAgg0
  z0 := Tryz.sizeOf0
  v0 := Tryz.zeroValue0
  t2 := Tryz.underlying2
  a2 := Tryz.isAgg2
  z2 := Tryz.sizeOf2
  v2 := Tryz.zeroValue2
  t3 := Tryz.underlying3
  a3 := Tryz.isAgg3
  z3 := Tryz.sizeOf3
  v3 := Tryz.zeroValue3
  t4 := Tryz.underlying4
  a4 := Tryz.isAgg4
  z4 := Tryz.sizeOf4
  v4 := Tryz.zeroValue4
  t5 := Tryz.underlying5
  a5 := Tryz.isAgg5
  z5 := Tryz.sizeOf5
  v5 := Tryz.zeroValue5
  t9 := Tryz.underlying9
  a9 := Tryz.isAgg9
  z9 := Tryz.sizeOf9
  v9 := Tryz.zeroValue9
  t20 := Tryz.underlying20
  a20 := Tryz.isAgg20
  z20 := Tryz.sizeOf20
  v20 := Tryz.zeroValue20
  t37 := Tryz.underlying104
  a37 := Tryz.isAgg104
  z37 := Tryz.sizeOf104
  v37 := Tryz.zeroValue104
  t46 := Tryz.underlying31
  a46 := Tryz.isAgg31
  z46 := Tryz.sizeOf31
  v46 := Tryz.zeroValue31
  t51 := Tryz.underlying244
  a51 := Tryz.isAgg244
  z51 := Tryz.sizeOf244
  v51 := Tryz.zeroValue244
  t53 := Tryz.underlying112
  a53 := Tryz.isAgg112
  z53 := Tryz.sizeOf112
  v53 := Tryz.zeroValue112
  t171 := Tryz.underlying294
  a171 := Tryz.isAgg294
  z171 := Tryz.sizeOf294
  v171 := Tryz.zeroValue294
  t173 := Tryz.underlying296
  a173 := Tryz.isAgg296
  z173 := Tryz.sizeOf296
  v173 := Tryz.zeroValue296
  t212 := Tryz.underlying350
  a212 := Tryz.isAgg350
  z212 := Tryz.sizeOf350
  v212 := Tryz.zeroValue350
  t213 := Tryz.underlying351
  a213 := Tryz.isAgg351
  z213 := Tryz.sizeOf351
  t232 := Tryz.underlying425
  a232 := Tryz.isAgg425
  z232 := Tryz.sizeOf425
  v232 := Tryz.zeroValue425
  t233 := Tryz.underlying404
  a233 := Tryz.isAgg404
  z233 := Tryz.sizeOf404
  v233 := Tryz.zeroValue404
  g17 := by kernel_rfl
  g18 := by kernel_rfl
  g19 := by kernel_rfl
  i0 := by kernel_rfl
  i2 := by kernel_rfl
  i3 := by kernel_rfl
  i4 := by kernel_rfl
  i5 := by kernel_rfl
  i9 := by kernel_rfl
  i20 := by kernel_rfl
  i37 := by kernel_rfl
  i46 := by kernel_rfl
  i51 := by kernel_rfl
  i53 := by kernel_rfl
  i171 := by kernel_rfl
  i173 := by kernel_rfl
  i212 := by kernel_rfl
  i232 := by kernel_rfl
  i233 := by kernel_rfl
  m17 := by kernel_rfl
  m18 := by kernel_rfl
  m19 := by kernel_rfl }
open Go.RowKit Go.Sort Go.Lib in
/-- strconv.Itoa: "Itoa is equivalent to FormatInt(int64(i), 10).": i's DECIMAL NUMERAL ('Lib.itoa': a '-' where i is negative, then the digits), FOR EVERY int. The world behind the call: the world before it, new blocks behind the heap (the library's 'var a [24]byte'), draws. (LAID: no walk: one application.) -/
theorem Tryz.strconv_Itoa (n : Int) (h0 : -9223372036854775808 ≤ n) (h1 : n ≤ 9223372036854775807) (w : World) (htab : Lib.TabIs Tryz.prog w "internal/strconv.uint64pow10" .u64 Lib.pow10Tab) :
    Calls Tryz.prog 64 #[.int .i64 n] w fun e w' => e = .returned (.string ⟨(Lib.itoa n).toArray⟩) ∧ ∃ k os, w' = grow (w.drewN k) os := Any.strconv_Itoa Tryz.laysM171 n h0 h1 w htab
def Tryz.lays171_ren : Go.Shelf.Ren := ⟨fun | 171 => 64 | 243 => 102 | 246 => 144 | 283 => 184 | 284 => 185 | 285 => 186 | 286 => 187 | 129 => 166 | 317 => 235 | 318 => 236 | 319 => 237 | 320 => 238 | 337 => 288 | 338 => 232 | n => n, fun | 3 => 3 | 9 => 9 | 2 => 2 | 4 => 4 | 171 => 294 | 0 => 0 | 53 => 112 | 37 => 104 | 5 => 5 | 173 => 296 | 212 => 350 | 51 => 244 | 20 => 20 | 213 => 351 | 46 => 31 | 232 => 425 | 233 => 404 | n => n, fun | 17 => 1 | 18 => 4 | 19 => 3 | n => n⟩
theorem Tryz.lays171 : Go.Proofs.Lays.n171 Tryz.prog Tryz.lays171_ren := {
  mixed := by kernel_rfl
  f129 := Tryz.func166.trans (congrArg some (by kernel_rfl))
  f171 := Tryz.func64.trans (congrArg some (by kernel_rfl))
  f243 := Tryz.func102.trans (congrArg some (by kernel_rfl))
  f246 := Tryz.func144.trans (congrArg some (by kernel_rfl))
  f283 := Tryz.func184.trans (congrArg some (by kernel_rfl))
  f284 := Tryz.func185.trans (congrArg some (by kernel_rfl))
  f285 := Tryz.func186.trans (congrArg some (by kernel_rfl))
  f286 := Tryz.func187.trans (congrArg some (by kernel_rfl))
  f317 := Tryz.func235.trans (congrArg some (by kernel_rfl))
  f318 := Tryz.func236.trans (congrArg some (by kernel_rfl))
  f319 := Tryz.func237.trans (congrArg some (by kernel_rfl))
  f320 := Tryz.func238.trans (congrArg some (by kernel_rfl))
  f337 := Tryz.func288.trans (congrArg some (by kernel_rfl))
  f338 := Tryz.func232.trans (congrArg some (by kernel_rfl))
  t0 := Tryz.underlying0
  a0 := Tryz.isAgg0
  z0 := Tryz.sizeOf0
  v0 := Tryz.zeroValue0
  t2 := Tryz.underlying2
  a2 := Tryz.isAgg2
  z2 := Tryz.sizeOf2
  v2 := Tryz.zeroValue2
  t3 := Tryz.underlying3
  a3 := Tryz.isAgg3
  z3 := Tryz.sizeOf3
  v3 := Tryz.zeroValue3
  t4 := Tryz.underlying4
  a4 := Tryz.isAgg4
  z4 := Tryz.sizeOf4
  v4 := Tryz.zeroValue4
  t5 := Tryz.underlying5
  a5 := Tryz.isAgg5
  z5 := Tryz.sizeOf5
  v5 := Tryz.zeroValue5
  t9 := Tryz.underlying9
  a9 := Tryz.isAgg9
  z9 := Tryz.sizeOf9
  v9 := Tryz.zeroValue9
  t20 := Tryz.underlying20
  a20 := Tryz.isAgg20
  z20 := Tryz.sizeOf20
  v20 := Tryz.zeroValue20
  t37 := Tryz.underlying104
  a37 := Tryz.isAgg104
  z37 := Tryz.sizeOf104
  v37 := Tryz.zeroValue104
  t46 := Tryz.underlying31
  a46 := Tryz.isAgg31
  z46 := Tryz.sizeOf31
  v46 := Tryz.zeroValue31
  t51 := Tryz.underlying244
  a51 := Tryz.isAgg244
  z51 := Tryz.sizeOf244
  v51 := Tryz.zeroValue244
  t53 := Tryz.underlying112
  a53 := Tryz.isAgg112
  z53 := Tryz.sizeOf112
  v53 := Tryz.zeroValue112
  t171 := Tryz.underlying294
  a171 := Tryz.isAgg294
  z171 := Tryz.sizeOf294
  v171 := Tryz.zeroValue294
  t173 := Tryz.underlying296
  a173 := Tryz.isAgg296
  z173 := Tryz.sizeOf296
  v173 := Tryz.zeroValue296
  t212 := Tryz.underlying350
  a212 := Tryz.isAgg350
  z212 := Tryz.sizeOf350
  v212 := Tryz.zeroValue350
  t213 := Tryz.underlying351
  a213 := Tryz.isAgg351
  z213 := Tryz.sizeOf351
  t232 := Tryz.underlying425
  a232 := Tryz.isAgg425
  z232 := Tryz.sizeOf425
  v232 := Tryz.zeroValue425
  t233 := Tryz.underlying404
  a233 := Tryz.isAgg404
  z233 := Tryz.sizeOf404
  v233 := Tryz.zeroValue404
  g17 := by kernel_rfl
  g18 := by kernel_rfl
  g19 := by kernel_rfl }
open Go.RowKit Go.Sort Go.Lib in
/-- THE ROAD WITHOUT THE TABLE: 0 <= i < 100: NO PREMISE ON THE WORLD, AND THE WORLD IS AS IT WAS: a row that keeps its argument in that range need list no table ('laid = []'). (LAID: no walk: one application.) -/
theorem Tryz.strconv_Itoa_small (i : Nat) (hi : i < 100) (w : World) :
    Calls Tryz.prog 64 #[.int .i64 i] w fun e w' => e = .returned (.string ⟨(Lib.decDigits i).toArray⟩) ∧ w' = w := Any.strconv_Itoa_small Tryz.lays171 i hi w
def Tryz.lays206_ren : Go.Shelf.Ren := ⟨fun | 206 => 315 | n => n, fun | 9 => 9 | 4 => 4 | 3 => 3 | n => n, fun | n => n⟩
theorem Tryz.lays206 : Go.Proofs.Lays.n206 Tryz.prog Tryz.lays206_ren := {
  mixed := by kernel_rfl
  f206 := Tryz.func315.trans (congrArg some (by kernel_rfl))
  t3 := Tryz.underlying3
  a3 := Tryz.isAgg3
  z3 := Tryz.sizeOf3
  v3 := Tryz.zeroValue3
  t4 := Tryz.underlying4
  a4 := Tryz.isAgg4
  z4 := Tryz.sizeOf4
  v4 := Tryz.zeroValue4
  t9 := Tryz.underlying9
  a9 := Tryz.isAgg9
  z9 := Tryz.sizeOf9
  v9 := Tryz.zeroValue9 }
open Go.RowKit Go.Lib in
/-- internal/stringslite.HasPrefix (what strings.HasPrefix calls). (LAID: no walk: one application.) -/
theorem Tryz.stringslite_HasPrefix (s p : ByteArray) (w : World) :
    Calls Tryz.prog 315 #[.string s, .string p] w fun e w' => e = .returned (.bool (Lib.hasPrefix s.data.toList p.data.toList)) ∧ w' = w := Any.stringslite_HasPrefix Tryz.lays206 s p w
def Tryz.lays99_ren : Go.Shelf.Ren := ⟨fun | 99 => 274 | 206 => 315 | n => n, fun | 9 => 9 | 4 => 4 | 3 => 3 | n => n, fun | n => n⟩
theorem Tryz.lays99 : Go.Proofs.Lays.n99 Tryz.prog Tryz.lays99_ren := {
  mixed := by kernel_rfl
  f99 := Tryz.func274.trans (congrArg some (by kernel_rfl))
  f206 := Tryz.func315.trans (congrArg some (by kernel_rfl))
  t3 := Tryz.underlying3
  a3 := Tryz.isAgg3
  z3 := Tryz.sizeOf3
  v3 := Tryz.zeroValue3
  t4 := Tryz.underlying4
  a4 := Tryz.isAgg4
  z4 := Tryz.sizeOf4
  v4 := Tryz.zeroValue4
  t9 := Tryz.underlying9
  a9 := Tryz.isAgg9
  z9 := Tryz.sizeOf9
  v9 := Tryz.zeroValue9 }
open Go.RowKit Go.Lib in
/-- strings.HasPrefix: "HasPrefix reports whether the string s begins with prefix.": IT RETURNS 'Lib.hasPrefix s prefix'; the world is as it was. (LAID: no walk: one application.) -/
theorem Tryz.strings_HasPrefix (s p : ByteArray) (w : World) :
    Calls Tryz.prog 274 #[.string s, .string p] w fun e w' => e = .returned (.bool (Lib.hasPrefix s.data.toList p.data.toList)) ∧ w' = w := Any.strings_HasPrefix Tryz.lays99 s p w
def Tryz.lays197_ren : Go.Shelf.Ren := ⟨fun | 197 => 295 | 260 => 331 | n => n, fun | 9 => 9 | 21 => 21 | 3 => 3 | 4 => 4 | 5 => 5 | 105 => 408 | 119 => 440 | 0 => 0 | 46 => 31 | 139 => 443 | 138 => 442 | n => n, fun | 3 => 5 | 4 => 6 | n => n⟩
theorem Tryz.lays197 : Go.Proofs.Lays.n197 Tryz.prog Tryz.lays197_ren := {
  mixed := by kernel_rfl
  f197 := Tryz.func295.trans (congrArg some (by kernel_rfl))
  f260 := Tryz.func331.trans (congrArg some (by kernel_rfl))
  t0 := Tryz.underlying0
  a0 := Tryz.isAgg0
  z0 := Tryz.sizeOf0
  v0 := Tryz.zeroValue0
  t3 := Tryz.underlying3
  a3 := Tryz.isAgg3
  z3 := Tryz.sizeOf3
  v3 := Tryz.zeroValue3
  t4 := Tryz.underlying4
  a4 := Tryz.isAgg4
  z4 := Tryz.sizeOf4
  v4 := Tryz.zeroValue4
  t5 := Tryz.underlying5
  a5 := Tryz.isAgg5
  z5 := Tryz.sizeOf5
  v5 := Tryz.zeroValue5
  t9 := Tryz.underlying9
  a9 := Tryz.isAgg9
  z9 := Tryz.sizeOf9
  v9 := Tryz.zeroValue9
  t21 := Tryz.underlying21
  a21 := Tryz.isAgg21
  z21 := Tryz.sizeOf21
  v21 := Tryz.zeroValue21
  t46 := Tryz.underlying31
  a46 := Tryz.isAgg31
  z46 := Tryz.sizeOf31
  v46 := Tryz.zeroValue31
  t105 := Tryz.underlying408
  a105 := Tryz.isAgg408
  z105 := Tryz.sizeOf408
  v105 := Tryz.zeroValue408
  t119 := Tryz.underlying440
  a119 := Tryz.isAgg440
  z119 := Tryz.sizeOf440
  t138 := Tryz.underlying442
  a138 := Tryz.isAgg442
  z138 := Tryz.sizeOf442
  v138 := Tryz.zeroValue442
  t139 := Tryz.underlying443
  a139 := Tryz.isAgg443
  z139 := Tryz.sizeOf443
  v139 := Tryz.zeroValue443
  g3 := by kernel_rfl
  g4 := by kernel_rfl }
open Go.RowKit Go.Lib in
/-- **unicode/utf8.DecodeRuneInString AT EVERY STRING.** (LAID: no walk: one application.) -/
theorem Tryz.utf8_DecodeRuneInString (s : ByteArray) (w : World) (hT : Lib.Utf8Tabs 5 6 w) :
    Calls Tryz.prog 295 #[.string s] w fun e w' => e = .returned (.tuple #[.int .i32 (Lib.decodeGo s).1, .int .i64 (Lib.decodeGo s).2]) ∧ Below w.heap.size w w' := Any.utf8_DecodeRuneInString Tryz.lays197 s w hT
def Tryz.lays271_ren : Go.Shelf.Ren := ⟨fun | 271 => 297 | 120 => 333 | 197 => 295 | 260 => 331 | n => n, fun | 9 => 9 | 21 => 21 | 3 => 3 | 4 => 4 | 5 => 5 | 105 => 408 | 119 => 440 | 0 => 0 | 46 => 31 | 139 => 443 | 138 => 442 | n => n, fun | 3 => 5 | 4 => 6 | n => n⟩
theorem Tryz.lays271 : Go.Proofs.Lays.n271 Tryz.prog Tryz.lays271_ren := {
  mixed := by kernel_rfl
  f120 := Tryz.func333.trans (congrArg some (by kernel_rfl))
  f197 := Tryz.func295.trans (congrArg some (by kernel_rfl))
  f260 := Tryz.func331.trans (congrArg some (by kernel_rfl))
  f271 := Tryz.func297.trans (congrArg some (by kernel_rfl))
  t0 := Tryz.underlying0
  a0 := Tryz.isAgg0
  z0 := Tryz.sizeOf0
  v0 := Tryz.zeroValue0
  t3 := Tryz.underlying3
  a3 := Tryz.isAgg3
  z3 := Tryz.sizeOf3
  v3 := Tryz.zeroValue3
  t4 := Tryz.underlying4
  a4 := Tryz.isAgg4
  z4 := Tryz.sizeOf4
  v4 := Tryz.zeroValue4
  t5 := Tryz.underlying5
  a5 := Tryz.isAgg5
  z5 := Tryz.sizeOf5
  v5 := Tryz.zeroValue5
  t9 := Tryz.underlying9
  a9 := Tryz.isAgg9
  z9 := Tryz.sizeOf9
  v9 := Tryz.zeroValue9
  t21 := Tryz.underlying21
  a21 := Tryz.isAgg21
  z21 := Tryz.sizeOf21
  v21 := Tryz.zeroValue21
  t46 := Tryz.underlying31
  a46 := Tryz.isAgg31
  z46 := Tryz.sizeOf31
  v46 := Tryz.zeroValue31
  t105 := Tryz.underlying408
  a105 := Tryz.isAgg408
  z105 := Tryz.sizeOf408
  v105 := Tryz.zeroValue408
  t119 := Tryz.underlying440
  a119 := Tryz.isAgg440
  z119 := Tryz.sizeOf440
  t138 := Tryz.underlying442
  a138 := Tryz.isAgg442
  z138 := Tryz.sizeOf442
  v138 := Tryz.zeroValue442
  t139 := Tryz.underlying443
  a139 := Tryz.isAgg443
  z139 := Tryz.sizeOf443
  v139 := Tryz.zeroValue443
  g3 := by kernel_rfl
  g4 := by kernel_rfl }
open Go.RowKit Go.Lib in
/-- **unicode/utf8.DecodeLastRuneInString AT EVERY STRING.** (LAID: no walk: one application.) -/
theorem Tryz.utf8_DecodeLastRuneInString (s : ByteArray) (w : World) (hs : s.size ≤ 9223372036854775807) (hT : Lib.Utf8Tabs 5 6 w) :
    Calls Tryz.prog 297 #[.string s] w fun e w' => e = .returned (.tuple #[.int .i32 (Lib.decodeLastL s.data.toList).1, .int .i64 (Lib.decodeLastL s.data.toList).2]) ∧ Below w.heap.size w w' := Any.utf8_DecodeLastRuneInString Tryz.lays271 s w hs hT
def Tryz.laysNm217_ren : Go.Shelf.Ren := ⟨fun | 17 => 194 | n => n, fun | 24 => 23 | 9 => 9 | 3 => 3 | 4 => 4 | 0 => 0 | n => n, fun | n => n⟩
theorem Tryz.laysNm217 : Go.Proofs.Lays2.n17 Tryz.prog Tryz.laysNm217_ren := {
  mixed := by kernel_rfl
  f17 := Tryz.func194.trans (congrArg some (by kernel_rfl))
  t0 := Tryz.underlying0
  a0 := Tryz.isAgg0
  z0 := Tryz.sizeOf0
  v0 := Tryz.zeroValue0
  t3 := Tryz.underlying3
  a3 := Tryz.isAgg3
  z3 := Tryz.sizeOf3
  v3 := Tryz.zeroValue3
  t4 := Tryz.underlying4
  a4 := Tryz.isAgg4
  z4 := Tryz.sizeOf4
  v4 := Tryz.zeroValue4
  t9 := Tryz.underlying9
  a9 := Tryz.isAgg9
  z9 := Tryz.sizeOf9
  v9 := Tryz.zeroValue9
  t24 := Tryz.underlying23
  a24 := Tryz.isAgg23
  z24 := Tryz.sizeOf23
  v24 := Tryz.zeroValue23 }
open Go.RowKit Go.Lib Go.Sort in
/-- slices.Reverse at []string, over an array: Go's loop from the two ends inward is walked; it makes 'Sort.reverseLoop 0 (len - 1)', which is 'Array.reverse' (Derived/Lib/SlicesMore.lean). (LAID: no walk: one application.) -/
theorem Tryz.slices_Reverse_string_arr (blk off cap : Nat) (d : Array (List UInt8)) (w : World) (hH : Holds encStr w blk off d) (hsz : d.size ≤ 9223372036854775807) :
    Calls Tryz.prog 194 #[.slice (some ⟨blk, off, none⟩) d.size cap] w fun e w' => e = .returned (.tuple #[]) ∧ ∃ n, w' = putRow encStr (Sort.ahead w n) blk off d.reverse := Any.slices_Reverse_string_arr Tryz.laysNm217 blk off cap d w hH hsz
open Go.RowKit Go.Lib Go.Sort in
/-- slices.Reverse at []string: "Reverse reverses the elements of the slice in place.": THE SLICE's CELLS HOLD 'zs.reverse' BEHIND THE CALL; all else is as it was, but for the count of draws (the exchange 's[i], s[j] = s[j], s[i]' draws its order, once a round). IN THE WORDS OF slices.Sort's CONTRACT: 'Holds': the cells hold zs and none is frozen; 'putRow': the world with those cells holding another array. A slice of length 0 that is not nil is among them ('zs = []'); nil: '.._nil'. (LAID: no walk: one application.) -/
theorem Tryz.slices_Reverse_string (blk off cap : Nat) (zs : List (List UInt8)) (w : World) (hH : Holds encStr w blk off zs.toArray) (hsz : zs.length ≤ 9223372036854775807) :
    Calls Tryz.prog 194 #[.slice (some ⟨blk, off, none⟩) zs.length cap] w fun e w' => e = .returned (.tuple #[]) ∧ ∃ n, w' = putRow encStr (Sort.ahead w n) blk off zs.reverse.toArray := Any.slices_Reverse_string Tryz.laysNm217 blk off cap zs w hH hsz
open Go.RowKit Go.Lib Go.Sort in
/-- The same at a slice of length 0, a nil one too: nothing is read, nothing written, nothing drawn. (LAID: no walk: one application.) -/
theorem Tryz.slices_Reverse_string_empty (a : Option Addr) (cap : Nat) (w : World) :
    Calls Tryz.prog 194 #[.slice a 0 cap] w fun e w' => e = .returned (.tuple #[]) ∧ w' = w := Any.slices_Reverse_string_empty Tryz.laysNm217 a cap w
open Go.RowKit Go.Lib Go.Sort in
/-- slices.Reverse at []string, of an argument. (LAID: no walk: one application.) -/
theorem Tryz.slices_Reverse_string_cells (b off n c : Nat) (Sx : Nat → ByteArray) (w : World) (hbig : n ≤ 9223372036854775807) (hc : ∀ i, i < n → w.cell? ⟨b, off + i, none⟩ = some (.string (Sx i))) (hf : ∀ j, j < n → w.frozen? ⟨b, off + j, none⟩ = false) :
    Calls Tryz.prog 194 #[.slice (some ⟨b, off, none⟩) n c] w fun e w' => e = .returned (.tuple #[]) ∧ ∃ q, w' = (w.drewN q).setCells b off ((Lib.strsOf Sx n).reverse.map encStr) := Any.slices_Reverse_string_cells Tryz.laysNm217 b off n c Sx w hbig hc hf
def Tryz.laysSlE041_f127_ren : Go.Shelf.Ren := ⟨fun | 41 => 127 | n => n, fun | 22 => 152 | 23 => 112 | 4 => 4 | n => n, fun | n => n⟩
theorem Tryz.laysSlE041_f127 : Go.Proofs.SlLaysE0.n41 Tryz.prog Tryz.laysSlE041_f127_ren := {
  mixed := by kernel_rfl
  f41 := ⟨Tryz.f127.name, by decide, Tryz.func127.trans (congrArg some (by kernel_rfl))⟩
  t4 := Tryz.underlying4
  a4 := Tryz.isAgg4
  z4 := Tryz.sizeOf4
  v4 := Tryz.zeroValue4
  t22 := Tryz.underlying152
  a22 := Tryz.isAgg152
  z22 := Tryz.sizeOf152
  v22 := Tryz.zeroValue152 }
open Go.RowKit Go.Lib in
/-- slices.Clone: "Clone returns a copy of the slice. The elements are copied using assignment, so this is a shallow clone. The result may have additional unused capacity. The result preserves the nilness of s.": OF A SLICE THAT IS NOT nil IT RETURNS A SLICE THAT IS NOT nil, OF THE SAME CELLS, IN MEMORY OF THE CALL's OWN ('ownsRow': the how-to's 6f); below the heap's size at the call all is as it was. (LAID AT THE INSTANCE 'slices.Clone[[]uint64,uint64]': no walk: one application.) -/
theorem Tryz.slices_Clone (i0 : TypeInfo) (z : Value) (size bytes : Nat) (hi : Tryz.prog.info? 112 = some i0) (hz0 : i0.zero = some z) (hz1 : i0.size = size) (hz2 : i0.bytes = bytes) (hzs : z.cells.size = size) (hsz : 0 < size) (z23 : ∀ w, (Go.sizeOf 112).run Tryz.prog w = .ok size w) (b off n c : Nat) (news : List Value) (w : World) (hl : news.length = n * size) (hn : n ≤ maxLen) (hbig : n * bytes ≤ 140737488355328) (hc : ∀ j u, news[j]? = some u → w.cell? ⟨b, off + j, none⟩ = some u) (h1 : ∀ u ∈ news, u.oneCell' = true) :
    Calls Tryz.prog 127 #[.slice (some ⟨b, off, none⟩) n c] w fun e w' => ∃ v', e = .returned v' ∧ w'.ownsRow w.heap.size 112 size v' n news ∧ v' ≠ .slice none 0 0 ∧ Below w.heap.size w w' := AnyE.slices_Clone Tryz.laysSlE041_f127 i0 z size bytes hi hz0 hz1 hz2 hzs hsz z23 b off n c news w hl hn hbig hc h1
open Go.RowKit Go.Lib in
/-- The same at nil: nil comes back; the world is as it was; nothing is asked of the element's type. (LAID AT THE INSTANCE 'slices.Clone[[]uint64,uint64]': no walk: one application.) -/
theorem Tryz.slices_Clone_nil (n c : Nat) (w : World) :
    Calls Tryz.prog 127 #[.slice none n c] w fun e w' => e = .returned (.slice none 0 0) ∧ w' = w := AnyE.slices_Clone_nil Tryz.laysSlE041_f127 n c w
end Go.Proofs
