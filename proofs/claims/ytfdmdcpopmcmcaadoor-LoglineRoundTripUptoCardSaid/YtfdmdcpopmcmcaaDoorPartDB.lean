/- A part of the proof: TrydShelf, W5, W13, W6, W7, W8, W14, W15, POrd, W16, PDefs2 -/
import Derived.Test.YtfdmdcpopmcmcaaDoorPartCB
import Derived.Shelf.Strings.Trim
import Derived.Shelf.Small.Utf8
import Derived.Shelf.Small.Bits
import Derived.Shelf.Small.Strs
import Derived.Shelf.Strconv.Itoa0
import Derived.Shelf.Strings.Search1
import Derived.Shelf.Strings.Search2
import Derived.Shelf.Strings.Cut
import Derived.Shelf.LaysM
import Derived.Shelf.Strings.Shaped
import Derived.Shelf.Sort.Plain
import Derived.Shelf.Strings.Prefix
import Derived.Shelf.Unicode.Decode
import Derived.Shelf.Strings.Runes
import Derived.Shelf.Strings.IndexAny
import Derived.Shelf.Strings.AsciiSet
import Derived.Shelf.Strings.IndexAnyAll
import Derived.Shelf.Unicode.DecodeSlow
import Derived.Shelf.Unicode.DecodeAny
import Derived.Shelf.Slices.Turned
import Derived.Ground.Names2Prog
import Derived.Shelf.Slices.Clone
import Derived.Shelf.Slices.CompactS
import Derived.Shelf.Slices.Cells
import Derived.Shelf.Slices.In.SortNone
import Derived.Ground.SlgnProg
import Derived.Shelf.SlicesE.Clone
import Derived.Test.YtfdmdcpopmcmcaaDoorProg
import Derived.Sort.Walk0
set_option linter.all false
set_option linter.unusedSectionVars false
set_option linter.unusedVariables false
set_option linter.unusedSimpArgs false
section
namespace Go.Proofs
open Go.Shelf
def Tryd.lays231_ren : Go.Shelf.Ren := ⟨fun | 231 => 58 | n => n, fun | 9 => 9 | 5 => 5 | 3 => 3 | 4 => 4 | n => n, fun | n => n⟩
theorem Tryd.lays231 : Go.Proofs.Lays.n231 Tryd.prog Tryd.lays231_ren := {
  mixed := by kernel_rfl
  f231 := Tryd.func58.trans (congrArg some (by kernel_rfl))
  t3 := Tryd.underlying3
  a3 := Tryd.isAgg3
  z3 := Tryd.sizeOf3
  v3 := Tryd.zeroValue3
  t4 := Tryd.underlying4
  a4 := Tryd.isAgg4
  z4 := Tryd.sizeOf4
  v4 := Tryd.zeroValue4
  t5 := Tryd.underlying5
  a5 := Tryd.isAgg5
  z5 := Tryd.sizeOf5
  v5 := Tryd.zeroValue5
  t9 := Tryd.underlying9
  a9 := Tryd.isAgg9
  z9 := Tryd.sizeOf9
  v9 := Tryd.zeroValue9 }
open Go.RowKit in
/-- strings.trimLeftByte (no doc; what TrimLeft and Trim call at a cutset of one ASCII byte): the leading bytes that are c are cut off. The world is as it was. (LAID: no walk: one application.) -/
theorem Tryd.strings_trimLeftByte (s : ByteArray) (c : UInt8) (w : World) :
    Calls Tryd.prog 58 #[.string s, .int .u8 c.toNat] w fun e w' => e = .returned (.string ⟨(Lib.trimLeftB s.data.toList c).toArray⟩) ∧ w' = w := Any.strings_trimLeftByte Tryd.lays231 s c w
def Tryd.lays161_ren : Go.Shelf.Ren := ⟨fun | 161 => 37 | 231 => 58 | 227 => 59 | 233 => 60 | 235 => 61 | 228 => 82 | 197 => 83 | 151 => 84 | 260 => 95 | 152 => 80 | 137 => 91 | 119 => 92 | 224 => 93 | 225 => 94 | 217 => 98 | 266 => 100 | n => n, fun | 9 => 9 | 4 => 4 | 3 => 3 | 5 => 5 | 117 => 83 | 116 => 82 | 0 => 0 | 124 => 86 | 105 => 105 | 21 => 21 | 119 => 118 | 46 => 60 | 139 => 121 | 138 => 120 | n => n, fun | 3 => 1 | 4 => 2 | n => n⟩
theorem Tryd.lays161 : Go.Proofs.Lays.n161 Tryd.prog Tryd.lays161_ren := {
  mixed := by kernel_rfl
  f119 := Tryd.func92.trans (congrArg some (by kernel_rfl))
  f137 := Tryd.func91.trans (congrArg some (by kernel_rfl))
  f151 := Tryd.func84.trans (congrArg some (by kernel_rfl))
  f152 := Tryd.func80.trans (congrArg some (by kernel_rfl))
  f161 := Tryd.func37.trans (congrArg some (by kernel_rfl))
  f197 := Tryd.func83.trans (congrArg some (by kernel_rfl))
  f217 := Tryd.func98.trans (congrArg some (by kernel_rfl))
  f224 := Tryd.func93.trans (congrArg some (by kernel_rfl))
  f225 := Tryd.func94.trans (congrArg some (by kernel_rfl))
  f227 := Tryd.func59.trans (congrArg some (by kernel_rfl))
  f228 := Tryd.func82.trans (congrArg some (by kernel_rfl))
  f231 := Tryd.func58.trans (congrArg some (by kernel_rfl))
  f233 := Tryd.func60.trans (congrArg some (by kernel_rfl))
  f235 := Tryd.func61.trans (congrArg some (by kernel_rfl))
  f260 := Tryd.func95.trans (congrArg some (by kernel_rfl))
  f266 := Tryd.func100.trans (congrArg some (by kernel_rfl))
  t0 := Tryd.underlying0
  a0 := Tryd.isAgg0
  z0 := Tryd.sizeOf0
  v0 := Tryd.zeroValue0
  t3 := Tryd.underlying3
  a3 := Tryd.isAgg3
  z3 := Tryd.sizeOf3
  v3 := Tryd.zeroValue3
  t4 := Tryd.underlying4
  a4 := Tryd.isAgg4
  z4 := Tryd.sizeOf4
  v4 := Tryd.zeroValue4
  t5 := Tryd.underlying5
  a5 := Tryd.isAgg5
  z5 := Tryd.sizeOf5
  v5 := Tryd.zeroValue5
  t9 := Tryd.underlying9
  a9 := Tryd.isAgg9
  z9 := Tryd.sizeOf9
  v9 := Tryd.zeroValue9
  t21 := Tryd.underlying21
  a21 := Tryd.isAgg21
  z21 := Tryd.sizeOf21
  v21 := Tryd.zeroValue21
  t46 := Tryd.underlying60
  a46 := Tryd.isAgg60
  z46 := Tryd.sizeOf60
  v46 := Tryd.zeroValue60
  t105 := Tryd.underlying105
  a105 := Tryd.isAgg105
  z105 := Tryd.sizeOf105
  v105 := Tryd.zeroValue105
  t116 := Tryd.underlying82
  a116 := Tryd.isAgg82
  z116 := Tryd.sizeOf82
  t117 := Tryd.underlying83
  a117 := Tryd.isAgg83
  z117 := Tryd.sizeOf83
  v117 := Tryd.zeroValue83
  t119 := Tryd.underlying118
  a119 := Tryd.isAgg118
  z119 := Tryd.sizeOf118
  t124 := Tryd.underlying86
  a124 := Tryd.isAgg86
  z124 := Tryd.sizeOf86
  v124 := Tryd.zeroValue86
  t138 := Tryd.underlying120
  a138 := Tryd.isAgg120
  z138 := Tryd.sizeOf120
  v138 := Tryd.zeroValue120
  t139 := Tryd.underlying121
  a139 := Tryd.isAgg121
  z139 := Tryd.sizeOf121
  v139 := Tryd.zeroValue121
  g3 := by kernel_rfl
  g4 := by kernel_rfl }
open Go.RowKit in
/-- strings.TrimLeft: "TrimLeft returns a slice of the string s with all leading Unicode code points contained in cutset removed.": AT A cutset OF ONE ASCII BYTE. The world is as it was. (LAID: no walk: one application.) -/
theorem Tryd.strings_TrimLeft_one (s : ByteArray) (c : UInt8) (hc : c.toNat < 128) (w : World) :
    Calls Tryd.prog 37 #[.string s, .string ⟨#[c]⟩] w fun e w' => e = .returned (.string ⟨(Lib.trimLeftB s.data.toList c).toArray⟩) ∧ w' = w := Any.strings_TrimLeft_one Tryd.lays161 s c hc w
def Tryd.lays119_ren : Go.Shelf.Ren := ⟨fun | 119 => 92 | n => n, fun | 21 => 21 | 4 => 4 | n => n, fun | n => n⟩
theorem Tryd.lays119 : Go.Proofs.Lays.n119 Tryd.prog Tryd.lays119_ren := {
  mixed := by kernel_rfl
  f119 := Tryd.func92.trans (congrArg some (by kernel_rfl))
  t4 := Tryd.underlying4
  a4 := Tryd.isAgg4
  z4 := Tryd.sizeOf4
  v4 := Tryd.zeroValue4
  t21 := Tryd.underlying21
  a21 := Tryd.isAgg21
  z21 := Tryd.sizeOf21
  v21 := Tryd.zeroValue21 }
/-- utf8.ValidRune: "ValidRune reports whether r can be legally encoded as UTF-8. Code points that are out of range or a surrogate half are illegal.": IT RETURNS 'Lib.validRune r'; the world is as it was. (LAID: no walk: one application.) -/
theorem Tryd.utf8_ValidRune (r : Int) (w : World) :
    Calls Tryd.prog 92 #[.int .i32 r] w fun e w' => e = .returned (.bool (Lib.validRune r)) ∧ w' = w := Any.utf8_ValidRune Tryd.lays119 r w
def Tryd.lays128_ren : Go.Shelf.Ren := ⟨fun | 128 => 54 | n => n, fun | 51 => 77 | 3 => 3 | 4 => 4 | 46 => 60 | 5 => 5 | 9 => 9 | n => n, fun | n => n⟩
theorem Tryd.lays128 : Go.Proofs.Lays.n128 Tryd.prog Tryd.lays128_ren := {
  mixed := by kernel_rfl
  f128 := Tryd.func54.trans (congrArg some (by kernel_rfl))
  t3 := Tryd.underlying3
  a3 := Tryd.isAgg3
  z3 := Tryd.sizeOf3
  v3 := Tryd.zeroValue3
  t4 := Tryd.underlying4
  a4 := Tryd.isAgg4
  z4 := Tryd.sizeOf4
  v4 := Tryd.zeroValue4
  t5 := Tryd.underlying5
  a5 := Tryd.isAgg5
  z5 := Tryd.sizeOf5
  v5 := Tryd.zeroValue5
  t9 := Tryd.underlying9
  a9 := Tryd.isAgg9
  z9 := Tryd.sizeOf9
  v9 := Tryd.zeroValue9
  t46 := Tryd.underlying60
  a46 := Tryd.isAgg60
  z46 := Tryd.sizeOf60
  v46 := Tryd.zeroValue60
  t51 := Tryd.underlying77
  a51 := Tryd.isAgg77
  z51 := Tryd.sizeOf77
  v51 := Tryd.zeroValue77 }
/-- bits.Len32: "Len32 returns the minimum number of bits required to represent x; the result is 0 for x == 0.": IT RETURNS 'Lib.bitLen x'; the world is as it was. ('h0', 'h1': x is a uint32.) (LAID: no walk: one application.) -/
theorem Tryd.bits_Len32 (x : Int) (w : World) (h0 : 0 ≤ x) (h1 : x ≤ 4294967295) :
    Calls Tryd.prog 54 #[.int .u32 x] w fun e w' => e = .returned (.int .i64 (Lib.bitLen x.toNat)) ∧ w' = w := Any.bits_Len32 Tryd.lays128 x w h0 h1
def Tryd.lays125_ren : Go.Shelf.Ren := ⟨fun | 125 => 32 | 128 => 54 | 129 => 55 | n => n, fun | 46 => 60 | 3 => 3 | 51 => 77 | 53 => 79 | 4 => 4 | 5 => 5 | 9 => 9 | n => n, fun | n => n⟩
theorem Tryd.lays125 : Go.Proofs.Lays.n125 Tryd.prog Tryd.lays125_ren := {
  mixed := by kernel_rfl
  f125 := Tryd.func32.trans (congrArg some (by kernel_rfl))
  f128 := Tryd.func54.trans (congrArg some (by kernel_rfl))
  f129 := Tryd.func55.trans (congrArg some (by kernel_rfl))
  t3 := Tryd.underlying3
  a3 := Tryd.isAgg3
  z3 := Tryd.sizeOf3
  v3 := Tryd.zeroValue3
  t4 := Tryd.underlying4
  a4 := Tryd.isAgg4
  z4 := Tryd.sizeOf4
  v4 := Tryd.zeroValue4
  t5 := Tryd.underlying5
  a5 := Tryd.isAgg5
  z5 := Tryd.sizeOf5
  v5 := Tryd.zeroValue5
  t9 := Tryd.underlying9
  a9 := Tryd.isAgg9
  z9 := Tryd.sizeOf9
  v9 := Tryd.zeroValue9
  t46 := Tryd.underlying60
  a46 := Tryd.isAgg60
  z46 := Tryd.sizeOf60
  v46 := Tryd.zeroValue60
  t51 := Tryd.underlying77
  a51 := Tryd.isAgg77
  z51 := Tryd.sizeOf77
  v51 := Tryd.zeroValue77
  t53 := Tryd.underlying79
  a53 := Tryd.isAgg79
  z53 := Tryd.sizeOf79
  v53 := Tryd.zeroValue79 }
/-- bits.Len: "Len returns the minimum number of bits required to represent x; the result is 0 for x == 0.": IT RETURNS 'Lib.bitLen x'; the world is as it was. (A uint has 64 bits in the model.) ITS CALLEE bits.Len64 IS MET BY ITS OWN CONTRACT OFF THE SHELF (lay that first). (LAID: no walk: one application.) -/
theorem Tryd.bits_Len (x : Int) (w : World) (h0 : 0 ≤ x) (h1 : x ≤ 18446744073709551615) :
    Calls Tryd.prog 32 #[.int .u64 x] w fun e w' => e = .returned (.int .i64 (Lib.bitLen x.toNat)) ∧ w' = w := Any.bits_Len Tryd.lays125 x w h0 h1
def Tryd.lays137_ren : Go.Shelf.Ren := ⟨fun | 137 => 91 | 217 => 98 | 266 => 100 | n => n, fun | 9 => 9 | 5 => 5 | 3 => 3 | n => n, fun | n => n⟩
theorem Tryd.lays137 : Go.Proofs.Lays.n137 Tryd.prog Tryd.lays137_ren := {
  mixed := by kernel_rfl
  f137 := Tryd.func91.trans (congrArg some (by kernel_rfl))
  f217 := Tryd.func98.trans (congrArg some (by kernel_rfl))
  f266 := Tryd.func100.trans (congrArg some (by kernel_rfl))
  t3 := Tryd.underlying3
  a3 := Tryd.isAgg3
  z3 := Tryd.sizeOf3
  v3 := Tryd.zeroValue3
  t5 := Tryd.underlying5
  a5 := Tryd.isAgg5
  z5 := Tryd.sizeOf5
  v5 := Tryd.zeroValue5
  t9 := Tryd.underlying9
  a9 := Tryd.isAgg9
  z9 := Tryd.sizeOf9
  v9 := Tryd.zeroValue9 }
open Go.RowKit in
/-- strings.IndexByte: "IndexByte returns the index of the first instance of c in s, or -1 if c is not present in s.": IT RETURNS 'Lib.indexByte s c'; the world is as it was. (LAID: no walk: one application.) -/
theorem Tryd.strings_IndexByte (s : ByteArray) (c : Int) (w : World) :
    Calls Tryd.prog 91 #[.string s, .int .u8 c] w fun e w' => e = .returned (.int .i64 (Lib.indexByte s.data.toList c.toNat.toUInt8)) ∧ w' = w := Any.strings_IndexByte Tryd.lays137 s c w
def Tryd.lays129_ren : Go.Shelf.Ren := ⟨fun | 129 => 55 | n => n, fun | 53 => 79 | 3 => 3 | 4 => 4 | 46 => 60 | 5 => 5 | 9 => 9 | n => n, fun | n => n⟩
theorem Tryd.lays129 : Go.Proofs.Lays.n129 Tryd.prog Tryd.lays129_ren := {
  mixed := by kernel_rfl
  f129 := Tryd.func55.trans (congrArg some (by kernel_rfl))
  t3 := Tryd.underlying3
  a3 := Tryd.isAgg3
  z3 := Tryd.sizeOf3
  v3 := Tryd.zeroValue3
  t4 := Tryd.underlying4
  a4 := Tryd.isAgg4
  z4 := Tryd.sizeOf4
  v4 := Tryd.zeroValue4
  t5 := Tryd.underlying5
  a5 := Tryd.isAgg5
  z5 := Tryd.sizeOf5
  v5 := Tryd.zeroValue5
  t9 := Tryd.underlying9
  a9 := Tryd.isAgg9
  z9 := Tryd.sizeOf9
  v9 := Tryd.zeroValue9
  t46 := Tryd.underlying60
  a46 := Tryd.isAgg60
  z46 := Tryd.sizeOf60
  v46 := Tryd.zeroValue60
  t53 := Tryd.underlying79
  a53 := Tryd.isAgg79
  z53 := Tryd.sizeOf79
  v53 := Tryd.zeroValue79 }
/-- bits.Len64: "Len64 returns the minimum number of bits required to represent x; the result is 0 for x == 0.": IT RETURNS 'Lib.bitLen x'; the world is as it was. ('h0', 'h1': x is a uint64.) (LAID: no walk: one application.) -/
theorem Tryd.bits_Len64 (x : Int) (w : World) (h0 : 0 ≤ x) (h1 : x ≤ 18446744073709551615) :
    Calls Tryd.prog 55 #[.int .u64 x] w fun e w' => e = .returned (.int .i64 (Lib.bitLen x.toNat)) ∧ w' = w := Any.bits_Len64 Tryd.lays129 x w h0 h1
def Tryd.lays217_ren : Go.Shelf.Ren := ⟨fun | 217 => 98 | 266 => 100 | n => n, fun | 9 => 9 | 5 => 5 | 3 => 3 | n => n, fun | n => n⟩
theorem Tryd.lays217 : Go.Proofs.Lays.n217 Tryd.prog Tryd.lays217_ren := {
  mixed := by kernel_rfl
  f217 := Tryd.func98.trans (congrArg some (by kernel_rfl))
  f266 := Tryd.func100.trans (congrArg some (by kernel_rfl))
  t3 := Tryd.underlying3
  a3 := Tryd.isAgg3
  z3 := Tryd.sizeOf3
  v3 := Tryd.zeroValue3
  t5 := Tryd.underlying5
  a5 := Tryd.isAgg5
  z5 := Tryd.sizeOf5
  v5 := Tryd.zeroValue5
  t9 := Tryd.underlying9
  a9 := Tryd.isAgg9
  z9 := Tryd.sizeOf9
  v9 := Tryd.zeroValue9 }
open Go.RowKit Go.Lib in
/-- internal/stringslite.IndexByte (what strings.IndexByte calls): IT RETURNS 'Lib.indexByte s c'; the world is as it was. (LAID: no walk: one application.) -/
theorem Tryd.stringslite_IndexByte (s : ByteArray) (c : Int) (w : World) :
    Calls Tryd.prog 98 #[.string s, .int .u8 c] w fun e w' => e = .returned (.int .i64 (Lib.indexByte s.data.toList c.toNat.toUInt8)) ∧ w' = w := Any.stringslite_IndexByte Tryd.lays217 s c w
def Tryd.lays224_ren : Go.Shelf.Ren := ⟨fun | 224 => 93 | n => n, fun | 3 => 3 | n => n, fun | n => n⟩
theorem Tryd.lays224 : Go.Proofs.Lays.n224 Tryd.prog Tryd.lays224_ren := {
  mixed := by kernel_rfl
  f224 := Tryd.func93.trans (congrArg some (by kernel_rfl))
  t3 := Tryd.underlying3
  a3 := Tryd.isAgg3
  z3 := Tryd.sizeOf3
  v3 := Tryd.zeroValue3 }
open Go.RowKit Go.Lib in
/-- internal/bytealg.Cutover: "Cutover reports the number of failures of IndexByte we should tolerate before switching over to Index. n is the number of bytes processed so far.": on amd64: (n + 16) / 8. (LAID: no walk: one application.) -/
theorem Tryd.bytealg_Cutover (n : Int) (h0 : 0 ≤ n) (h1 : n < 4611686018427387904) (w : World) :
    Calls Tryd.prog 93 #[.int .i64 n] w fun e w' => e = .returned (.int .i64 ((n + 16) / 8)) ∧ w' = w := Any.bytealg_Cutover Tryd.lays224 n h0 h1 w
def Tryd.lays314_ren : Go.Shelf.Ren := ⟨fun | 314 => 101 | n => n, fun | 9 => 9 | 51 => 77 | 3 => 3 | 4 => 4 | 5 => 5 | 46 => 60 | n => n, fun | n => n⟩
theorem Tryd.lays314 : Go.Proofs.Lays.n314 Tryd.prog Tryd.lays314_ren := {
  mixed := by kernel_rfl
  f314 := Tryd.func101.trans (congrArg some (by kernel_rfl))
  t3 := Tryd.underlying3
  a3 := Tryd.isAgg3
  z3 := Tryd.sizeOf3
  v3 := Tryd.zeroValue3
  t4 := Tryd.underlying4
  a4 := Tryd.isAgg4
  z4 := Tryd.sizeOf4
  v4 := Tryd.zeroValue4
  t5 := Tryd.underlying5
  a5 := Tryd.isAgg5
  z5 := Tryd.sizeOf5
  v5 := Tryd.zeroValue5
  t9 := Tryd.underlying9
  a9 := Tryd.isAgg9
  z9 := Tryd.sizeOf9
  v9 := Tryd.zeroValue9
  t46 := Tryd.underlying60
  a46 := Tryd.isAgg60
  z46 := Tryd.sizeOf60
  v46 := Tryd.zeroValue60
  t51 := Tryd.underlying77
  a51 := Tryd.isAgg77
  z51 := Tryd.sizeOf77
  v51 := Tryd.zeroValue77 }
open Go.RowKit Go.Lib in
/-- hashStr: "returns the hash and the appropriate multiplicative factor for use in Rabin-Karp algorithm": THE HASH OF ALL OF sep, AND 16777619 ^ len(sep), both in uint32. (LAID: no walk: one application.) -/
theorem Tryd.bytealg_hashStr (sep : ByteArray) (hs : sep.size < 4294967281) (w : World) :
    Calls Tryd.prog 101 #[.string sep] w fun e w' => e = .returned (.tuple #[.int .u32 (RK.H sep.data.toList % 4294967296), .int .u32 (16777619 ^ sep.size % 4294967296)]) ∧ w' = w := Any.bytealg_hashStr Tryd.lays314 sep hs w
def Tryd.lays267_ren : Go.Shelf.Ren := ⟨fun | 267 => 99 | 314 => 101 | n => n, fun | 9 => 9 | 3 => 3 | 146 => 122 | 51 => 77 | 4 => 4 | 5 => 5 | 46 => 60 | n => n, fun | n => n⟩
theorem Tryd.lays267 : Go.Proofs.Lays.n267 Tryd.prog Tryd.lays267_ren := {
  mixed := by kernel_rfl
  f267 := Tryd.func99.trans (congrArg some (by kernel_rfl))
  f314 := Tryd.func101.trans (congrArg some (by kernel_rfl))
  t3 := Tryd.underlying3
  a3 := Tryd.isAgg3
  z3 := Tryd.sizeOf3
  v3 := Tryd.zeroValue3
  t4 := Tryd.underlying4
  a4 := Tryd.isAgg4
  z4 := Tryd.sizeOf4
  v4 := Tryd.zeroValue4
  t5 := Tryd.underlying5
  a5 := Tryd.isAgg5
  z5 := Tryd.sizeOf5
  v5 := Tryd.zeroValue5
  t9 := Tryd.underlying9
  a9 := Tryd.isAgg9
  z9 := Tryd.sizeOf9
  v9 := Tryd.zeroValue9
  t46 := Tryd.underlying60
  a46 := Tryd.isAgg60
  z46 := Tryd.sizeOf60
  v46 := Tryd.zeroValue60
  t51 := Tryd.underlying77
  a51 := Tryd.isAgg77
  z51 := Tryd.sizeOf77
  v51 := Tryd.zeroValue77
  t146 := Tryd.underlying122
  a146 := Tryd.isAgg122
  z146 := Tryd.sizeOf122
  v146 := Tryd.zeroValue122 }
open Go.RowKit Go.Lib in
theorem Tryd.bytealg_IndexRabinKarp (s sep : ByteArray) (h1 : 1 ≤ sep.size) (h2 : sep.size ≤ s.size) (hs : s.size < 4294967281) (w : World) :
    Calls Tryd.prog 99 #[.string s, .string sep] w fun e w' => e = .returned (.int .i64 (Lib.index s.data.toList sep.data.toList)) ∧ w' = w := Any.bytealg_IndexRabinKarp Tryd.lays267 s sep h1 h2 hs w
def Tryd.lays219_ren : Go.Shelf.Ren := ⟨fun | 219 => 96 | 217 => 98 | 225 => 94 | 224 => 93 | 267 => 99 | 266 => 100 | 314 => 101 | n => n, fun | 9 => 9 | 3 => 3 | 4 => 4 | 5 => 5 | 46 => 60 | 146 => 122 | 51 => 77 | n => n, fun | 1 => 0 | n => n⟩
theorem Tryd.lays219 : Go.Proofs.Lays.n219 Tryd.prog Tryd.lays219_ren := {
  mixed := by kernel_rfl
  f217 := Tryd.func98.trans (congrArg some (by kernel_rfl))
  f219 := Tryd.func96.trans (congrArg some (by kernel_rfl))
  f224 := Tryd.func93.trans (congrArg some (by kernel_rfl))
  f225 := Tryd.func94.trans (congrArg some (by kernel_rfl))
  f266 := Tryd.func100.trans (congrArg some (by kernel_rfl))
  f267 := Tryd.func99.trans (congrArg some (by kernel_rfl))
  f314 := Tryd.func101.trans (congrArg some (by kernel_rfl))
  t3 := Tryd.underlying3
  a3 := Tryd.isAgg3
  z3 := Tryd.sizeOf3
  v3 := Tryd.zeroValue3
  t4 := Tryd.underlying4
  a4 := Tryd.isAgg4
  z4 := Tryd.sizeOf4
  v4 := Tryd.zeroValue4
  t5 := Tryd.underlying5
  a5 := Tryd.isAgg5
  z5 := Tryd.sizeOf5
  v5 := Tryd.zeroValue5
  t9 := Tryd.underlying9
  a9 := Tryd.isAgg9
  z9 := Tryd.sizeOf9
  v9 := Tryd.zeroValue9
  t46 := Tryd.underlying60
  a46 := Tryd.isAgg60
  z46 := Tryd.sizeOf60
  v46 := Tryd.zeroValue60
  t51 := Tryd.underlying77
  a51 := Tryd.isAgg77
  z51 := Tryd.sizeOf77
  v51 := Tryd.zeroValue77
  t146 := Tryd.underlying122
  a146 := Tryd.isAgg122
  z146 := Tryd.sizeOf122
  v146 := Tryd.zeroValue122
  g1 := by kernel_rfl }
open Go.RowKit Go.Lib in
/-- internal/stringslite.Index (what strings.Index calls) AT A substr OF ONE BYTE c: IT RETURNS 'Lib.indexByte s c'; the world is as it was. (LAID: no walk: one application.) -/
theorem Tryd.stringslite_Index_one (s : ByteArray) (c : UInt8) (w : World) :
    Calls Tryd.prog 96 #[.string s, .string ⟨#[c]⟩] w fun e w' => e = .returned (.int .i64 (Lib.indexByte s.data.toList c)) ∧ w' = w := Any.stringslite_Index_one Tryd.lays219 s c w
open Go.RowKit Go.Lib in
/-- internal/stringslite.Index (what strings.Index calls) AT A substr OF WHATEVER LENGTH: IT RETURNS 'Lib.index s substr'; the world is as it was. 'm': what internal/bytealg.MaxLen holds: whatever. (LAID: no walk: one application.) -/
theorem Tryd.stringslite_Index (s sub : ByteArray) (m : Int) (w : World) (hs : s.size < 4294967281) (hm : w.cell? ⟨0, 0, none⟩ = some (.int .i64 m)) :
    Calls Tryd.prog 96 #[.string s, .string sub] w fun e w' => e = .returned (.int .i64 (Lib.index s.data.toList sub.data.toList)) ∧ w' = w := Any.stringslite_Index Tryd.lays219 s sub m w hs hm
def Tryd.lays220_ren : Go.Shelf.Ren := ⟨fun | 220 => 85 | 219 => 96 | 217 => 98 | 225 => 94 | 224 => 93 | 267 => 99 | 266 => 100 | 314 => 101 | n => n, fun | 9 => 9 | 4 => 4 | 3 => 3 | 5 => 5 | 46 => 60 | 146 => 122 | 51 => 77 | n => n, fun | 1 => 0 | n => n⟩
theorem Tryd.lays220 : Go.Proofs.Lays.n220 Tryd.prog Tryd.lays220_ren := {
  mixed := by kernel_rfl
  f217 := Tryd.func98.trans (congrArg some (by kernel_rfl))
  f219 := Tryd.func96.trans (congrArg some (by kernel_rfl))
  f220 := Tryd.func85.trans (congrArg some (by kernel_rfl))
  f224 := Tryd.func93.trans (congrArg some (by kernel_rfl))
  f225 := Tryd.func94.trans (congrArg some (by kernel_rfl))
  f266 := Tryd.func100.trans (congrArg some (by kernel_rfl))
  f267 := Tryd.func99.trans (congrArg some (by kernel_rfl))
  f314 := Tryd.func101.trans (congrArg some (by kernel_rfl))
  t3 := Tryd.underlying3
  a3 := Tryd.isAgg3
  z3 := Tryd.sizeOf3
  v3 := Tryd.zeroValue3
  t4 := Tryd.underlying4
  a4 := Tryd.isAgg4
  z4 := Tryd.sizeOf4
  v4 := Tryd.zeroValue4
  t5 := Tryd.underlying5
  a5 := Tryd.isAgg5
  z5 := Tryd.sizeOf5
  v5 := Tryd.zeroValue5
  t9 := Tryd.underlying9
  a9 := Tryd.isAgg9
  z9 := Tryd.sizeOf9
  v9 := Tryd.zeroValue9
  t46 := Tryd.underlying60
  a46 := Tryd.isAgg60
  z46 := Tryd.sizeOf60
  v46 := Tryd.zeroValue60
  t51 := Tryd.underlying77
  a51 := Tryd.isAgg77
  z51 := Tryd.sizeOf77
  v51 := Tryd.zeroValue77
  t146 := Tryd.underlying122
  a146 := Tryd.isAgg122
  z146 := Tryd.sizeOf122
  v146 := Tryd.zeroValue122
  g1 := by kernel_rfl }
open Go.RowKit Go.Lib in
/-- internal/stringslite.Cut (what strings.Cut calls): IT RETURNS 'Lib.cut s sep'; the world is as it was but for the count of draws. (LAID: no walk: one application.) -/
theorem Tryd.stringslite_Cut (s sep : ByteArray) (m : Int) (w : World) (hs : s.size < 4294967281) (hm : w.cell? ⟨0, 0, none⟩ = some (.int .i64 m)) :
    Calls Tryd.prog 85 #[.string s, .string sep] w fun e w' => e = .returned (.tuple #[.string ⟨(Lib.cut s.data.toList sep.data.toList).1.toArray⟩, .string ⟨(Lib.cut s.data.toList sep.data.toList).2.1.toArray⟩, .bool (Lib.cut s.data.toList sep.data.toList).2.2]) ∧ ∃ n, w' = w.drewN n := Any.stringslite_Cut Tryd.lays220 s sep m w hs hm
def Tryd.lays145_ren : Go.Shelf.Ren := ⟨fun | 145 => 62 | 220 => 85 | 219 => 96 | 217 => 98 | 225 => 94 | 224 => 93 | 267 => 99 | 266 => 100 | 314 => 101 | n => n, fun | 9 => 9 | 4 => 4 | 59 => 87 | 3 => 3 | 5 => 5 | 46 => 60 | 146 => 122 | 51 => 77 | n => n, fun | 1 => 0 | n => n⟩
theorem Tryd.lays145 : Go.Proofs.Lays.n145 Tryd.prog Tryd.lays145_ren := {
  mixed := by kernel_rfl
  f145 := Tryd.func62.trans (congrArg some (by kernel_rfl))
  f217 := Tryd.func98.trans (congrArg some (by kernel_rfl))
  f219 := Tryd.func96.trans (congrArg some (by kernel_rfl))
  f220 := Tryd.func85.trans (congrArg some (by kernel_rfl))
  f224 := Tryd.func93.trans (congrArg some (by kernel_rfl))
  f225 := Tryd.func94.trans (congrArg some (by kernel_rfl))
  f266 := Tryd.func100.trans (congrArg some (by kernel_rfl))
  f267 := Tryd.func99.trans (congrArg some (by kernel_rfl))
  f314 := Tryd.func101.trans (congrArg some (by kernel_rfl))
  t3 := Tryd.underlying3
  a3 := Tryd.isAgg3
  z3 := Tryd.sizeOf3
  v3 := Tryd.zeroValue3
  t4 := Tryd.underlying4
  a4 := Tryd.isAgg4
  z4 := Tryd.sizeOf4
  v4 := Tryd.zeroValue4
  t5 := Tryd.underlying5
  a5 := Tryd.isAgg5
  z5 := Tryd.sizeOf5
  v5 := Tryd.zeroValue5
  t9 := Tryd.underlying9
  a9 := Tryd.isAgg9
  z9 := Tryd.sizeOf9
  v9 := Tryd.zeroValue9
  t46 := Tryd.underlying60
  a46 := Tryd.isAgg60
  z46 := Tryd.sizeOf60
  v46 := Tryd.zeroValue60
  t51 := Tryd.underlying77
  a51 := Tryd.isAgg77
  z51 := Tryd.sizeOf77
  v51 := Tryd.zeroValue77
  t59 := Tryd.underlying87
  a59 := Tryd.isAgg87
  z59 := Tryd.sizeOf87
  v59 := Tryd.zeroValue87
  t146 := Tryd.underlying122
  a146 := Tryd.isAgg122
  z146 := Tryd.sizeOf122
  v146 := Tryd.zeroValue122
  g1 := by kernel_rfl }
open Go.RowKit Go.Lib in
/-- strings.Cut: "Cut slices s around the first instance of sep, returning the text before and after sep. The found result reports whether sep appears in s. If sep does not appear in s, cut returns s, "", false.": IT RETURNS 'Lib.cut s sep'; the world is as it was but for the count of draws. (LAID: no walk: one application.) -/
theorem Tryd.strings_Cut (s sep : ByteArray) (m : Int) (w : World) (hs : s.size < 4294967281) (hm : w.cell? ⟨0, 0, none⟩ = some (.int .i64 m)) :
    Calls Tryd.prog 62 #[.string s, .string sep] w fun e w' => e = .returned (.tuple #[.string ⟨(Lib.cut s.data.toList sep.data.toList).1.toArray⟩, .string ⟨(Lib.cut s.data.toList sep.data.toList).2.1.toArray⟩, .bool (Lib.cut s.data.toList sep.data.toList).2.2]) ∧ ∃ n, w' = w.drewN n := Any.strings_Cut Tryd.lays145 s sep m w hs hm
def Tryd.laysM219_ren : Go.Shelf.Ren := ⟨fun | 219 => 96 | 217 => 98 | 225 => 94 | 224 => 93 | 267 => 99 | 266 => 100 | 314 => 101 | n => n, fun | 9 => 9 | 3 => 3 | 4 => 4 | 5 => 5 | 46 => 60 | 146 => 122 | 51 => 77 | n => n, fun | 1 => 0 | n => n⟩
theorem Tryd.laysM219 : Go.Proofs.LaysM.n219 Tryd.prog Tryd.laysM219_ren := {
  mixed := by kernel_rfl
  f217 := Tryd.func98.trans (congrArg some (by kernel_rfl))
  f219 := Tryd.func96.trans (congrArg some (by kernel_rfl))
  f224 := Tryd.func93.trans (congrArg some (by kernel_rfl))
  f225 := Tryd.func94.trans (congrArg some (by kernel_rfl))
  f266 := Tryd.func100.trans (congrArg some (by kernel_rfl))
  f267 := Tryd.func99.trans (congrArg some (by kernel_rfl))
  f314 := Tryd.func101.trans (congrArg some (by kernel_rfl))
  t3 := Tryd.underlying3
  a3 := Tryd.isAgg3
  z3 := Tryd.sizeOf3
  v3 := Tryd.zeroValue3
  t4 := Tryd.underlying4
  a4 := Tryd.isAgg4
  z4 := Tryd.sizeOf4
  v4 := Tryd.zeroValue4
  t5 := Tryd.underlying5
  a5 := Tryd.isAgg5
  z5 := Tryd.sizeOf5
  v5 := Tryd.zeroValue5
  t9 := Tryd.underlying9
  a9 := Tryd.isAgg9
  z9 := Tryd.sizeOf9
  v9 := Tryd.zeroValue9
  t46 := Tryd.underlying60
  a46 := Tryd.isAgg60
  z46 := Tryd.sizeOf60
  v46 := Tryd.zeroValue60
  t51 := Tryd.underlying77
  a51 := Tryd.isAgg77
  z51 := Tryd.sizeOf77
  v51 := Tryd.zeroValue77
  t146 := Tryd.underlying122
  a146 := Tryd.isAgg122
  z146 := Tryd.sizeOf122
  v146 := Tryd.zeroValue122
  g1 := by kernel_rfl
  i3 := by kernel_rfl
  i4 := by kernel_rfl
  i5 := by kernel_rfl
  i9 := by kernel_rfl
  i46 := by kernel_rfl
  i51 := by kernel_rfl
  i146 := by kernel_rfl
  m1 := by kernel_rfl
  s1_3 := fun w h => Go.Proofs.cell_of_shapedOpen_int (zero := #[.int .i64 0]) (t := 3) h (of_decide_eq_true (by kernel_rfl)) (by kernel_rfl) rfl (by kernel_rfl) (by kernel_rfl) Tryd.underlying3 }
open Go.RowKit Go.Lib in
theorem Tryd.stringslite_Index_shaped (s sub : ByteArray) (w : World) (h : w.ShapedOpen Tryd.prog) (hs : s.size < 4294967281) :
    Calls Tryd.prog 96 #[.string s, .string sub] w fun e w' => e = .returned (.int .i64 (Lib.index s.data.toList sub.data.toList)) ∧ w' = w := Any.stringslite_Index_shaped Tryd.laysM219 s sub w h hs
def Tryd.laysM220_ren : Go.Shelf.Ren := ⟨fun | 220 => 85 | 219 => 96 | 217 => 98 | 225 => 94 | 224 => 93 | 267 => 99 | 266 => 100 | 314 => 101 | n => n, fun | 9 => 9 | 4 => 4 | 3 => 3 | 5 => 5 | 46 => 60 | 146 => 122 | 51 => 77 | n => n, fun | 1 => 0 | n => n⟩
theorem Tryd.laysM220 : Go.Proofs.LaysM.n220 Tryd.prog Tryd.laysM220_ren := {
  mixed := by kernel_rfl
  f217 := Tryd.func98.trans (congrArg some (by kernel_rfl))
  f219 := Tryd.func96.trans (congrArg some (by kernel_rfl))
  f220 := Tryd.func85.trans (congrArg some (by kernel_rfl))
  f224 := Tryd.func93.trans (congrArg some (by kernel_rfl))
  f225 := Tryd.func94.trans (congrArg some (by kernel_rfl))
  f266 := Tryd.func100.trans (congrArg some (by kernel_rfl))
  f267 := Tryd.func99.trans (congrArg some (by kernel_rfl))
  f314 := Tryd.func101.trans (congrArg some (by kernel_rfl))
  t3 := Tryd.underlying3
  a3 := Tryd.isAgg3
  z3 := Tryd.sizeOf3
  v3 := Tryd.zeroValue3
  t4 := Tryd.underlying4
  a4 := Tryd.isAgg4
  z4 := Tryd.sizeOf4
  v4 := Tryd.zeroValue4
  t5 := Tryd.underlying5
  a5 := Tryd.isAgg5
  z5 := Tryd.sizeOf5
  v5 := Tryd.zeroValue5
  t9 := Tryd.underlying9
  a9 := Tryd.isAgg9
  z9 := Tryd.sizeOf9
  v9 := Tryd.zeroValue9
  t46 := Tryd.underlying60
  a46 := Tryd.isAgg60
  z46 := Tryd.sizeOf60
  v46 := Tryd.zeroValue60
  t51 := Tryd.underlying77
  a51 := Tryd.isAgg77
  z51 := Tryd.sizeOf77
  v51 := Tryd.zeroValue77
  t146 := Tryd.underlying122
  a146 := Tryd.isAgg122
  z146 := Tryd.sizeOf122
  v146 := Tryd.zeroValue122
  g1 := by kernel_rfl
  i3 := by kernel_rfl
  i4 := by kernel_rfl
  i5 := by kernel_rfl
  i9 := by kernel_rfl
  i46 := by kernel_rfl
  i51 := by kernel_rfl
  i146 := by kernel_rfl
  m1 := by kernel_rfl
  s1_3 := fun w h => Go.Proofs.cell_of_shapedOpen_int (zero := #[.int .i64 0]) (t := 3) h (of_decide_eq_true (by kernel_rfl)) (by kernel_rfl) rfl (by kernel_rfl) (by kernel_rfl) Tryd.underlying3 }
open Go.RowKit Go.Lib in
theorem Tryd.stringslite_Cut_shaped (s sep : ByteArray) (w : World) (h : w.ShapedOpen Tryd.prog) (hs : s.size < 4294967281) :
    Calls Tryd.prog 85 #[.string s, .string sep] w fun e w' => e = .returned (.tuple #[.string ⟨(Lib.cut s.data.toList sep.data.toList).1.toArray⟩, .string ⟨(Lib.cut s.data.toList sep.data.toList).2.1.toArray⟩, .bool (Lib.cut s.data.toList sep.data.toList).2.2]) ∧ ∃ n, w' = w.drewN n := Any.stringslite_Cut_shaped Tryd.laysM220 s sep w h hs
def Tryd.laysM145_ren : Go.Shelf.Ren := ⟨fun | 145 => 62 | 220 => 85 | 219 => 96 | 217 => 98 | 225 => 94 | 224 => 93 | 267 => 99 | 266 => 100 | 314 => 101 | n => n, fun | 9 => 9 | 4 => 4 | 59 => 87 | 3 => 3 | 5 => 5 | 46 => 60 | 146 => 122 | 51 => 77 | n => n, fun | 1 => 0 | n => n⟩
theorem Tryd.laysM145 : Go.Proofs.LaysM.n145 Tryd.prog Tryd.laysM145_ren := {
  mixed := by kernel_rfl
  f145 := Tryd.func62.trans (congrArg some (by kernel_rfl))
  f217 := Tryd.func98.trans (congrArg some (by kernel_rfl))
  f219 := Tryd.func96.trans (congrArg some (by kernel_rfl))
  f220 := Tryd.func85.trans (congrArg some (by kernel_rfl))
  f224 := Tryd.func93.trans (congrArg some (by kernel_rfl))
  f225 := Tryd.func94.trans (congrArg some (by kernel_rfl))
  f266 := Tryd.func100.trans (congrArg some (by kernel_rfl))
  f267 := Tryd.func99.trans (congrArg some (by kernel_rfl))
  f314 := Tryd.func101.trans (congrArg some (by kernel_rfl))
  t3 := Tryd.underlying3
  a3 := Tryd.isAgg3
  z3 := Tryd.sizeOf3
  v3 := Tryd.zeroValue3
  t4 := Tryd.underlying4
  a4 := Tryd.isAgg4
  z4 := Tryd.sizeOf4
  v4 := Tryd.zeroValue4
  t5 := Tryd.underlying5
  a5 := Tryd.isAgg5
  z5 := Tryd.sizeOf5
  v5 := Tryd.zeroValue5
  t9 := Tryd.underlying9
  a9 := Tryd.isAgg9
  z9 := Tryd.sizeOf9
  v9 := Tryd.zeroValue9
  t46 := Tryd.underlying60
  a46 := Tryd.isAgg60
  z46 := Tryd.sizeOf60
  v46 := Tryd.zeroValue60
  t51 := Tryd.underlying77
  a51 := Tryd.isAgg77
  z51 := Tryd.sizeOf77
  v51 := Tryd.zeroValue77
  t59 := Tryd.underlying87
  a59 := Tryd.isAgg87
  z59 := Tryd.sizeOf87
  v59 := Tryd.zeroValue87
  t146 := Tryd.underlying122
  a146 := Tryd.isAgg122
  z146 := Tryd.sizeOf122
  v146 := Tryd.zeroValue122
  g1 := by kernel_rfl
  i3 := by kernel_rfl
  i4 := by kernel_rfl
  i5 := by kernel_rfl
  i9 := by kernel_rfl
  i46 := by kernel_rfl
  i51 := by kernel_rfl
  i59 := by kernel_rfl
  i146 := by kernel_rfl
  m1 := by kernel_rfl
  s1_3 := fun w h => Go.Proofs.cell_of_shapedOpen_int (zero := #[.int .i64 0]) (t := 3) h (of_decide_eq_true (by kernel_rfl)) (by kernel_rfl) rfl (by kernel_rfl) (by kernel_rfl) Tryd.underlying3 }
open Go.RowKit Go.Lib in
theorem Tryd.strings_Cut_shaped (s sep : ByteArray) (w : World) (h : w.ShapedOpen Tryd.prog) (hs : s.size < 4294967281) :
    Calls Tryd.prog 62 #[.string s, .string sep] w fun e w' => e = .returned (.tuple #[.string ⟨(Lib.cut s.data.toList sep.data.toList).1.toArray⟩, .string ⟨(Lib.cut s.data.toList sep.data.toList).2.1.toArray⟩, .bool (Lib.cut s.data.toList sep.data.toList).2.2]) ∧ ∃ n, w' = w.drewN n := Any.strings_Cut_shaped Tryd.laysM145 s sep w h hs
def Tryd.lays190_ren : Go.Shelf.Ren := ⟨fun | 190 => 14 | 125 => 32 | 258 => 31 | 128 => 54 | 129 => 55 | 302 => 45 | 303 => 46 | 304 => 47 | 305 => 48 | 306 => 49 | 307 => 50 | 308 => 51 | 309 => 52 | 310 => 53 | 333 => 75 | 329 => 76 | 330 => 77 | 334 => 78 | 335 => 79 | 336 => 42 | 344 => 90 | n => n, fun | 31 => 33 | 9 => 9 | 3 => 3 | 46 => 60 | 0 => 0 | 51 => 77 | 53 => 79 | 4 => 4 | 183 => 70 | 182 => 69 | 131 => 74 | 5 => 5 | 218 => 97 | 222 => 101 | 228 => 111 | 229 => 112 | n => n, fun | n => n⟩
theorem Tryd.lays190 : Go.Proofs.Lays.n190 Tryd.prog Tryd.lays190_ren := {
  mixed := by kernel_rfl
  f125 := Tryd.func32.trans (congrArg some (by kernel_rfl))
  f128 := Tryd.func54.trans (congrArg some (by kernel_rfl))
  f129 := Tryd.func55.trans (congrArg some (by kernel_rfl))
  f190 := Tryd.func14.trans (congrArg some (by kernel_rfl))
  f258 := Tryd.func31.trans (congrArg some (by kernel_rfl))
  f302 := Tryd.func45.trans (congrArg some (by kernel_rfl))
  f303 := Tryd.func46.trans (congrArg some (by kernel_rfl))
  f304 := Tryd.func47.trans (congrArg some (by kernel_rfl))
  f305 := Tryd.func48.trans (congrArg some (by kernel_rfl))
  f306 := Tryd.func49.trans (congrArg some (by kernel_rfl))
  f307 := Tryd.func50.trans (congrArg some (by kernel_rfl))
  f308 := Tryd.func51.trans (congrArg some (by kernel_rfl))
  f309 := Tryd.func52.trans (congrArg some (by kernel_rfl))
  f310 := Tryd.func53.trans (congrArg some (by kernel_rfl))
  f329 := Tryd.func76.trans (congrArg some (by kernel_rfl))
  f330 := Tryd.func77.trans (congrArg some (by kernel_rfl))
  f333 := Tryd.func75.trans (congrArg some (by kernel_rfl))
  f334 := Tryd.func78.trans (congrArg some (by kernel_rfl))
  f335 := Tryd.func79.trans (congrArg some (by kernel_rfl))
  f336 := Tryd.func42.trans (congrArg some (by kernel_rfl))
  f344 := Tryd.func90.trans (congrArg some (by kernel_rfl))
  t0 := Tryd.underlying0
  a0 := Tryd.isAgg0
  z0 := Tryd.sizeOf0
  v0 := Tryd.zeroValue0
  t3 := Tryd.underlying3
  a3 := Tryd.isAgg3
  z3 := Tryd.sizeOf3
  v3 := Tryd.zeroValue3
  t4 := Tryd.underlying4
  a4 := Tryd.isAgg4
  z4 := Tryd.sizeOf4
  v4 := Tryd.zeroValue4
  t5 := Tryd.underlying5
  a5 := Tryd.isAgg5
  z5 := Tryd.sizeOf5
  v5 := Tryd.zeroValue5
  t9 := Tryd.underlying9
  a9 := Tryd.isAgg9
  z9 := Tryd.sizeOf9
  v9 := Tryd.zeroValue9
  t31 := Tryd.underlying33
  a31 := Tryd.isAgg33
  z31 := Tryd.sizeOf33
  v31 := Tryd.zeroValue33
  t46 := Tryd.underlying60
  a46 := Tryd.isAgg60
  z46 := Tryd.sizeOf60
  v46 := Tryd.zeroValue60
  t51 := Tryd.underlying77
  a51 := Tryd.isAgg77
  z51 := Tryd.sizeOf77
  v51 := Tryd.zeroValue77
  t53 := Tryd.underlying79
  a53 := Tryd.isAgg79
  z53 := Tryd.sizeOf79
  v53 := Tryd.zeroValue79
  t131 := Tryd.underlying74
  a131 := Tryd.isAgg74
  z131 := Tryd.sizeOf74
  v131 := Tryd.zeroValue74
  t182 := Tryd.underlying69
  a182 := Tryd.isAgg69
  z182 := Tryd.sizeOf69
  v182 := Tryd.zeroValue69
  t183 := Tryd.underlying70
  a183 := Tryd.isAgg70
  z183 := Tryd.sizeOf70
  v183 := Tryd.zeroValue70
  t218 := Tryd.underlying97
  a218 := Tryd.isAgg97
  z218 := Tryd.sizeOf97
  v218 := Tryd.zeroValue97
  t222 := Tryd.underlying101
  a222 := Tryd.isAgg101
  z222 := Tryd.sizeOf101
  v222 := Tryd.zeroValue101
  t228 := Tryd.underlying111
  a228 := Tryd.isAgg111
  z228 := Tryd.sizeOf111
  v228 := Tryd.zeroValue111
  t229 := Tryd.underlying112
  a229 := Tryd.isAgg112
  z229 := Tryd.sizeOf112
  v229 := Tryd.zeroValue112 }
open Go.Sort Go.RowKit in
theorem Tryd.slices_Sort_string (blk off cap : Nat) (ss : List (List UInt8)) (w : World) (hH : Holds encStr w blk off ss.toArray) (hblk : blk < w.heap.size) (hsz : ss.length < 4611686018427387904) :
    Calls Tryd.prog 14 #[.slice (some ⟨blk, off, none⟩) ss.length cap] w fun e w' =>
      e = .returned (.tuple #[]) ∧ ∃ n os, w' = grow (putRow encStr (Sort.ahead w n) blk off (ss.mergeSort fun x y => decide (x ≤ y)).toArray) os := Any.slices_Sort_string Tryd.lays190 blk off cap ss w hH hblk hsz
def Tryd.lays206_ren : Go.Shelf.Ren := ⟨fun | 206 => 57 | n => n, fun | 9 => 9 | 4 => 4 | 3 => 3 | n => n, fun | n => n⟩
theorem Tryd.lays206 : Go.Proofs.Lays.n206 Tryd.prog Tryd.lays206_ren := {
  mixed := by kernel_rfl
  f206 := Tryd.func57.trans (congrArg some (by kernel_rfl))
  t3 := Tryd.underlying3
  a3 := Tryd.isAgg3
  z3 := Tryd.sizeOf3
  v3 := Tryd.zeroValue3
  t4 := Tryd.underlying4
  a4 := Tryd.isAgg4
  z4 := Tryd.sizeOf4
  v4 := Tryd.zeroValue4
  t9 := Tryd.underlying9
  a9 := Tryd.isAgg9
  z9 := Tryd.sizeOf9
  v9 := Tryd.zeroValue9 }
open Go.RowKit Go.Lib in
/-- internal/stringslite.HasPrefix (what strings.HasPrefix calls). (LAID: no walk: one application.) -/
theorem Tryd.stringslite_HasPrefix (s p : ByteArray) (w : World) :
    Calls Tryd.prog 57 #[.string s, .string p] w fun e w' => e = .returned (.bool (Lib.hasPrefix s.data.toList p.data.toList)) ∧ w' = w := Any.stringslite_HasPrefix Tryd.lays206 s p w
def Tryd.lays99_ren : Go.Shelf.Ren := ⟨fun | 99 => 34 | 206 => 57 | n => n, fun | 9 => 9 | 4 => 4 | 3 => 3 | n => n, fun | n => n⟩
theorem Tryd.lays99 : Go.Proofs.Lays.n99 Tryd.prog Tryd.lays99_ren := {
  mixed := by kernel_rfl
  f99 := Tryd.func34.trans (congrArg some (by kernel_rfl))
  f206 := Tryd.func57.trans (congrArg some (by kernel_rfl))
  t3 := Tryd.underlying3
  a3 := Tryd.isAgg3
  z3 := Tryd.sizeOf3
  v3 := Tryd.zeroValue3
  t4 := Tryd.underlying4
  a4 := Tryd.isAgg4
  z4 := Tryd.sizeOf4
  v4 := Tryd.zeroValue4
  t9 := Tryd.underlying9
  a9 := Tryd.isAgg9
  z9 := Tryd.sizeOf9
  v9 := Tryd.zeroValue9 }
open Go.RowKit Go.Lib in
/-- strings.HasPrefix: "HasPrefix reports whether the string s begins with prefix.": IT RETURNS 'Lib.hasPrefix s prefix'; the world is as it was. (LAID: no walk: one application.) -/
theorem Tryd.strings_HasPrefix (s p : ByteArray) (w : World) :
    Calls Tryd.prog 34 #[.string s, .string p] w fun e w' => e = .returned (.bool (Lib.hasPrefix s.data.toList p.data.toList)) ∧ w' = w := Any.strings_HasPrefix Tryd.lays99 s p w
def Tryd.lays197_ren : Go.Shelf.Ren := ⟨fun | 197 => 83 | 260 => 95 | n => n, fun | 9 => 9 | 21 => 21 | 3 => 3 | 4 => 4 | 5 => 5 | 105 => 105 | 119 => 118 | 0 => 0 | 46 => 60 | 139 => 121 | 138 => 120 | n => n, fun | 3 => 1 | 4 => 2 | n => n⟩
theorem Tryd.lays197 : Go.Proofs.Lays.n197 Tryd.prog Tryd.lays197_ren := {
  mixed := by kernel_rfl
  f197 := Tryd.func83.trans (congrArg some (by kernel_rfl))
  f260 := Tryd.func95.trans (congrArg some (by kernel_rfl))
  t0 := Tryd.underlying0
  a0 := Tryd.isAgg0
  z0 := Tryd.sizeOf0
  v0 := Tryd.zeroValue0
  t3 := Tryd.underlying3
  a3 := Tryd.isAgg3
  z3 := Tryd.sizeOf3
  v3 := Tryd.zeroValue3
  t4 := Tryd.underlying4
  a4 := Tryd.isAgg4
  z4 := Tryd.sizeOf4
  v4 := Tryd.zeroValue4
  t5 := Tryd.underlying5
  a5 := Tryd.isAgg5
  z5 := Tryd.sizeOf5
  v5 := Tryd.zeroValue5
  t9 := Tryd.underlying9
  a9 := Tryd.isAgg9
  z9 := Tryd.sizeOf9
  v9 := Tryd.zeroValue9
  t21 := Tryd.underlying21
  a21 := Tryd.isAgg21
  z21 := Tryd.sizeOf21
  v21 := Tryd.zeroValue21
  t46 := Tryd.underlying60
  a46 := Tryd.isAgg60
  z46 := Tryd.sizeOf60
  v46 := Tryd.zeroValue60
  t105 := Tryd.underlying105
  a105 := Tryd.isAgg105
  z105 := Tryd.sizeOf105
  v105 := Tryd.zeroValue105
  t119 := Tryd.underlying118
  a119 := Tryd.isAgg118
  z119 := Tryd.sizeOf118
  t138 := Tryd.underlying120
  a138 := Tryd.isAgg120
  z138 := Tryd.sizeOf120
  v138 := Tryd.zeroValue120
  t139 := Tryd.underlying121
  a139 := Tryd.isAgg121
  z139 := Tryd.sizeOf121
  v139 := Tryd.zeroValue121
  g3 := by kernel_rfl
  g4 := by kernel_rfl }
open Go.RowKit Go.Lib in
/-- unicode/utf8.DecodeRuneInString: "DecodeRuneInString is like DecodeRune but its input is a string.": ("DecodeRune unpacks the first UTF-8 encoding in p and returns the rune and its width in bytes."): WHERE s BEGINS WITH AN ASCII BYTE x: (x, 1). (LAID: no walk: one application.) -/
theorem Tryd.utf8_DecodeRuneInString_ascii (s : ByteArray) (x : UInt8) (w : World) (h0 : s.data.toList[0]? = some x) (hx : x.toNat < 128) :
    Calls Tryd.prog 83 #[.string s] w fun e w' => e = .returned (.tuple #[.int .i32 x.toNat, .int .i64 1]) ∧ w' = w := Any.utf8_DecodeRuneInString_ascii Tryd.lays197 s x w h0 hx
def Tryd.lays152_ren : Go.Shelf.Ren := ⟨fun | 152 => 80 | 137 => 91 | 119 => 92 | 224 => 93 | 225 => 94 | 217 => 98 | 266 => 100 | n => n, fun | 9 => 9 | 21 => 21 | 3 => 3 | 4 => 4 | 5 => 5 | 0 => 0 | 46 => 60 | n => n, fun | n => n⟩
theorem Tryd.lays152 : Go.Proofs.Lays.n152 Tryd.prog Tryd.lays152_ren := {
  mixed := by kernel_rfl
  f119 := Tryd.func92.trans (congrArg some (by kernel_rfl))
  f137 := Tryd.func91.trans (congrArg some (by kernel_rfl))
  f152 := Tryd.func80.trans (congrArg some (by kernel_rfl))
  f217 := Tryd.func98.trans (congrArg some (by kernel_rfl))
  f224 := Tryd.func93.trans (congrArg some (by kernel_rfl))
  f225 := Tryd.func94.trans (congrArg some (by kernel_rfl))
  f266 := Tryd.func100.trans (congrArg some (by kernel_rfl))
  t0 := Tryd.underlying0
  a0 := Tryd.isAgg0
  z0 := Tryd.sizeOf0
  v0 := Tryd.zeroValue0
  t3 := Tryd.underlying3
  a3 := Tryd.isAgg3
  z3 := Tryd.sizeOf3
  v3 := Tryd.zeroValue3
  t4 := Tryd.underlying4
  a4 := Tryd.isAgg4
  z4 := Tryd.sizeOf4
  v4 := Tryd.zeroValue4
  t5 := Tryd.underlying5
  a5 := Tryd.isAgg5
  z5 := Tryd.sizeOf5
  v5 := Tryd.zeroValue5
  t9 := Tryd.underlying9
  a9 := Tryd.isAgg9
  z9 := Tryd.sizeOf9
  v9 := Tryd.zeroValue9
  t21 := Tryd.underlying21
  a21 := Tryd.isAgg21
  z21 := Tryd.sizeOf21
  v21 := Tryd.zeroValue21
  t46 := Tryd.underlying60
  a46 := Tryd.isAgg60
  z46 := Tryd.sizeOf60
  v46 := Tryd.zeroValue60 }
open Go.RowKit Go.Lib in
theorem Tryd.strings_IndexRune_ascii (s : ByteArray) (r : Int) (w : World) (h0 : 0 ≤ r) (h1 : r < 128) :
    Calls Tryd.prog 80 #[.string s, .int .i32 r] w fun e w' => e = .returned (.int .i64 (Lib.indexByte s.data.toList r.toNat.toUInt8)) ∧ w' = w := Any.strings_IndexRune_ascii Tryd.lays152 s r w h0 h1
def Tryd.lays151_ren : Go.Shelf.Ren := ⟨fun | 151 => 84 | 152 => 80 | 137 => 91 | 119 => 92 | 224 => 93 | 225 => 94 | 217 => 98 | 266 => 100 | n => n, fun | 9 => 9 | 21 => 21 | 4 => 4 | 3 => 3 | 5 => 5 | 0 => 0 | 46 => 60 | n => n, fun | n => n⟩
theorem Tryd.lays151 : Go.Proofs.Lays.n151 Tryd.prog Tryd.lays151_ren := {
  mixed := by kernel_rfl
  f119 := Tryd.func92.trans (congrArg some (by kernel_rfl))
  f137 := Tryd.func91.trans (congrArg some (by kernel_rfl))
  f151 := Tryd.func84.trans (congrArg some (by kernel_rfl))
  f152 := Tryd.func80.trans (congrArg some (by kernel_rfl))
  f217 := Tryd.func98.trans (congrArg some (by kernel_rfl))
  f224 := Tryd.func93.trans (congrArg some (by kernel_rfl))
  f225 := Tryd.func94.trans (congrArg some (by kernel_rfl))
  f266 := Tryd.func100.trans (congrArg some (by kernel_rfl))
  t0 := Tryd.underlying0
  a0 := Tryd.isAgg0
  z0 := Tryd.sizeOf0
  v0 := Tryd.zeroValue0
  t3 := Tryd.underlying3
  a3 := Tryd.isAgg3
  z3 := Tryd.sizeOf3
  v3 := Tryd.zeroValue3
  t4 := Tryd.underlying4
  a4 := Tryd.isAgg4
  z4 := Tryd.sizeOf4
  v4 := Tryd.zeroValue4
  t5 := Tryd.underlying5
  a5 := Tryd.isAgg5
  z5 := Tryd.sizeOf5
  v5 := Tryd.zeroValue5
  t9 := Tryd.underlying9
  a9 := Tryd.isAgg9
  z9 := Tryd.sizeOf9
  v9 := Tryd.zeroValue9
  t21 := Tryd.underlying21
  a21 := Tryd.isAgg21
  z21 := Tryd.sizeOf21
  v21 := Tryd.zeroValue21
  t46 := Tryd.underlying60
  a46 := Tryd.isAgg60
  z46 := Tryd.sizeOf60
  v46 := Tryd.zeroValue60 }
open Go.RowKit Go.Lib in
theorem Tryd.strings_ContainsRune_ascii (s : ByteArray) (r : Int) (w : World) (h0 : 0 ≤ r) (h1 : r < 128) :
    Calls Tryd.prog 84 #[.string s, .int .i32 r] w fun e w' => e = .returned (.bool (decide (0 ≤ Lib.indexByte s.data.toList r.toNat.toUInt8))) ∧ w' = w := Any.strings_ContainsRune_ascii Tryd.lays151 s r w h0 h1
def Tryd.lays226_ren : Go.Shelf.Ren := ⟨fun | 226 => 81 | n => n, fun | 3 => 3 | 4 => 4 | n => n, fun | n => n⟩
theorem Tryd.lays226 : Go.Proofs.Lays.n226 Tryd.prog Tryd.lays226_ren := {
  mixed := by kernel_rfl
  f226 := Tryd.func81.trans (congrArg some (by kernel_rfl))
  t3 := Tryd.underlying3
  a3 := Tryd.isAgg3
  z3 := Tryd.sizeOf3
  v3 := Tryd.zeroValue3
  t4 := Tryd.underlying4
  a4 := Tryd.isAgg4
  z4 := Tryd.sizeOf4
  v4 := Tryd.zeroValue4 }
open Go.RowKit Go.Lib in
theorem Tryd.strings_shouldUseASCIISet (n : Int) (w : World) :
    Calls Tryd.prog 81 #[.int .i64 n] w fun e w' => e = .returned (.bool (decide (8 < n))) ∧ w' = w := Any.strings_shouldUseASCIISet Tryd.lays226 n w
def Tryd.lays153_ren : Go.Shelf.Ren := ⟨fun | 153 => 56 | 152 => 80 | 226 => 81 | 227 => 59 | 228 => 82 | 137 => 91 | 119 => 92 | 224 => 93 | 225 => 94 | 217 => 98 | 266 => 100 | n => n, fun | 9 => 9 | 3 => 3 | 4 => 4 | 5 => 5 | 21 => 21 | 117 => 83 | 116 => 82 | 0 => 0 | 46 => 60 | 124 => 86 | n => n, fun | n => n⟩
theorem Tryd.lays153 : Go.Proofs.Lays.n153 Tryd.prog Tryd.lays153_ren := {
  mixed := by kernel_rfl
  f119 := Tryd.func92.trans (congrArg some (by kernel_rfl))
  f137 := Tryd.func91.trans (congrArg some (by kernel_rfl))
  f152 := Tryd.func80.trans (congrArg some (by kernel_rfl))
  f153 := Tryd.func56.trans (congrArg some (by kernel_rfl))
  f217 := Tryd.func98.trans (congrArg some (by kernel_rfl))
  f224 := Tryd.func93.trans (congrArg some (by kernel_rfl))
  f225 := Tryd.func94.trans (congrArg some (by kernel_rfl))
  f226 := Tryd.func81.trans (congrArg some (by kernel_rfl))
  f227 := Tryd.func59.trans (congrArg some (by kernel_rfl))
  f228 := Tryd.func82.trans (congrArg some (by kernel_rfl))
  f266 := Tryd.func100.trans (congrArg some (by kernel_rfl))
  t0 := Tryd.underlying0
  a0 := Tryd.isAgg0
  z0 := Tryd.sizeOf0
  v0 := Tryd.zeroValue0
  t3 := Tryd.underlying3
  a3 := Tryd.isAgg3
  z3 := Tryd.sizeOf3
  v3 := Tryd.zeroValue3
  t4 := Tryd.underlying4
  a4 := Tryd.isAgg4
  z4 := Tryd.sizeOf4
  v4 := Tryd.zeroValue4
  t5 := Tryd.underlying5
  a5 := Tryd.isAgg5
  z5 := Tryd.sizeOf5
  v5 := Tryd.zeroValue5
  t9 := Tryd.underlying9
  a9 := Tryd.isAgg9
  z9 := Tryd.sizeOf9
  v9 := Tryd.zeroValue9
  t21 := Tryd.underlying21
  a21 := Tryd.isAgg21
  z21 := Tryd.sizeOf21
  v21 := Tryd.zeroValue21
  t46 := Tryd.underlying60
  a46 := Tryd.isAgg60
  z46 := Tryd.sizeOf60
  v46 := Tryd.zeroValue60
  t116 := Tryd.underlying82
  a116 := Tryd.isAgg82
  z116 := Tryd.sizeOf82
  t117 := Tryd.underlying83
  a117 := Tryd.isAgg83
  z117 := Tryd.sizeOf83
  v117 := Tryd.zeroValue83
  t124 := Tryd.underlying86
  a124 := Tryd.isAgg86
  z124 := Tryd.sizeOf86
  v124 := Tryd.zeroValue86 }
open Go.RowKit Go.Lib in
/-- chars is empty. (LAID: no walk: one application.) -/
theorem Tryd.strings_IndexAny_none (s chars : ByteArray) (w : World) (h0 : chars.size = 0) :
    Calls Tryd.prog 56 #[.string s, .string chars] w fun e w' => e = .returned (.int .i64 (Lib.indexAny s.data.toList chars.data.toList)) ∧ w' = w := Any.strings_IndexAny_none Tryd.lays153 s chars w h0
open Go.RowKit Go.Lib in
/-- chars is one ASCII byte. (LAID: no walk: one application.) -/
theorem Tryd.strings_IndexAny_one (s chars : ByteArray) (w : World) (h1 : chars.size = 1) (hascii : ∀ (j : Nat) b, chars.data.toList[j]? = some b → b.toNat < 128) :
    Calls Tryd.prog 56 #[.string s, .string chars] w fun e w' => e = .returned (.int .i64 (Lib.indexAny s.data.toList chars.data.toList)) ∧ w' = w := Any.strings_IndexAny_one Tryd.lays153 s chars w h1 hascii
open Go.RowKit Go.Lib in
/-- s of at most 8 bytes; chars of two or more: 'for i, c := range s { if IndexRune(chars, c) >= 0 { return i } }'. One block more: the model's iterator over s. (LAID: no walk: one application.) -/
theorem Tryd.strings_IndexAny_short (s chars : ByteArray) (w : World) (h2 : 2 ≤ chars.size) (h8 : s.size ≤ 8) (hascii : ∀ (j : Nat) b, s.data.toList[j]? = some b → b.toNat < 128) :
    Calls Tryd.prog 56 #[.string s, .string chars] w fun e w' => e = .returned (.int .i64 (Lib.indexAny s.data.toList chars.data.toList)) ∧ ∃ pos, w' = w.iter s pos := Any.strings_IndexAny_short Tryd.lays153 s chars w h2 h8 hascii
def Tryd.lays227_ren : Go.Shelf.Ren := ⟨fun | 227 => 59 | n => n, fun | 9 => 9 | 116 => 82 | 4 => 4 | 0 => 0 | 3 => 3 | 5 => 5 | n => n, fun | n => n⟩
theorem Tryd.lays227 : Go.Proofs.Lays.n227 Tryd.prog Tryd.lays227_ren := {
  mixed := by kernel_rfl
  f227 := Tryd.func59.trans (congrArg some (by kernel_rfl))
  t0 := Tryd.underlying0
  a0 := Tryd.isAgg0
  z0 := Tryd.sizeOf0
  v0 := Tryd.zeroValue0
  t3 := Tryd.underlying3
  a3 := Tryd.isAgg3
  z3 := Tryd.sizeOf3
  v3 := Tryd.zeroValue3
  t4 := Tryd.underlying4
  a4 := Tryd.isAgg4
  z4 := Tryd.sizeOf4
  v4 := Tryd.zeroValue4
  t5 := Tryd.underlying5
  a5 := Tryd.isAgg5
  z5 := Tryd.sizeOf5
  v5 := Tryd.zeroValue5
  t9 := Tryd.underlying9
  a9 := Tryd.isAgg9
  z9 := Tryd.sizeOf9
  v9 := Tryd.zeroValue9
  t116 := Tryd.underlying82
  a116 := Tryd.isAgg82
  z116 := Tryd.sizeOf82 }
open Go.RowKit Go.Lib in
theorem Tryd.strings_makeASCIISet (hv116 : ∀ w, (zeroValue 82).run Tryd.prog w = .ok (.agg (Array.replicate 256 (.bool false))) w) (chars : ByteArray) (w : World) (hs : chars.size < 4294967281) (hascii : ∀ (j : Nat) b, chars.data.toList[j]? = some b → b.toNat < 128) :
    Calls Tryd.prog 59 #[.string chars] w fun e w' => e = .returned (.tuple #[.agg (Lib.setCells chars.data.toList), .bool true]) ∧ w' = w.alloc (.cells (Lib.setCells chars.data.toList) 82) := Any.strings_makeASCIISet Tryd.lays227 hv116 (by kernel_rfl) chars w hs hascii
def Tryd.lays228_ren : Go.Shelf.Ren := ⟨fun | 228 => 82 | n => n, fun | 124 => 86 | 5 => 5 | 4 => 4 | 0 => 0 | 116 => 82 | n => n, fun | n => n⟩
theorem Tryd.lays228 : Go.Proofs.Lays.n228 Tryd.prog Tryd.lays228_ren := {
  mixed := by kernel_rfl
  f228 := Tryd.func82.trans (congrArg some (by kernel_rfl))
  t0 := Tryd.underlying0
  a0 := Tryd.isAgg0
  z0 := Tryd.sizeOf0
  v0 := Tryd.zeroValue0
  t4 := Tryd.underlying4
  a4 := Tryd.isAgg4
  z4 := Tryd.sizeOf4
  v4 := Tryd.zeroValue4
  t5 := Tryd.underlying5
  a5 := Tryd.isAgg5
  z5 := Tryd.sizeOf5
  v5 := Tryd.zeroValue5
  t116 := Tryd.underlying82
  a116 := Tryd.isAgg82
  z116 := Tryd.sizeOf82
  t124 := Tryd.underlying86
  a124 := Tryd.isAgg86
  z124 := Tryd.sizeOf86
  v124 := Tryd.zeroValue86 }
open Go.RowKit Go.Lib in
/-- '(as *asciiSet) contains(c)': 'as[c]': the set lies at block b, whole. (LAID: no walk: one application.) -/
theorem Tryd.asciiSet_contains (b : Nat) (x : UInt8) (v : Bool) (w : World) (hc : w.cell? ⟨b, x.toNat, none⟩ = some (.bool v)) :
    Calls Tryd.prog 82 #[.pointer (some ⟨b, 0, none⟩), .int .u8 x.toNat] w fun e w' => e = .returned (.bool v) ∧ w' = w := Any.asciiSet_contains Tryd.lays228 b x v w hc
open Go.RowKit Go.Lib in
theorem Tryd.strings_IndexAny_long (hv116 : ∀ w, (zeroValue 82).run Tryd.prog w = .ok (.agg (Array.replicate 256 (.bool false))) w) (s chars : ByteArray) (w : World) (h2 : 2 ≤ chars.size) (h8 : 8 < s.size) (hs : s.size < 4294967281) (hcs : chars.size < 4294967281) (hascii : ∀ (j : Nat) b, chars.data.toList[j]? = some b → b.toNat < 128) :
    Calls Tryd.prog 56 #[.string s, .string chars] w fun e w' => e = .returned (.int .i64 (Lib.indexAny s.data.toList chars.data.toList)) ∧ w' = ((w.alloc (.cells (Lib.setCells chars.data.toList) 82)).alloc (.cells (Lib.setCells chars.data.toList) 82)) := Any.strings_IndexAny_long Tryd.lays153 hv116 (by kernel_rfl) s chars w h2 h8 hs hcs hascii
open Go.RowKit Go.Lib in
/-- strings.IndexAny ON ASCII BYTES: the four roads under one statement. (LAID: no walk: one application.) -/
theorem Tryd.strings_IndexAny (hv116 : ∀ w, (zeroValue 82).run Tryd.prog w = .ok (.agg (Array.replicate 256 (.bool false))) w) (s chars : ByteArray) (w : World) (hs : s.size < 4294967281) (hcs : chars.size < 4294967281) (has : ∀ (j : Nat) b, s.data.toList[j]? = some b → b.toNat < 128) (hac : ∀ (j : Nat) b, chars.data.toList[j]? = some b → b.toNat < 128) :
    Calls Tryd.prog 56 #[.string s, .string chars] w fun e w' => e = .returned (.int .i64 (Lib.indexAny s.data.toList chars.data.toList)) ∧ Below w.heap.size w w' := Any.strings_IndexAny Tryd.lays153 hv116 (by kernel_rfl) s chars w hs hcs has hac
def Tryd.lays150_ren : Go.Shelf.Ren := ⟨fun | 150 => 33 | 153 => 56 | 152 => 80 | 226 => 81 | 227 => 59 | 228 => 82 | 137 => 91 | 119 => 92 | 224 => 93 | 225 => 94 | 217 => 98 | 266 => 100 | n => n, fun | 9 => 9 | 4 => 4 | 3 => 3 | 5 => 5 | 21 => 21 | 117 => 83 | 116 => 82 | 0 => 0 | 46 => 60 | 124 => 86 | n => n, fun | n => n⟩
theorem Tryd.lays150 : Go.Proofs.Lays.n150 Tryd.prog Tryd.lays150_ren := {
  mixed := by kernel_rfl
  f119 := Tryd.func92.trans (congrArg some (by kernel_rfl))
  f137 := Tryd.func91.trans (congrArg some (by kernel_rfl))
  f150 := Tryd.func33.trans (congrArg some (by kernel_rfl))
  f152 := Tryd.func80.trans (congrArg some (by kernel_rfl))
  f153 := Tryd.func56.trans (congrArg some (by kernel_rfl))
  f217 := Tryd.func98.trans (congrArg some (by kernel_rfl))
  f224 := Tryd.func93.trans (congrArg some (by kernel_rfl))
  f225 := Tryd.func94.trans (congrArg some (by kernel_rfl))
  f226 := Tryd.func81.trans (congrArg some (by kernel_rfl))
  f227 := Tryd.func59.trans (congrArg some (by kernel_rfl))
  f228 := Tryd.func82.trans (congrArg some (by kernel_rfl))
  f266 := Tryd.func100.trans (congrArg some (by kernel_rfl))
  t0 := Tryd.underlying0
  a0 := Tryd.isAgg0
  z0 := Tryd.sizeOf0
  v0 := Tryd.zeroValue0
  t3 := Tryd.underlying3
  a3 := Tryd.isAgg3
  z3 := Tryd.sizeOf3
  v3 := Tryd.zeroValue3
  t4 := Tryd.underlying4
  a4 := Tryd.isAgg4
  z4 := Tryd.sizeOf4
  v4 := Tryd.zeroValue4
  t5 := Tryd.underlying5
  a5 := Tryd.isAgg5
  z5 := Tryd.sizeOf5
  v5 := Tryd.zeroValue5
  t9 := Tryd.underlying9
  a9 := Tryd.isAgg9
  z9 := Tryd.sizeOf9
  v9 := Tryd.zeroValue9
  t21 := Tryd.underlying21
  a21 := Tryd.isAgg21
  z21 := Tryd.sizeOf21
  v21 := Tryd.zeroValue21
  t46 := Tryd.underlying60
  a46 := Tryd.isAgg60
  z46 := Tryd.sizeOf60
  v46 := Tryd.zeroValue60
  t116 := Tryd.underlying82
  a116 := Tryd.isAgg82
  z116 := Tryd.sizeOf82
  t117 := Tryd.underlying83
  a117 := Tryd.isAgg83
  z117 := Tryd.sizeOf83
  v117 := Tryd.zeroValue83
  t124 := Tryd.underlying86
  a124 := Tryd.isAgg86
  z124 := Tryd.sizeOf86
  v124 := Tryd.zeroValue86 }
open Go.RowKit Go.Lib in
/-- strings.ContainsAny ON ASCII BYTES. (LAID: no walk: one application.) -/
theorem Tryd.strings_ContainsAny (hv116 : ∀ w, (zeroValue 82).run Tryd.prog w = .ok (.agg (Array.replicate 256 (.bool false))) w) (s chars : ByteArray) (w : World) (hs : s.size < 4294967281) (hcs : chars.size < 4294967281) (has : ∀ (j : Nat) b, s.data.toList[j]? = some b → b.toNat < 128) (hac : ∀ (j : Nat) b, chars.data.toList[j]? = some b → b.toNat < 128) :
    Calls Tryd.prog 33 #[.string s, .string chars] w fun e w' => e = .returned (.bool (Lib.containsAny s.data.toList chars.data.toList)) ∧ Below w.heap.size w w' := Any.strings_ContainsAny Tryd.lays150 hv116 (by kernel_rfl) s chars w hs hcs has hac
open Go.RowKit Go.Lib in
theorem Tryd.strings_IndexAny_laid (s chars : ByteArray) (w : World) (hs : s.size < 4294967281) (hcs : chars.size < 4294967281) (has : ∀ (j : Nat) b, s.data.toList[j]? = some b → b.toNat < 128) (hac : ∀ (j : Nat) b, chars.data.toList[j]? = some b → b.toNat < 128) :
    Calls Tryd.prog 56 #[.string s, .string chars] w fun e w' => e = .returned (.int .i64 (Lib.indexAny s.data.toList chars.data.toList)) ∧ Below w.heap.size w w' := Any.strings_IndexAny_laid Tryd.lays153 (by kernel_rfl) s chars w hs hcs has hac
open Go.RowKit Go.Lib in
theorem Tryd.strings_ContainsAny_laid (s chars : ByteArray) (w : World) (hs : s.size < 4294967281) (hcs : chars.size < 4294967281) (has : ∀ (j : Nat) b, s.data.toList[j]? = some b → b.toNat < 128) (hac : ∀ (j : Nat) b, chars.data.toList[j]? = some b → b.toNat < 128) :
    Calls Tryd.prog 33 #[.string s, .string chars] w fun e w' => e = .returned (.bool (Lib.containsAny s.data.toList chars.data.toList)) ∧ Below w.heap.size w w' := Any.strings_ContainsAny_laid Tryd.lays150 (by kernel_rfl) s chars w hs hcs has hac
def Tryd.lays260_ren : Go.Shelf.Ren := ⟨fun | 260 => 95 | n => n, fun | 9 => 9 | 21 => 21 | 3 => 3 | 4 => 4 | 5 => 5 | 119 => 118 | 0 => 0 | 46 => 60 | 139 => 121 | 138 => 120 | n => n, fun | 3 => 1 | 4 => 2 | n => n⟩
theorem Tryd.lays260 : Go.Proofs.Lays.n260 Tryd.prog Tryd.lays260_ren := {
  mixed := by kernel_rfl
  f260 := Tryd.func95.trans (congrArg some (by kernel_rfl))
  t0 := Tryd.underlying0
  a0 := Tryd.isAgg0
  z0 := Tryd.sizeOf0
  v0 := Tryd.zeroValue0
  t3 := Tryd.underlying3
  a3 := Tryd.isAgg3
  z3 := Tryd.sizeOf3
  v3 := Tryd.zeroValue3
  t4 := Tryd.underlying4
  a4 := Tryd.isAgg4
  z4 := Tryd.sizeOf4
  v4 := Tryd.zeroValue4
  t5 := Tryd.underlying5
  a5 := Tryd.isAgg5
  z5 := Tryd.sizeOf5
  v5 := Tryd.zeroValue5
  t9 := Tryd.underlying9
  a9 := Tryd.isAgg9
  z9 := Tryd.sizeOf9
  v9 := Tryd.zeroValue9
  t21 := Tryd.underlying21
  a21 := Tryd.isAgg21
  z21 := Tryd.sizeOf21
  v21 := Tryd.zeroValue21
  t46 := Tryd.underlying60
  a46 := Tryd.isAgg60
  z46 := Tryd.sizeOf60
  v46 := Tryd.zeroValue60
  t119 := Tryd.underlying118
  a119 := Tryd.isAgg118
  z119 := Tryd.sizeOf118
  t138 := Tryd.underlying120
  a138 := Tryd.isAgg120
  z138 := Tryd.sizeOf120
  v138 := Tryd.zeroValue120
  t139 := Tryd.underlying121
  a139 := Tryd.isAgg121
  z139 := Tryd.sizeOf121
  v139 := Tryd.zeroValue121
  g3 := by kernel_rfl
  g4 := by kernel_rfl }
open Go.RowKit Go.Lib in
theorem Tryd.utf8_decodeRuneInStringSlow (s : ByteArray) (w : World) (hT : Lib.Utf8Tabs 1 2 w) :
    Calls Tryd.prog 95 #[.string s] w fun e w' => e = .returned (.tuple #[.int .i32 (Lib.decodeGo s).1, .int .i64 (Lib.decodeGo s).2]) ∧ Below w.heap.size w w' := Any.utf8_decodeRuneInStringSlow Tryd.lays260 s w hT
open Go.RowKit Go.Lib in
/-- **unicode/utf8.DecodeRuneInString AT EVERY STRING.** (LAID: no walk: one application.) -/
theorem Tryd.utf8_DecodeRuneInString (s : ByteArray) (w : World) (hT : Lib.Utf8Tabs 1 2 w) :
    Calls Tryd.prog 83 #[.string s] w fun e w' => e = .returned (.tuple #[.int .i32 (Lib.decodeGo s).1, .int .i64 (Lib.decodeGo s).2]) ∧ Below w.heap.size w w' := Any.utf8_DecodeRuneInString Tryd.lays197 s w hT
def Tryd.lays109_ren : Go.Shelf.Ren := ⟨fun | 109 => 86 | n => n, fun | 31 => 33 | 9 => 9 | 3 => 3 | 0 => 0 | 4 => 4 | n => n, fun | n => n⟩
theorem Tryd.lays109 : Go.Proofs.Lays.n109 Tryd.prog Tryd.lays109_ren := {
  mixed := by kernel_rfl
  f109 := Tryd.func86.trans (congrArg some (by kernel_rfl))
  t0 := Tryd.underlying0
  a0 := Tryd.isAgg0
  z0 := Tryd.sizeOf0
  v0 := Tryd.zeroValue0
  t3 := Tryd.underlying3
  a3 := Tryd.isAgg3
  z3 := Tryd.sizeOf3
  v3 := Tryd.zeroValue3
  t4 := Tryd.underlying4
  a4 := Tryd.isAgg4
  z4 := Tryd.sizeOf4
  v4 := Tryd.zeroValue4
  t9 := Tryd.underlying9
  a9 := Tryd.isAgg9
  z9 := Tryd.sizeOf9
  v9 := Tryd.zeroValue9
  t31 := Tryd.underlying33
  a31 := Tryd.isAgg33
  z31 := Tryd.sizeOf33
  v31 := Tryd.zeroValue33 }
open Go.Lib in
/-- slices.Index at []string: "Index returns the index of the first occurrence of v in s, or -1 if not present.": IT RETURNS 'Lib.idxOfS (the elements) v'; the world is as it was. 'zs': what the cells behind the slice's address hold (its spare capacity too, if you have it); 'zs.take n': its elements. (LAID: no walk: one application.) -/
theorem Tryd.slices_Index_string (b off n c : Nat) (zs : List ByteArray) (x : ByteArray) (w : World) (hz : n ≤ zs.length) (hbig : n ≤ 9223372036854775807) (hc : ∀ j, j < zs.length → w.cell? ⟨b, off + j, none⟩ = some (.string (zs.getD j ByteArray.empty))) :
    Calls Tryd.prog 86 #[.slice (some ⟨b, off, none⟩) n c, .string x] w fun e w' => e = .returned (.int .i64 (Lib.idxOfS (zs.take n) x)) ∧ w' = w := Any.slices_Index_string Tryd.lays109 b off n c zs x w hz hbig hc
open Go.Lib in
/-- The same at a slice of length 0, a nil one too: no cell is known, none is asked for. (LAID: no walk: one application.) -/
theorem Tryd.slices_Index_string_empty (a : Option Addr) (c : Nat) (x : ByteArray) (w : World) :
    Calls Tryd.prog 86 #[.slice a 0 c, .string x] w fun e w' => e = .returned (.int .i64 (Lib.idxOfS [] x)) ∧ w' = w := Any.slices_Index_string_empty Tryd.lays109 a c x w
def Tryd.lays110_ren : Go.Shelf.Ren := ⟨fun | 110 => 66 | 109 => 86 | n => n, fun | 31 => 33 | 9 => 9 | 4 => 4 | 3 => 3 | 0 => 0 | n => n, fun | n => n⟩
theorem Tryd.lays110 : Go.Proofs.Lays.n110 Tryd.prog Tryd.lays110_ren := {
  mixed := by kernel_rfl
  f109 := Tryd.func86.trans (congrArg some (by kernel_rfl))
  f110 := Tryd.func66.trans (congrArg some (by kernel_rfl))
  t0 := Tryd.underlying0
  a0 := Tryd.isAgg0
  z0 := Tryd.sizeOf0
  v0 := Tryd.zeroValue0
  t3 := Tryd.underlying3
  a3 := Tryd.isAgg3
  z3 := Tryd.sizeOf3
  v3 := Tryd.zeroValue3
  t4 := Tryd.underlying4
  a4 := Tryd.isAgg4
  z4 := Tryd.sizeOf4
  v4 := Tryd.zeroValue4
  t9 := Tryd.underlying9
  a9 := Tryd.isAgg9
  z9 := Tryd.sizeOf9
  v9 := Tryd.zeroValue9
  t31 := Tryd.underlying33
  a31 := Tryd.isAgg33
  z31 := Tryd.sizeOf33
  v31 := Tryd.zeroValue33 }
open Go.Lib in
/-- slices.Contains at []string: "Contains reports whether v is present in s.": IT RETURNS 'Lib.containsS (the elements) v', which is true just where v is among them ('Lib.containsS_iff'); the world is as it was. ITS CALLEE slices.Index IS MET BY ITS OWN CONTRACT OFF THE SHELF (lay that first): no loop is walked here. (LAID: no walk: one application.) -/
theorem Tryd.slices_Contains_string (b off n c : Nat) (zs : List ByteArray) (x : ByteArray) (w : World) (hz : n ≤ zs.length) (hbig : n ≤ 9223372036854775807) (hc : ∀ j, j < zs.length → w.cell? ⟨b, off + j, none⟩ = some (.string (zs.getD j ByteArray.empty))) :
    Calls Tryd.prog 66 #[.slice (some ⟨b, off, none⟩) n c, .string x] w fun e w' => e = .returned (.bool (Lib.containsS (zs.take n) x)) ∧ w' = w := Any.slices_Contains_string Tryd.lays110 b off n c zs x w hz hbig hc
open Go.Lib in
/-- The same at a slice of length 0, a nil one too. (LAID: no walk: one application.) -/
theorem Tryd.slices_Contains_string_empty (a : Option Addr) (c : Nat) (x : ByteArray) (w : World) :
    Calls Tryd.prog 66 #[.slice a 0 c, .string x] w fun e w' => e = .returned (.bool false) ∧ w' = w := Any.slices_Contains_string_empty Tryd.lays110 a c x w
def Tryd.laysNm216_ren : Go.Shelf.Ren := ⟨fun | 16 => 13 | n => n, fun | 24 => 33 | 9 => 9 | 4 => 4 | n => n, fun | n => n⟩
theorem Tryd.laysNm216 : Go.Proofs.Lays2.n16 Tryd.prog Tryd.laysNm216_ren := {
  mixed := by kernel_rfl
  f16 := Tryd.func13.trans (congrArg some (by kernel_rfl))
  t4 := Tryd.underlying4
  a4 := Tryd.isAgg4
  z4 := Tryd.sizeOf4
  v4 := Tryd.zeroValue4
  t9 := Tryd.underlying9
  a9 := Tryd.isAgg9
  z9 := Tryd.sizeOf9
  v9 := Tryd.zeroValue9
  t24 := Tryd.underlying33
  a24 := Tryd.isAgg33
  z24 := Tryd.sizeOf33
  v24 := Tryd.zeroValue33
  i9 := by kernel_rfl }
open Go.RowKit Go.Lib in
/-- slices.Clone at []string: "Clone returns a copy of the slice. The elements are copied using assignment, so this is a shallow clone. The result may have additional unused capacity. The result preserves the nilness of s.": OF A SLICE THAT IS NOT nil IT RETURNS A SLICE THAT IS NOT nil, OF THE SAME ELEMENTS, IN MEMORY OF THE CALL's OWN: in the how-to's words (6f): 'w'.ownsRow B e 1 v' n cells': v' begins at the head of a row among the blocks from B on (B: the heap's size at the call), not frozen, whose first cells are the elements · 'Below B w w'': below B all is as it was. The capacity is whatever the run-time gives. 'zs': what the cells behind the slice's address hold; 'zs.take n': its elements. (LAID: no walk: one application.) -/
theorem Tryd.slices_Clone_string (b off n c : Nat) (zs : List ByteArray) (w : World) (hz : n ≤ zs.length) (hbig : n * 16 ≤ 140737488355328) (hc : ∀ j, j < zs.length → w.cell? ⟨b, off + j, none⟩ = some (.string (zs.getD j ByteArray.empty))) :
    Calls Tryd.prog 13 #[.slice (some ⟨b, off, none⟩) n c] w fun e w' => ∃ v', e = .returned v' ∧ w'.ownsRow w.heap.size 9 1 v' n ((zs.take n).map (Value.string)) ∧ v' ≠ .slice none 0 0 ∧ Below w.heap.size w w' := Any.slices_Clone_string Tryd.laysNm216 b off n c zs w hz hbig hc
open Go.RowKit Go.Lib in
/-- The same at nil: nil comes back; the world is as it was. (LAID: no walk: one application.) -/
theorem Tryd.slices_Clone_string_nil (n c : Nat) (w : World) :
    Calls Tryd.prog 13 #[.slice none n c] w fun e w' => e = .returned (.slice none 0 0) ∧ w' = w := Any.slices_Clone_string_nil Tryd.laysNm216 n c w
open Go.RowKit Go.Lib in
/-- The same at a slice of length 0 that is not nil, WHATEVER ITS ADDRESS (no cell is asked for): a slice that is not nil and owns nothing comes back. (LAID: no walk: one application.) -/
theorem Tryd.slices_Clone_string_zero (a : Addr) (c : Nat) (w : World) :
    Calls Tryd.prog 13 #[.slice (some a) 0 c] w fun e w' => ∃ v', e = .returned v' ∧ w'.ownsRow w.heap.size 9 1 v' 0 [] ∧ v' ≠ .slice none 0 0 ∧ Below w.heap.size w w' := Any.slices_Clone_string_zero Tryd.laysNm216 a c w
def Tryd.lays194_ren : Go.Shelf.Ren := ⟨fun | 194 => 15 | n => n, fun | 31 => 33 | 9 => 9 | 3 => 3 | 4 => 4 | 0 => 0 | n => n, fun | n => n⟩
theorem Tryd.lays194 : Go.Proofs.Lays.n194 Tryd.prog Tryd.lays194_ren := {
  mixed := by kernel_rfl
  f194 := Tryd.func15.trans (congrArg some (by kernel_rfl))
  t0 := Tryd.underlying0
  a0 := Tryd.isAgg0
  z0 := Tryd.sizeOf0
  v0 := Tryd.zeroValue0
  t3 := Tryd.underlying3
  a3 := Tryd.isAgg3
  z3 := Tryd.sizeOf3
  v3 := Tryd.zeroValue3
  t4 := Tryd.underlying4
  a4 := Tryd.isAgg4
  z4 := Tryd.sizeOf4
  v4 := Tryd.zeroValue4
  t9 := Tryd.underlying9
  a9 := Tryd.isAgg9
  z9 := Tryd.sizeOf9
  v9 := Tryd.zeroValue9
  t31 := Tryd.underlying33
  a31 := Tryd.isAgg33
  z31 := Tryd.sizeOf33
  v31 := Tryd.zeroValue33 }
open Go.RowKit Go.Lib Go.Sort in
/-- slices.Compact at []string, over an array: the library's two loops are walked. (LAID: no walk: one application.) -/
theorem Tryd.slices_Compact_string_arr (blk off cap : Nat) (d : Array (List UInt8)) (w : World) (hH : Holds encStr w blk off d) (hsz : d.size ≤ 9223372036854775807) (hcap : d.size ≤ cap) :
    Calls Tryd.prog 15 #[.slice (some ⟨blk, off, none⟩) d.size cap] w fun e w' => e = .returned (.slice (some ⟨blk, off, none⟩) (compactUpTo d d.size).length cap) ∧ ∃ q, w' = putRow encStr (Sort.ahead w q) blk off (compactUpTo d d.size ++ List.replicate (d.size - (compactUpTo d d.size).length) []).toArray := Any.slices_Compact_string_arr Tryd.lays194 blk off cap d w hH hsz hcap
open Go.RowKit Go.Lib Go.Sort in
/-- slices.Compact at []string: "Compact replaces consecutive runs of equal elements with a single copy. This is like the uniq command found on Unix. Compact modifies the contents of the slice s and returns the modified slice, which may have a smaller length. Compact zeroes the elements between the new length and the original length. The result preserves the nilness of s.": IT RETURNS THE SLICE CUT TO 'Lib.compact zs'; ITS CELLS HOLD 'Lib.compact zs', THEN ZERO VALUES up to the old length; all else is as it was, but for the count of draws. IN THE WORDS OF slices.Sort's CONTRACT ('Holds', 'putRow'): so the everyday 'slices.Sort(xs); xs = slices.Compact(xs)' goes from the one contract to the other. It asks 'zs.length ≤ cap' (every slice's: the reslicing 's[:k]' looks at it). Length 0, nil: '.._empty'. (LAID: no walk: one application.) -/
theorem Tryd.slices_Compact_string (blk off cap : Nat) (zs : List (List UInt8)) (w : World) (hH : Holds encStr w blk off zs.toArray) (hsz : zs.length ≤ 9223372036854775807) (hcap : zs.length ≤ cap) :
    Calls Tryd.prog 15 #[.slice (some ⟨blk, off, none⟩) zs.length cap] w fun e w' => e = .returned (.slice (some ⟨blk, off, none⟩) (Lib.compact zs).length cap) ∧ ∃ q, w' = putRow encStr (Sort.ahead w q) blk off (Lib.compact zs ++ List.replicate (zs.length - (Lib.compact zs).length) []).toArray := Any.slices_Compact_string Tryd.lays194 blk off cap zs w hH hsz hcap
open Go.RowKit Go.Lib Go.Sort in
/-- The same at a slice of length 0, a nil one too: it comes back as it is. (LAID: no walk: one application.) -/
theorem Tryd.slices_Compact_string_empty (a : Option Addr) (cap : Nat) (w : World) :
    Calls Tryd.prog 15 #[.slice a 0 cap] w fun e w' => e = .returned (.slice a 0 cap) ∧ w' = w := Any.slices_Compact_string_empty Tryd.lays194 a cap w
open Go.RowKit Go.Lib Go.Sort in
/-- slices.Compact at []string, of an argument. (LAID: no walk: one application.) -/
theorem Tryd.slices_Compact_string_cells (b off n c : Nat) (Sx : Nat → ByteArray) (w : World) (hbig : n ≤ 9223372036854775807) (hcap : n ≤ c) (hc : ∀ i, i < n → w.cell? ⟨b, off + i, none⟩ = some (.string (Sx i))) (hf : ∀ j, j < n → w.frozen? ⟨b, off + j, none⟩ = false) :
    Calls Tryd.prog 15 #[.slice (some ⟨b, off, none⟩) n c] w fun e w' => e = .returned (.slice (some ⟨b, off, none⟩) (Lib.compact (Lib.strsOf Sx n)).length c) ∧ ∃ q, w' = (w.drewN q).setCells b off ((Lib.compact (Lib.strsOf Sx n) ++ List.replicate (n - (Lib.compact (Lib.strsOf Sx n)).length) []).map encStr) := Any.slices_Compact_string_cells Tryd.lays194 b off n c Sx w hbig hcap hc hf
open Go.RowKit Go.Sort in
/-- .. and plain. (LAID: no walk: one application.) -/
theorem Tryd.slices_Sort_string_none (p : Option Addr) (cap : Nat) (w : World) :
    Calls Tryd.prog 14 #[.slice p 0 cap] w fun e w' => e = .returned (.tuple #[]) ∧ w' = w := Any.slices_Sort_string_none Tryd.lays190 p cap w
def Tryd.laysSlE041_f13_ren : Go.Shelf.Ren := ⟨fun | 41 => 13 | n => n, fun | 22 => 33 | 23 => 9 | 4 => 4 | n => n, fun | n => n⟩
theorem Tryd.laysSlE041_f13 : Go.Proofs.SlLaysE0.n41 Tryd.prog Tryd.laysSlE041_f13_ren := {
  mixed := by kernel_rfl
  f41 := ⟨Tryd.f13.name, by decide, Tryd.func13.trans (congrArg some (by kernel_rfl))⟩
  t4 := Tryd.underlying4
  a4 := Tryd.isAgg4
  z4 := Tryd.sizeOf4
  v4 := Tryd.zeroValue4
  t22 := Tryd.underlying33
  a22 := Tryd.isAgg33
  z22 := Tryd.sizeOf33
  v22 := Tryd.zeroValue33 }
open Go.RowKit Go.Lib in
/-- slices.Clone: "Clone returns a copy of the slice. The elements are copied using assignment, so this is a shallow clone. The result may have additional unused capacity. The result preserves the nilness of s.": OF A SLICE THAT IS NOT nil IT RETURNS A SLICE THAT IS NOT nil, OF THE SAME CELLS, IN MEMORY OF THE CALL's OWN ('ownsRow': the how-to's 6f); below the heap's size at the call all is as it was. (LAID AT THE INSTANCE 'slices.Clone[[]string,string]': no walk: one application.) -/
theorem Tryd.slices_Clone (i0 : TypeInfo) (z : Value) (size bytes : Nat) (hi : Tryd.prog.info? 9 = some i0) (hz0 : i0.zero = some z) (hz1 : i0.size = size) (hz2 : i0.bytes = bytes) (hzs : z.cells.size = size) (hsz : 0 < size) (z23 : ∀ w, (Go.sizeOf 9).run Tryd.prog w = .ok size w) (b off n c : Nat) (news : List Value) (w : World) (hl : news.length = n * size) (hn : n ≤ maxLen) (hbig : n * bytes ≤ 140737488355328) (hc : ∀ j u, news[j]? = some u → w.cell? ⟨b, off + j, none⟩ = some u) (h1 : ∀ u ∈ news, u.oneCell' = true) :
    Calls Tryd.prog 13 #[.slice (some ⟨b, off, none⟩) n c] w fun e w' => ∃ v', e = .returned v' ∧ w'.ownsRow w.heap.size 9 size v' n news ∧ v' ≠ .slice none 0 0 ∧ Below w.heap.size w w' := AnyE.slices_Clone Tryd.laysSlE041_f13 i0 z size bytes hi hz0 hz1 hz2 hzs hsz z23 b off n c news w hl hn hbig hc h1
open Go.RowKit Go.Lib in
/-- The same at nil: nil comes back; the world is as it was; nothing is asked of the element's type. (LAID AT THE INSTANCE 'slices.Clone[[]string,string]': no walk: one application.) -/
theorem Tryd.slices_Clone_nil (n c : Nat) (w : World) :
    Calls Tryd.prog 13 #[.slice none n c] w fun e w' => e = .returned (.slice none 0 0) ∧ w' = w := AnyE.slices_Clone_nil Tryd.laysSlE041_f13 n c w
end Go.Proofs
end

section
namespace Go.Proofs.YtfdmdcpopmcmcaaDoor
open Go.Fw
variable [Gl]
/-- What package-level variable 0 (bytealg.MaxLen) holds. -/
def GInt : Prop := ∃ m : Int, fcell Gl.g ⟨0, 0, none⟩ = some (.int .i64 m)
theorem pre_tri (s p : By) : PTri Tryd.prog 34 [.str s, .str p] (.bool (Lib.hasPrefix s p)) :=
  PTri.of_same _ _ vrs_str2 (fun w => Tryd.strings_HasPrefix ⟨s.toArray⟩ ⟨p.toArray⟩ w) fun F => by simpa using VR.bool _
theorem trim_tri (s : By) : PTri Tryd.prog 37 [.str s, .str [32]] (.str (Lib.trimLeftB s 32)) :=
  PTri.of_same _ _ vrs_str2 (fun w => Tryd.strings_TrimLeft_one ⟨s.toArray⟩ 32 (by decide) w) fun F => by simpa using VR.str _
theorem cut_tri (hG : GInt) (s p : By) (hs : s.length < 4294967281) : PTri Tryd.prog 62 [.str s, .str p] (.tup [.str (Lib.cut s p).1, .str (Lib.cut s p).2.1, .bool (Lib.cut s p).2.2]) := by
  obtain ⟨m, hm⟩ := hG
  refine PTri.of_calls (fun w => w.cell? ⟨0, 0, none⟩ = some (.int .i64 m)) _ _ vrs_str2 (fun F w ho => fcell_gl ho hm) (fun w hw => Tryd.strings_Cut ⟨s.toArray⟩ ⟨p.toArray⟩ m w (by simpa [ByteArray.size] using hs) hw) fun F => ?_
  refine .tup _ _ rfl fun i v hv => ?_
  match i with
  | 0 => simp at hv; subst hv; simpa using VR.str _
  | 1 => simp at hv; subst hv; simpa using VR.str _
  | 2 => simp at hv; subst hv; simpa using VR.bool _
  | i + 3 => simp at hv
end Go.Proofs.YtfdmdcpopmcmcaaDoor
end

section
namespace Go.Proofs.YtfdmdcpopmcmcaaDoor
open Go.Fw
variable [Gl]
theorem isGo34 : isGo Tryd.prog 34 = true := by kernel_rfl
theorem isGo62 : isGo Tryd.prog 62 = true := by kernel_rfl
theorem isGo63 : isGo Tryd.prog 63 = true := by kernel_rfl
theorem isGo64 : isGo Tryd.prog 64 = true := by kernel_rfl
set_option maxRecDepth 20000
theorem field_tri (hG : GInt) (s : By) (hs : s.length ≤ 4294967280) : PTri Tryd.prog 38 [.str s] (.tup [.agg [.str (fieldL s).1.1, .str (fieldL s).1.2], .int .i64 (fieldL s).2.1, .bool (fieldL s).2.2]) := by
  have hw0 := tw_le (· != 32) s
  have hf0 : fieldL s = fieldL s := rfl
  conv at hf0 => rhs; unfold fieldL
  simp only at hf0
  have h1 := cut_tri hG s [32] (by omega)
  rw [cut1_fst] at h1
  generalize s.takeWhile (· != 32) = w at h1 hw0 hf0
  generalize (Lib.cut s [32]).2.1 = r1 at h1
  generalize (Lib.cut s [32]).2.2 = f1 at h1
  have hnm := tw_le (· != 61) w
  have h2 := cut_tri hG w [61] (by omega)
  rw [cut1_fst, cut1_found] at h2
  have hv := cut1_snd (c := 61) (s := w)
  generalize w.takeWhile (· != 61) = nm at h2 hv hf0 hnm
  generalize (Lib.cut w [61]).2.1 = v at h2 hv
  have h3 := pre_tri v [34]
  rw [pre1] at h3
  have h4 := unq_tri (s.drop (nm.length + 2)) (by simp; omega)
  have hus := unq_size (s.drop (nm.length + 2)) [] 0
  generalize unq (s.drop (nm.length + 2)) [] 0 = u at h4 hus hf0
  obtain ⟨u1, u2, u3⟩ := u
  simp only at h4 hus hf0
  rw [List.length_drop] at hus
  refine PTri.any (Tri.of_wc Tryd.func38 rfl Tryd.results38 Tryd.ntmps38 (by simp) ?_)
  refine WC.seq_k fun K1 hK2 => ?_
  refine WC.region ?_
  refine wU (gAlloc tzero41 fun b3 hb3 => ?_)
  refine wU (gE rfl ?_)
  refine wU (gE rfl ?_)
  refine wOps.done ?_
  refine hK2 _ _ _ ?_
  clear hK2 K1
  refine WC.seq_k fun K4 hK5 => ?_
  refine WC.region ?_
  refine wU (gE rfl ?_)
  refine wU (gPure rfl isGo62 h1 ?_)
  refine wU (gE rfl ?_)
  refine wU (gE rfl ?_)
  refine wU (gE rfl ?_)
  refine wU (gE rfl ?_)
  refine wU (gE rfl ?_)
  refine wU (gE rfl ?_)
  refine wU (gE rfl ?_)
  refine wOps.done ?_
  refine hK5 _ _ _ ?_
  clear hK5 K4
  refine WC.seq_k fun K6 hK7 => ?_
  refine WC.region ?_
  refine wU (gE rfl ?_)
  refine wU (gPure rfl isGo62 h2 ?_)
  refine wU (gE rfl ?_)
  refine wU (gE rfl ?_)
  refine wU (gE rfl ?_)
  refine wU (gE rfl ?_)
  refine wU (gE rfl ?_)
  refine wU (gE rfl ?_)
  refine wU (gE rfl ?_)
  refine wOps.done ?_
  refine hK7 _ _ _ ?_
  clear hK7 K6
  refine WC.seq_k fun K8 hK9 => ?_
  refine WC.seq_k fun K10 hK11 => ?_
  refine WC.region ?_
  refine wU (gE rfl ?_)
  refine wU (gE rfl ?_)
  refine wU (gE rfl ?_)
  refine wG rfl rfl rfl rfl (by decide) (fun c12 => ?_) (fun c12 => ?_)
  · skip
    refine gE rfl ?_
    refine wY rfl (gPure rfl isGo63 (isNm_tri2 _) ?_)
    refine wY rfl (gE rfl ?_)
    refine wU (gE rfl ?_)
    refine wOps.done ?_
    refine hK11 _ _ _ ?_
    clear hK11 K10
    refine WC.cond rfl (fun c13 => ?_) (fun c13 => ?_)
    · skip
      refine WC.seq_k fun K14 hK15 => ?_
      refine WC.region ?_
      refine wU (gBuild rfl rfl ?_)
      refine wU (gE rfl ?_)
      refine wU (gLen rfl rfl tisstr9 ?_)
      refine wU (gStore rfl rfl (by simp only [hget, ↓reduceIte] <;> rfl) tsz41 (by simp [vcells]) (by simp [vcells, leafV]) ?_)
      simp only [hset, stL, vcells, List.set_cons_zero, List.set_cons_succ, ↓reduceIte]
      refine wU (gE rfl ?_)
      refine wU (gE rfl ?_)
      refine wOps.done ?_
      refine hK15 _ _ _ ?_
      clear hK15 K14
      refine WC.ret ?_
      have e : fieldL s = (([], []), w.length, true) := by rw [hf0]; simp_all
      rw [e]
      exact ⟨_, by simp [resAll, resVs, resV, hdel, evLoad, hget, ldAt, tagg41, tsz41, frA, upd, hset, stL, putL] <;> rfl, rfl⟩
    · skip
      refine WC.skip ?_
      refine hK9 _ _ _ ?_
      clear hK9 K8
      refine WC.seq_k fun K16 hK17 => ?_
      refine WC.seq_k fun K18 hK19 => ?_
      refine WC.region ?_
      refine wU (gE rfl ?_)
      refine wU (gPure rfl isGo34 h3 ?_)
      refine wU (gE rfl ?_)
      refine wOps.done ?_
      refine hK19 _ _ _ ?_
      clear hK19 K18
      refine WC.cond rfl (fun c20 => ?_) (fun c20 => ?_)
      · skip
        refine WC.seq_k fun K21 hK22 => ?_
        refine WC.region ?_
        refine wU (gE rfl ?_)
        refine wU (gE rfl ?_)
        refine wU (gBuild (v := .agg [.str nm, .str v]) rfl rfl ?_)
        refine wU (gE rfl ?_)
        refine wU (gLen rfl rfl tisstr9 ?_)
        refine wU (gStore rfl rfl (by simp only [hget, ↓reduceIte] <;> rfl) tsz41 (by simp [vcells]) (by simp [vcells, leafV]) ?_)
        simp only [hset, stL, vcells, List.set_cons_zero, List.set_cons_succ, ↓reduceIte]
        refine wU (gE rfl ?_)
        refine wU (gE rfl ?_)
        refine wOps.done ?_
        refine hK22 _ _ _ ?_
        clear hK22 K21
        refine WC.ret ?_
        have hm : 61 ∈ w := by simpa using c12
        have e : fieldL s = ((nm, v), w.length, true) := by rw [hf0, if_neg (by simp_all), if_neg (by rw [← hv hm]; simpa using c20), hv hm]
        rw [e]
        exact ⟨_, by simp [resAll, resVs, resV, hdel, evLoad, hget, ldAt, tagg41, tsz41, frA, upd, hset, stL, putL] <;> rfl, rfl⟩
      · skip
        refine WC.skip ?_
        refine hK17 _ _ _ ?_
        clear hK17 K16
        refine WC.seq_k fun K23 hK24 => ?_
        refine WC.region ?_
        refine wU (gE rfl ?_)
        refine wU (gLen rfl rfl tisstr9 ?_)
        have hm : 61 ∈ w := by simpa using c12
        have hk : nm.length + 2 ≤ w.length := head_len (by rw [← hv hm]; simpa using c20)
        refine wU (gE (v := .int .i64 ((nm.length + 2 : Nat) : Int)) (int_fit (by omega) (by omega) (by omega)) ?_)
        refine wU (gE rfl ?_)
        refine wOps.done ?_
        refine hK24 _ _ _ ?_
        clear hK24 K23
        refine WC.seq_k fun K25 hK26 => ?_
        refine WC.region ?_
        refine wU (gE rfl ?_)
        refine wU (gE rfl ?_)
        refine wU (gSliceStr (l := some (nm.length + 2)) (r := none) tisstr9 rfl rfl rfl (by simp; omega) (by simp) ?_)
        have es : (s.drop (nm.length + 2)).take (s.length - (nm.length + 2)) = s.drop (nm.length + 2) := List.take_of_length_le (by simp)
        rw [← es] at h4
        refine wU (gPure rfl isGo64 h4 ?_)
        refine wU (gE rfl ?_)
        refine wU (gE rfl ?_)
        refine wU (gE rfl ?_)
        refine wU (gE rfl ?_)
        refine wU (gE rfl ?_)
        refine wU (gE rfl ?_)
        refine wU (gE rfl ?_)
        refine wOps.done ?_
        refine hK26 _ _ _ ?_
        clear hK26 K25
        refine WC.seq_k fun K27 hK28 => ?_
        refine WC.region ?_
        refine wU (gE rfl ?_)
        refine wU (gE rfl ?_)
        refine wU (gE (v := .int .i64 ((u2 + (nm.length + 2) : Nat) : Int)) (int_fit (by omega) (by omega) (by omega)) ?_)
        refine wU (gE rfl ?_)
        refine wOps.done ?_
        refine hK28 _ _ _ ?_
        clear hK28 K27
        refine WC.seq_k fun K29 hK30 => ?_
        refine WC.seq_k fun K31 hK32 => ?_
        refine WC.region ?_
        refine wU (gE rfl ?_)
        refine wU (gE rfl ?_)
        refine wU (gE rfl ?_)
        refine wG rfl rfl rfl rfl (by decide) (fun c33 => ?_) (fun c33 => ?_)
        · skip
          refine gE rfl ?_
          refine wY rfl (gE rfl ?_)
          refine wY rfl (gLen rfl rfl tisstr9 ?_)
          refine wY rfl (gE rfl ?_)
          refine wY rfl (gE rfl ?_)
          refine wG rfl rfl rfl rfl (by decide) (fun c34 => ?_) (fun c34 => ?_)
          · skip
            refine gE rfl ?_
            refine wY rfl (gE rfl ?_)
            have hsz : u2 + (nm.length + 2) < s.length := by have := of_decide_eq_true c34; omega
            refine wY rfl (gIdxStr tisstr9 rfl rfl (by omega) (str_at hsz) ?_)
            refine wY rfl (gE rfl ?_)
            refine wY rfl (gE rfl ?_)
            refine wU (gE rfl ?_)
            refine wOps.done ?_
            refine hK32 _ _ _ ?_
            clear hK32 K31
            refine WC.cond rfl (fun c35 => ?_) (fun c35 => ?_)
            · skip
              refine WC.seq_k fun K36 hK37 => ?_
              refine WC.region ?_
              refine wU (gBuild rfl rfl ?_)
              refine wU (gStore rfl rfl (by simp only [hget, ↓reduceIte] <;> rfl) tsz41 (by simp [vcells]) (by simp [vcells, leafV]) ?_)
              simp only [hset, stL, vcells, List.set_cons_zero, List.set_cons_succ, ↓reduceIte]
              refine wU (gE rfl ?_)
              refine wU (gE rfl ?_)
              refine wOps.done ?_
              refine hK37 _ _ _ ?_
              clear hK37 K36
              refine WC.ret ?_
              have e : fieldL s = (([], []), 0, false) := by rw [hf0, if_neg (by simp_all), if_pos (by rw [← hv hm]; simpa using c20), if_pos (by simp_all [u8_32])]
              rw [e]
              exact ⟨_, by simp [resAll, resVs, resV, hdel, evLoad, hget, ldAt, tagg41, tsz41, frA, upd, hset, stL, putL] <;> rfl, rfl⟩
            · skip
              refine WC.skip ?_
              refine hK30 _ _ _ ?_
              clear hK30 K29
              refine WC.seq_k fun K38 hK39 => ?_
              refine WC.region ?_
              refine wU (gE rfl ?_)
              refine wU (gE rfl ?_)
              refine wU (gBuild (v := .agg [.str nm, .str u1]) rfl rfl ?_)
              refine wU (gE rfl ?_)
              refine wU (gStore rfl rfl (by simp only [hget, ↓reduceIte] <;> rfl) tsz41 (by simp [vcells]) (by simp [vcells, leafV]) ?_)
              simp only [hset, stL, vcells, List.set_cons_zero, List.set_cons_succ, ↓reduceIte]
              refine wU (gE rfl ?_)
              refine wU (gE rfl ?_)
              refine wOps.done ?_
              refine hK39 _ _ _ ?_
              clear hK39 K38
              refine WC.ret ?_
              have e : fieldL s = ((nm, u1), u2 + (nm.length + 2), true) := by rw [hf0, if_neg (by simp_all), if_pos (by rw [← hv hm]; simpa using c20), if_neg (by first | (simp_all [u8_32]; done) | (simp_all [u8_32]; intro hh; omega))]
              rw [e]
              exact ⟨_, by simp [resAll, resVs, resV, hdel, evLoad, hget, ldAt, tagg41, tsz41, frA, upd, hset, stL, putL] <;> rfl, rfl⟩
          · skip
            refine wN rfl ?_
            refine wN rfl ?_
            refine wN rfl ?_
            refine wY rfl (gE rfl ?_)
            refine wU (gE rfl ?_)
            refine wOps.done ?_
            refine hK32 _ _ _ ?_
            clear hK32 K31
            first | refine WC.cond (b := false) rfl (fun hh => by simp at hh) (fun _ => ?_) | refine WC.cond rfl (fun hh => by simp_all) (fun _ => ?_)
            refine WC.skip ?_
            refine hK30 _ _ _ ?_
            clear hK30 K29
            refine WC.seq_k fun K40 hK41 => ?_
            refine WC.region ?_
            refine wU (gE rfl ?_)
            refine wU (gE rfl ?_)
            refine wU (gBuild (v := .agg [.str nm, .str u1]) rfl rfl ?_)
            refine wU (gE rfl ?_)
            refine wU (gStore rfl rfl (by simp only [hget, ↓reduceIte] <;> rfl) tsz41 (by simp [vcells]) (by simp [vcells, leafV]) ?_)
            simp only [hset, stL, vcells, List.set_cons_zero, List.set_cons_succ, ↓reduceIte]
            refine wU (gE rfl ?_)
            refine wU (gE rfl ?_)
            refine wOps.done ?_
            refine hK41 _ _ _ ?_
            clear hK41 K40
            refine WC.ret ?_
            have e : fieldL s = ((nm, u1), u2 + (nm.length + 2), true) := by rw [hf0, if_neg (by simp_all), if_pos (by rw [← hv hm]; simpa using c20), if_neg (by first | (simp_all [u8_32]; done) | (simp_all [u8_32]; intro hh; omega))]
            rw [e]
            exact ⟨_, by simp [resAll, resVs, resV, hdel, evLoad, hget, ldAt, tagg41, tsz41, frA, upd, hset, stL, putL] <;> rfl, rfl⟩
        · skip
          refine wN rfl ?_
          refine wN rfl ?_
          refine wN rfl ?_
          refine wN rfl ?_
          refine wZ rfl ?_
          refine wZ rfl ?_
          refine wZ rfl ?_
          refine wZ rfl ?_
          refine wN rfl ?_
          refine wU (gE rfl ?_)
          refine wOps.done ?_
          refine hK32 _ _ _ ?_
          clear hK32 K31
          first | refine WC.cond (b := true) rfl (fun _ => ?_) (fun hh => by simp at hh) | refine WC.cond rfl (fun _ => ?_) (fun hh => by simp_all)
          refine WC.seq_k fun K42 hK43 => ?_
          refine WC.region ?_
          refine wU (gBuild rfl rfl ?_)
          refine wU (gStore rfl rfl (by simp only [hget, ↓reduceIte] <;> rfl) tsz41 (by simp [vcells]) (by simp [vcells, leafV]) ?_)
          simp only [hset, stL, vcells, List.set_cons_zero, List.set_cons_succ, ↓reduceIte]
          refine wU (gE rfl ?_)
          refine wU (gE rfl ?_)
          refine wOps.done ?_
          refine hK43 _ _ _ ?_
          clear hK43 K42
          refine WC.ret ?_
          have e : fieldL s = (([], []), 0, false) := by rw [hf0, if_neg (by simp_all), if_pos (by rw [← hv hm]; simpa using c20), if_pos (by simp_all [u8_32])]
          rw [e]
          exact ⟨_, by simp [resAll, resVs, resV, hdel, evLoad, hget, ldAt, tagg41, tsz41, frA, upd, hset, stL, putL] <;> rfl, rfl⟩
  · skip
    refine wN rfl ?_
    refine wN rfl ?_
    refine wU (gE rfl ?_)
    refine wOps.done ?_
    refine hK11 _ _ _ ?_
    clear hK11 K10
    first | refine WC.cond (b := true) rfl (fun _ => ?_) (fun hh => by simp at hh) | refine WC.cond rfl (fun _ => ?_) (fun hh => by simp_all)
    refine WC.seq_k fun K44 hK45 => ?_
    refine WC.region ?_
    refine wU (gBuild rfl rfl ?_)
    refine wU (gE rfl ?_)
    refine wU (gLen rfl rfl tisstr9 ?_)
    refine wU (gStore rfl rfl (by simp only [hget, ↓reduceIte] <;> rfl) tsz41 (by simp [vcells]) (by simp [vcells, leafV]) ?_)
    simp only [hset, stL, vcells, List.set_cons_zero, List.set_cons_succ, ↓reduceIte]
    refine wU (gE rfl ?_)
    refine wU (gE rfl ?_)
    refine wOps.done ?_
    refine hK45 _ _ _ ?_
    clear hK45 K44
    refine WC.ret ?_
    have e : fieldL s = (([], []), w.length, true) := by rw [hf0]; simp_all
    rw [e]
    exact ⟨_, by simp [resAll, resVs, resV, hdel, evLoad, hget, ldAt, tagg41, tsz41, frA, upd, hset, stL, putL] <;> rfl, rfl⟩
end Go.Proofs.YtfdmdcpopmcmcaaDoor
end

section
namespace Go.Proofs.YtfdmdcpopmcmcaaDoor
open Go.Fw
variable [Gl]
theorem isGo26 : isGo Tryd.prog 26 = true := by kernel_rfl
theorem isGo40 : isGo Tryd.prog 40 = true := by kernel_rfl
abbrev lbv (p : Lb) : V := .agg [.str p.1, .str p.2]
theorem long_tri (p : Lb) : PTri Tryd.prog 23 [lbv p] (.bool (decide (200 < p.2.length))) := by
  unfold lbv
  refine PTri.any (Tri.of_wc Tryd.func23 rfl Tryd.results23 Tryd.ntmps23 (by simp) ?_)
  refine WC.seq_k fun K1 hK2 => ?_
  refine WC.region ?_
  refine wU (gBox rfl fun b3 hb3 => ?_)
  refine wU (gE rfl ?_)
  refine wOps.done ?_
  refine hK2 _ _ _ ?_
  clear hK2 K1
  refine WC.seq_k fun K4 hK5 => ?_
  refine WC.region ?_
  refine wU (gField tfld41_1 tsz9 rfl ?_)
  refine wU (gLoad tagg9 rfl (by simp only [hget, ↓reduceIte] <;> rfl) rfl ?_)
  refine wU (gLen rfl rfl tisstr9 ?_)
  refine wU (gE rfl ?_)
  refine wU (gE rfl ?_)
  refine wOps.done ?_
  refine hK5 _ _ _ ?_
  clear hK5 K4
  refine WC.ret ?_
  exact ⟨_, rfl, by simp; omega⟩
theorem nameCmp_tri (p q : Lb) : PTri Tryd.prog 25 [lbv p, lbv q] (.int .i64 (cmpB p.1 q.1)) := by
  unfold lbv
  refine PTri.any (Tri.of_wc Tryd.func25 rfl Tryd.results25 Tryd.ntmps25 (by simp) ?_)
  refine WC.seq_k fun K1 hK2 => ?_
  refine WC.region ?_
  refine wU (gBox rfl fun b3 hb3 => ?_)
  refine wU (gBox rfl fun b4 hb4 => ?_)
  simp only [Hp.ns_cons, Hp.ns_nil, List.mem_cons, List.not_mem_nil, or_false, not_or] at hb4
  refine wU (gE rfl ?_)
  refine wOps.done ?_
  refine hK2 _ _ _ ?_
  clear hK2 K1
  refine WC.seq_k fun K5 hK6 => ?_
  refine WC.region ?_
  refine wU (gField tfld41_0 tsz9 rfl ?_)
  refine wU (gLoad tagg9 rfl (by simp only [hget, hb4, ↓reduceIte] <;> rfl) rfl ?_)
  refine wU (gField tfld41_0 tsz9 rfl ?_)
  refine wU (gLoad tagg9 rfl (by simp only [hget, hb4, ↓reduceIte] <;> rfl) rfl ?_)
  refine wU (gPure rfl isGo26 (cmpB_tri _ _) ?_)
  refine wU (gE rfl ?_)
  refine wOps.done ?_
  refine hK6 _ _ _ ?_
  clear hK6 K5
  refine WC.ret ?_
  exact ⟨_, rfl, rfl⟩
def idxF (f : Lb → Bool) (i : Nat) : List Lb → Int
  | [] => -1
  | y :: r => if f y then i else idxF f (i + 1) r
theorem idxF_step {f : Lb → Bool} {l : List Lb} {i : Nat} (h : i < l.length) : idxF f i (l.drop i) = if f l[i] then (i : Int) else idxF f (i + 1) (l.drop (i + 1)) := by
  rw [List.drop_eq_getElem_cons h]; rfl
theorem idxF_any (f : Lb → Bool) : ∀ (l : List Lb) (i : Nat), decide (0 ≤ idxF f i l) = l.any f
  | [], i => by simp [idxF]
  | y :: r, i => by
    have := idxF_any f r (i + 1)
    simp only [idxF, List.any_cons]
    by_cases h : f y = true
    · simp [h]
    · simp [h, this]
theorem idxF_tri (g : FuncId) (f : Lb → Bool) (hgo : isGo Tryd.prog g = true) (hg : ∀ p, PTri Tryd.prog g [lbv p] (.bool (f p))) (l : List Lb) (hl : l.length ≤ 4294967295) : PTri Tryd.prog 40 [lsl l, .clo g []] (.int .i64 (idxF f 0 l)) := by
  unfold lsl
  unfold lbv at hg
  refine Tri.of_wc Tryd.func40 rfl Tryd.results40 Tryd.ntmps40 (by simp) ?_
  refine WC.seq_k fun K1 hK2 => ?_
  refine WC.region ?_
  refine wU (gE rfl ?_)
  refine wOps.done ?_
  refine hK2 _ _ _ ?_
  clear hK2 K1
  refine WC.seq_k fun K3 hK4 => ?_
  refine WC.seq_k fun K5 hK6 => ?_
  refine WC.region ?_
  refine wU (gE rfl ?_)
  refine wU (gLen rfl rfl (by rw [lenFits, tslice22]; rfl) ?_)
  refine wU (gE rfl ?_)
  refine wOps.done ?_
  refine hK6 _ _ _ ?_
  clear hK6 K5
  refine WC.block ?_
  refine WC.loopI (α := Nat) (fun i => [(0, .fslice (lcs l) l.length), (1, .clo g []), (7, .int .i64 l.length), (8, .int .i64 i)]) (fun _ => []) (fun i => l.length - i) (fun i => i ≤ l.length ∧ idxF f 0 l = idxF f i (l.drop i)) 0 ?_ ?_ ?_ ?_
  · exact sub_cons rfl (sub_cons rfl (sub_cons rfl (sub_cons rfl (sub_nil _))))
  · exact Ent.refl _ _
  · exact ⟨by simp, by simp⟩
  rintro i ⟨hil, hc⟩
  refine WC.seq_k fun K7 hK8 => ?_
  refine WC.region ?_
  refine wU (gE rfl ?_)
  refine wOps.done ?_
  refine hK8 _ _ _ ?_
  clear hK8 K7
  refine WC.seq_k fun K9 hK10 => ?_
  refine WC.cond rfl (fun c11 => ?_) (fun c11 => ?_)
  · skip
    refine WC.skip ?_
    refine hK10 _ _ _ ?_
    clear hK10 K9
    refine WC.seq_k fun K12 hK13 => ?_
    refine WC.block ?_
    refine WC.seq_k fun K14 hK15 => ?_
    refine WC.region ?_
    refine wU (gE rfl ?_)
    refine wU (gE rfl ?_)
    refine wOps.done ?_
    refine hK15 _ _ _ ?_
    clear hK15 K14
    refine WC.seq_k fun K16 hK17 => ?_
    refine WC.region ?_
    refine wU (gE rfl ?_)
    refine wU (gE rfl ?_)
    refine wU (gE rfl ?_)
    have hi : i < l.length := by simpa using c11
    refine wU (gIdxF tslice22 tsz41 rfl rfl (by omega) (by omega) ?_)
    refine wU (gLoadAF tagg41 tsz41 rfl (by rw [lcs_length]; omega) (lcs_pair hi) ?_)
    refine wU (gPureV rfl rfl hgo (hg l[i]) ?_)
    refine wOps.done ?_
    refine hK17 _ _ _ ?_
    clear hK17 K16
    refine WC.cond rfl (fun c18 => ?_) (fun c18 => ?_)
    · skip
      refine WC.seq_k fun K19 hK20 => ?_
      refine WC.region ?_
      refine wU (gE rfl ?_)
      refine wU (gE rfl ?_)
      refine wOps.done ?_
      refine hK20 _ _ _ ?_
      clear hK20 K19
      refine WC.ret ?_
      refine ⟨_, rfl, congrArg (V.int .i64) ?_, rfl⟩
      rw [hc, idxF_step hi]; simp_all
    · skip
      refine WC.skip ?_
      refine hK13 _ _ _ ?_
      clear hK13 K12
      refine WC.region ?_
      refine wU (gE rfl ?_)
      refine wU (gE rfl ?_)
      refine wOps.done ?_
      exact ⟨i + 1, rfl, by omega, ⟨by omega, by rw [hc, idxF_step hi]; simp_all⟩, Ent.sub (sub_cons rfl (sub_cons rfl (sub_cons rfl (sub_cons (int_fit (by omega) (by omega) (by omega)) (sub_nil _)))))⟩
  · skip
    refine WC.exit ?_
    refine hK4 _ _ _ ?_
    clear hK10 K9 hK4 K3
    refine WC.seq_k fun K21 hK22 => ?_
    refine WC.region ?_
    refine wU (gE rfl ?_)
    refine wOps.done ?_
    refine hK22 _ _ _ ?_
    clear hK22 K21
    refine WC.ret ?_
    refine ⟨_, rfl, congrArg (V.int .i64) ?_, rfl⟩
    rw [hc, List.drop_of_length_le (by have := of_decide_eq_false c11; omega)]; rfl
theorem hasF_tri (g : FuncId) (f : Lb → Bool) (hgo : isGo Tryd.prog g = true) (hg : ∀ p, PTri Tryd.prog g [lbv p] (.bool (f p))) (l : List Lb) (hl : l.length ≤ 4294967295) : PTri Tryd.prog 22 [lsl l, .clo g []] (.bool (l.any f)) := by
  refine Tri.of_wc Tryd.func22 rfl Tryd.results22 Tryd.ntmps22 (by simp) ?_
  refine WC.seq_k fun K1 hK2 => ?_
  refine WC.region ?_
  refine wU (gE rfl ?_)
  refine wOps.done ?_
  refine hK2 _ _ _ ?_
  clear hK2 K1
  refine WC.seq_k fun K3 hK4 => ?_
  refine WC.region ?_
  refine wU (gE rfl ?_)
  refine wU (gE rfl ?_)
  refine wU (gPure rfl isGo40 (idxF_tri g f hgo hg l hl) ?_)
  refine wU (gE rfl ?_)
  refine wU (gE rfl ?_)
  refine wOps.done ?_
  refine hK4 _ _ _ ?_
  clear hK4 K3
  refine WC.ret ?_
  exact ⟨_, rfl, congrArg V.bool (idxF_any f l 0), rfl⟩
end Go.Proofs.YtfdmdcpopmcmcaaDoor
end

section
namespace Go.Proofs.YtfdmdcpopmcmcaaDoor
open Go.Fw
variable [Gl]
theorem isGo66 : isGo Tryd.prog 66 = true := by kernel_rfl
theorem tagg22 : tagg Tryd.prog 22 = some false := by kernel_rfl
theorem tagg33 : tagg Tryd.prog 33 = some false := by kernel_rfl
theorem frz_lcs (b : Nat) (cs : List V) : ∀ l : List Lb, frzL b cs (lcs l) = lcs l
  | [] => by simp [lcs, frzL]
  | p :: l => by simp [lcs, frzL, frzV, frz_lcs b cs l]
theorem frz_scs (b : Nat) (cs : List V) : ∀ l : List By, frzL b cs (scs l) = scs l
  | [] => by simp [scs, frzL]
  | p :: l => by
    have := frz_scs b cs l
    simp only [scs] at this
    simp [scs, frzL, frzV, this]
def markCaps (l : List Lb) (ns : List By) : List V := [.fptr [lsl l] 0, .fptr [ssl ns] 0]
theorem marked_tri (l : List Lb) (ns : List By) : PTri Tryd.prog 39 [lsl l, ssl ns] (.clo 65 (markCaps l ns)) := by
  have ht : Tri Tryd.prog 39 [lsl l, ssl ns] [] fun v h' => ∃ b1 b2, v = .clo 65 [.ptr b1 0, .ptr b2 0] ∧ h' = [(b2, .cells 33 [ssl ns] 1), (b1, .cells 22 [lsl l] 1)] ∧ ¬ b2 = b1 := by
    unfold lsl ssl
    refine Tri.of_wc Tryd.func39 rfl Tryd.results39 Tryd.ntmps39 (by simp) ?_
    refine WC.seq_k fun K1 hK2 => ?_
    refine WC.region ?_
    refine wU (gBox rfl fun b3 hb3 => ?_)
    refine wU (gBox rfl fun b4 hb4 => ?_)
    simp only [Hp.ns_cons, Hp.ns_nil, List.mem_cons, List.not_mem_nil, or_false, not_or] at hb4
    refine wU (gE rfl ?_)
    refine wOps.done ?_
    refine hK2 _ _ _ ?_
    clear hK2 K1
    refine WC.seq_k fun K5 hK6 => ?_
    refine WC.region ?_
    refine wU (gE rfl ?_)
    refine wU (gE rfl ?_)
    refine wOps.done ?_
    refine hK6 _ _ _ ?_
    clear hK6 K5
    refine WC.ret ?_
    exact ⟨_, rfl, _, _, rfl, rfl, by simp_all⟩
  refine Tri.vent ht ?_
  rintro v h' ⟨b1, b2, rfl, rfl, hne⟩
  refine ⟨_, _, .freeze b2 (by simp [hget]; exact ⟨rfl, rfl, rfl⟩) (.freeze b1 (by simp [frzH, hdel, hget, frzO, frzL, frzV, hne, lsl, frz_lcs]; exact ⟨rfl, rfl, rfl⟩) (.refl _ _)), ?_, ?_⟩
  · simp [frzV, frzL, hne, Ne.symm hne, markCaps, lsl, ssl, frz_scs]
  · simp [frzH, hdel]
theorem marked1_iter (l : List Lb) (ns : List By) (hl : l.length ≤ 4294967295) (hn : ns.length ≤ 4294967295) : IterC Tryd.prog 65 (markCaps l ns) (l.map fun p => [lbv p, .bool (ns.contains p.1)]) := by
  unfold markCaps lsl ssl lbv
  intro y J S hy h0 hJ0
  rw [List.length_map] at *
  have hy : ∀ (k : Nat) (hk : k < l.length) (h : Hp), J k h → YieldS Tryd.prog y [.agg [.str l[k].1, .str l[k].2], .bool (ns.contains l[k].1)] h fun v h' => (v = .bool true ∧ J (k + 1) h') ∨ (v = .bool false ∧ S h') := fun k hk h hJ => by
    have := hy k (by simpa using hk) h hJ
    simpa using this
  refine Tri.of_wc Tryd.func65 rfl Tryd.results65 Tryd.ntmps65 (by simp) ?_
  refine WC.seq_k fun K1 hK2 => ?_
  refine WC.region ?_
  refine wU (gLoadF tagg22 rfl rfl ?_)
  refine wU (gLen rfl rfl (by rw [lenFits, tslice22]; rfl) ?_)
  refine wU (gE rfl ?_)
  refine wOps.done ?_
  refine hK2 _ _ _ ?_
  clear hK2 K1
  refine WC.block ?_
  refine WC.loopI (α := Nat × Hp) (fun a => [(0, .yield y), (1, .fptr [.fslice (lcs l) l.length] 0), (2, .fptr [.fslice (scs ns) ns.length] 0), (6, .fslice (lcs l) l.length), (7, .int .i64 l.length), (8, .int .i64 a.1)]) (fun a => a.2) (fun a => l.length - a.1) (fun a => a.1 ≤ l.length ∧ J a.1 a.2) (0, h0) ?_ ?_ ?_ ?_
  · exact sub_cons rfl (sub_cons rfl (sub_cons rfl (sub_cons rfl (sub_cons rfl (sub_cons rfl (sub_nil _))))))
  · exact Ent.refl _ _
  · exact ⟨by simp, hJ0⟩
  rintro ⟨i, h⟩ ⟨hil, hJ⟩
  simp only at hil hJ ⊢
  refine WC.seq_k fun K3 hK4 => ?_
  refine WC.region ?_
  refine wU (gE rfl ?_)
  refine wOps.done ?_
  refine hK4 _ _ _ ?_
  clear hK4 K3
  refine WC.seq_k fun K5 hK6 => ?_
  refine WC.cond rfl (fun c7 => ?_) (fun c7 => ?_)
  · skip
    refine WC.skip ?_
    refine hK6 _ _ _ ?_
    clear hK6 K5
    refine WC.seq_k fun K8 hK9 => ?_
    refine WC.block ?_
    refine WC.seq_k fun K10 hK11 => ?_
    refine WC.region ?_
    have hi : i < l.length := by simpa using c7
    refine wU (gIdxF tslice22 tsz41 rfl rfl (by omega) (by omega) ?_)
    refine wU (gLoadAF tagg41 tsz41 rfl (by rw [lcs_length]; omega) (lcs_pair hi) ?_)
    refine wU (gAlloc tzero41 fun b12 hb12 => ?_)
    refine wU (gStore rfl rfl (by simp only [hget, ↓reduceIte] <;> rfl) tsz41 (by simp [vcells]) (by simp [vcells, leafV]) ?_)
    simp only [hset, stL, vcells, List.set_cons_zero, List.set_cons_succ, ↓reduceIte]
    refine wOps.done ?_
    refine hK11 _ _ _ ?_
    clear hK11 K10
    refine WC.seq_k fun K13 hK14 => ?_
    refine WC.region_draw mixed ?_
    refine wA.val 0 rfl rfl rfl (fun _ _ hK => gE rfl hK) (by kernel_rfl) ?_
    refine wA.val 2 rfl rfl rfl (fun _ _ hK => gLoadF tagg33 rfl rfl hK) (by kernel_rfl) ?_
    refine wA.val 3 rfl rfl rfl (fun _ _ hK => gField tfld41_0 tsz9 rfl hK) (by kernel_rfl) ?_
    refine wA.ld 4 rfl rfl rfl (fun _ hle _ hK => gLoad tagg9 rfl (hle _ _ (by simp only [hget, ↓reduceIte] <;> rfl)) rfl hK) (by kernel_rfl) ?_
    refine wA.val 5 rfl rfl rfl (fun _ _ hK => by refine gPure rfl isGo66 (has_tri ns _ hn) ?_; exact hK) (by kernel_rfl) ?_
    refine wA.ld 1 rfl rfl rfl (fun _ hle _ hK => gLoadA tagg41 tsz41 rfl (hle _ _ (by simp only [hget, ↓reduceIte] <;> rfl)) (by simp [putL]) rfl hK) (by kernel_rfl) ?_
    refine wA.eff 6 rfl (by kernel_rfl) rfl ?_
    refine gYield rfl rfl (YieldS.sub (List.sublist_cons_self _ _) (YieldS.b (hy i hi h hJ) fun b h1 hb1 hb2 => ?_))
    refine wA.back ?_
    refine wA.val 7 rfl rfl rfl (fun _ _ hK => gE rfl hK) (by kernel_rfl) ?_
    refine wA.done (by kernel_rfl) ?_
    refine hK14 _ _ _ ?_
    clear hK14 K13
    refine WC.cond rfl (fun c15 => ?_) (fun c15 => ?_)
    · skip
      refine WC.ret ?_
      exact ⟨_, rfl, .inr (hb2 (by simpa using c15))⟩
    · skip
      refine WC.skip ?_
      refine hK9 _ _ _ ?_
      clear hK9 K8
      refine WC.region ?_
      refine wU (gE rfl ?_)
      refine wU (gE rfl ?_)
      refine wOps.done ?_
      exact ⟨(i + 1, h1), rfl, by simp only; omega, ⟨by simp only; omega, hb1 (by simpa using c15)⟩, Ent.sub (sub_cons rfl (sub_cons rfl (sub_cons rfl (sub_cons rfl (sub_cons rfl (sub_cons (int_fit (by omega) (by omega) (by omega)) (sub_nil _)))))))⟩
  · skip
    refine WC.exit ?_
    have he : i = l.length := by have := of_decide_eq_false c7; omega
    exact ⟨_, rfl, .inl (he ▸ hJ)⟩
end Go.Proofs.YtfdmdcpopmcmcaaDoor
end

section
namespace Go.Proofs.YtfdmdcpopmcmcaaDoor
open Go.Fw
variable [Gl]
theorem isGo39 : isGo Tryd.prog 39 = true := by kernel_rfl
theorem isGo65 : isGo Tryd.prog 65 = true := by kernel_rfl
theorem tzero9 : tzero Tryd.prog 9 = some [.str []] := by kernel_rfl
set_option maxRecDepth 20000
def getL : List Lb → By → By
  | [], _ => []
  | p :: r, nm => if p.1 == nm then p.2 else getL r nm
theorem getL_step {l : List Lb} {nm : By} {i : Nat} (h : i < l.length) : getL (l.drop i) nm = if l[i].1 == nm then l[i].2 else getL (l.drop (i + 1)) nm := by
  rw [List.drop_eq_getElem_cons h]; rfl
theorem get_tri (l : List Lb) (nm : By) (hl : l.length ≤ 4294967295) : PTri Tryd.prog 21 [lsl l, .str nm] (.str (getL l nm)) := by
  unfold lsl
  refine PTri.any (Tri.of_wc Tryd.func21 rfl Tryd.results21 Tryd.ntmps21 (by simp) ?_)
  refine WC.seq_k fun K1 hK2 => ?_
  refine WC.region ?_
  refine wU (gAlloc tzero9 fun b3 hb3 => ?_)
  refine wOps.done ?_
  refine hK2 _ _ _ ?_
  clear hK2 K1
  refine WC.seq_k fun K4 hK5 => ?_
  refine WC.seq_k fun K6 hK7 => ?_
  refine WC.region ?_
  refine wU (gE rfl ?_)
  refine wU (gE rfl ?_)
  refine wU (gBuildSlice (cs := [.str nm]) tslice33 tsz9 tzero9 rfl (by simp [evFill, putL, zcells, vcells]) (by decide) (by decide) fun b8 hb8 => ?_)
  simp only [Hp.ns_cons, Hp.ns_nil, List.mem_cons, List.not_mem_nil, or_false, not_or] at hb8
  simp only [List.length_singleton]
  have hm := (Tri.give (b := b8) (us := [.fslice (lcs l) l.length, .slice b8 0 1 1]) (T := 9) (cs := [.str nm]) (nn := 1) (marked_tri l [nm]) (by simp [lsl, ssl, frzV, frz_lcs, scs])).frame [(b3, .cells 9 [.str []] 1)]
  have hm2 := @CallS.of_tri _ Tryd.prog 39 _ _ _ isGo39 hm
  simp only [List.singleton_append] at hm2
  refine wU (gCall (by rfl) (@CallS.mono _ Tryd.prog 39 _ _ _ _ hm2 ?_))
  rintro v h1 ⟨h2, rfl, ⟨rfl, rfl⟩, -⟩
  simp only [List.nil_append]
  refine wOps.done ?_
  refine hK7 _ _ _ ?_
  clear hK7 K6
  refine WC.block ?_
  refine WC.range (f := 65) (caps := markCaps l [nm]) (xs := l.map fun p => [lbv p, .bool ([nm].contains p.1)]) (fun k h => h = [(b3, .cells 9 [.str []] 1)] ∧ getL l nm = getL (l.drop k) nm) (fun c h => c = .ret ∧ h = [(b3, .cells 9 [.str (getL l nm)] 1)]) rfl isGo65 (marked1_iter l [nm] hl (by simp)) (by decide) (by intro a ha; obtain ⟨p, -, rfl⟩ := List.mem_map.1 ha; rfl) ?_ ?_ ?_ ?_
  · exact ⟨rfl, rfl⟩
  · intro y k hk h hI
    obtain ⟨rfl, hg⟩ := hI
    rw [List.length_map] at hk
    simp only [List.getElem_map]
    show WC _ _ _ _ (upd (upd _ 11 (lbv l[k])) 12 (.bool ([nm].contains l[k].1))) _ _ _
    unfold lbv
    refine WC.seq_k fun K9 hK10 => ?_
    refine WC.region ?_
    refine wU (gAlloc tzero41 fun b11 hb11 => ?_)
    simp only [Hp.ns_cons, Hp.ns_nil, List.mem_cons, List.not_mem_nil, or_false, not_or] at hb11
    refine wU (gStore rfl rfl (by simp only [hget, hb11, ↓reduceIte] <;> rfl) tsz41 (by simp [vcells]) (by simp [vcells, leafV]) ?_)
    simp only [hset, stL, vcells, List.set_cons_zero, List.set_cons_succ, hb11, ↓reduceIte]
    refine wOps.done ?_
    refine hK10 _ _ _ ?_
    clear hK10 K9
    refine WC.region ?_
    refine wU (gE rfl ?_)
    refine wOps.done ?_
    simp only [thn]
    refine WC.post ?_
    refine WC.block ?_
    refine WC.seq_k fun K12 hK13 => ?_
    refine WC.region ?_
    refine wU (gE rfl ?_)
    refine wOps.done ?_
    refine hK13 _ _ _ ?_
    clear hK13 K12
    refine WC.cond rfl (fun c14 => ?_) (fun c14 => ?_)
    · skip
      refine WC.seq_k fun K15 hK16 => ?_
      refine WC.region ?_
      refine wU (gField tfld41_1 tsz9 rfl ?_)
      refine wU (gLoad tagg9 rfl (by simp only [hget, hb11, ↓reduceIte] <;> rfl) rfl ?_)
      refine wU (gStore rfl rfl (by simp only [hget, hb11, ↓reduceIte] <;> rfl) tsz9 (by simp [vcells]) (by simp [vcells, leafV]) ?_)
      simp only [hset, stL, vcells, List.set_cons_zero, List.set_cons_succ, hb11, ↓reduceIte]
      refine wOps.done ?_
      refine hK16 _ _ _ ?_
      clear hK16 K15
      refine WC.ret ?_
      exact ⟨_, _, (Ent.sub (sub_nil _)).trans (Ent.drop (List.sublist_cons_self _ _)), rfl, by rw [hg, getL_step hk]; simp_all⟩
    · skip
      refine WC.skip ?_
      exact ⟨_, _, (Ent.sub (sub_nil _)).trans (Ent.drop (List.sublist_cons_self _ _)), rfl, by rw [hg, getL_step hk]; simp_all⟩
  · rintro r h hr ⟨rfl, hg⟩
    simp only [Hp.ns_cons, Hp.ns_nil, List.mem_cons, List.not_mem_nil, or_false, not_or] at hr
    refine hK5 _ _ _ ?_
    clear hK5 K4
    refine WC.seq_k fun K17 hK18 => ?_
    refine WC.region ?_
    refine wU (gStore rfl rfl (by simp only [hget, hr, ↓reduceIte] <;> rfl) tsz9 (by simp [vcells]) (by simp [vcells, leafV]) ?_)
    simp only [hset, stL, vcells, List.set_cons_zero, List.set_cons_succ, hr, ↓reduceIte]
    refine wOps.done ?_
    refine hK18 _ _ _ ?_
    clear hK18 K17
    refine WC.ret ?_
    refine ⟨by simp [hget], .str (getL l nm), ?_, rfl⟩
    first | (simp [resAll, resVs, resV, hdel, evLoad, hget, ldAt, tagg9, frA, upd, hset, stL, putL, hr]; done) | (simp [resAll, resVs, resV, hdel, evLoad, hget, ldAt, tagg9, frA, upd, hset, stL, putL, hr, hg, getL]; done)
  · rintro r h c hr ⟨rfl, rfl⟩
    simp only [Hp.ns_cons, Hp.ns_nil, List.mem_cons, List.not_mem_nil, or_false, not_or] at hr
    refine WC.ret ?_
    refine ⟨by simp [hget], .str (getL l nm), ?_, rfl⟩
    first | (simp [resAll, resVs, resV, hdel, evLoad, hget, ldAt, tagg9, frA, upd, hset, stL, putL, hr]; done) | (simp [resAll, resVs, resV, hdel, evLoad, hget, ldAt, tagg9, frA, upd, hset, stL, putL, hr, hg, getL]; done)
end Go.Proofs.YtfdmdcpopmcmcaaDoor
end

section
namespace Go.Proofs.YtfdmdcpopmcmcaaDoor
open Go.Fw
variable [Gl]
theorem isGo37 : isGo Tryd.prog 37 = true := by kernel_rfl
theorem isGo38 : isGo Tryd.prog 38 = true := by kernel_rfl
set_option maxRecDepth 20000
theorem fields_tri (s : By) : PTri Tryd.prog 20 [.str s] (.clo 36 [.fptr [.str s] 0]) := by
  have ht : Tri Tryd.prog 20 [.str s] [] fun v h' => ∃ b, v = .clo 36 [.ptr b 0] ∧ h' = [(b, .cells 9 [.str s] 1)] := by
    refine Tri.of_wc Tryd.func20 rfl Tryd.results20 Tryd.ntmps20 (by simp) ?_
    refine WC.seq_k fun K1 hK2 => ?_
    refine WC.region ?_
    refine wU (gBox rfl fun b3 hb3 => ?_)
    refine wU (gE rfl ?_)
    refine wOps.done ?_
    refine hK2 _ _ _ ?_
    clear hK2 K1
    refine WC.seq_k fun K4 hK5 => ?_
    refine WC.region ?_
    refine wU (gE rfl ?_)
    refine wU (gE rfl ?_)
    refine wOps.done ?_
    refine hK5 _ _ _ ?_
    clear hK5 K4
    refine WC.ret ?_
    exact ⟨_, rfl, _, rfl, rfl⟩
  refine Tri.vent ht ?_
  rintro v h' ⟨b1, rfl, rfl⟩
  refine ⟨_, _, .freeze b1 (by simp [hget]; exact ⟨rfl, rfl, rfl⟩) (.refl _ _), ?_, ?_⟩
  · simp [frzV, frzL]
  · simp [frzH, hdel]
abbrev fyV (x : Lb × Bool) : List V := [lbv x.1, .bool x.2]
theorem fields1_iter (hG : GInt) (s : By) (hs : s.length ≤ 4294967280) : IterC Tryd.prog 36 [.fptr [.str s] 0] ((fieldsL s).map fyV) := by
  intro y J S hy h0 hJ0
  generalize hxs : (fieldsL s).map fyV = xs at hy ⊢
  unfold fyV lbv at hxs
  refine Tri.of_wc Tryd.func36 rfl Tryd.results36 Tryd.ntmps36 (by simp) ?_
  refine WC.seq_k fun K1 hK2 => ?_
  refine WC.region ?_
  refine wU (gLoadF tagg9 rfl rfl ?_)
  have htr := trim_tri s
  rw [trim1] at htr
  refine wU (gPure rfl isGo37 htr ?_)
  refine wU (gE rfl ?_)
  refine wOps.done ?_
  refine hK2 _ _ _ ?_
  clear hK2 K1
  refine WC.block ?_
  refine WC.loopI (α := By × Nat × Nat × Hp) (fun a => [(0, .yield y), (3, .str a.1)]) (fun a => a.2.2.2) (fun a => a.1.length) (fun a => a.1.length ≤ a.2.1 ∧ a.1.length ≤ s.length ∧ a.1.head? ≠ some 32 ∧ a.2.2.1 ≤ xs.length ∧ (fieldsF a.2.1 a.1).map (fun x => [V.agg [.str x.1.1, .str x.1.2], V.bool x.2]) = xs.drop a.2.2.1 ∧ J a.2.2.1 a.2.2.2) (trimL s, (trimL s).length, 0, h0) ?_ ?_ ?_ ?_
  · exact sub_cons rfl (sub_cons rfl (sub_nil _))
  · exact Ent.refl _ _
  · exact ⟨Nat.le_refl _, trimL_le s, trimL_head s, Nat.zero_le _, by simpa [fieldsL] using hxs, hJ0⟩
  rintro ⟨rest, f, k, h⟩ ⟨hrf, hrs, hhd, hkx, hx, hJ⟩
  simp only at hrf hrs hhd hkx hx hJ ⊢
  refine WC.seq_k fun K3 hK4 => ?_
  refine WC.seq_k fun K5 hK6 => ?_
  refine WC.region ?_
  refine wU (gE rfl ?_)
  refine wU (gE rfl ?_)
  refine wOps.done ?_
  refine hK6 _ _ _ ?_
  clear hK6 K5
  refine WC.cond rfl (fun c7 => ?_) (fun c7 => ?_)
  · skip
    refine WC.skip ?_
    refine hK4 _ _ _ ?_
    clear hK4 K3
    refine WC.block ?_
    refine WC.seq_k fun K8 hK9 => ?_
    refine WC.region ?_
    refine wU (gE rfl ?_)
    have hne : rest ≠ [] := by simpa using c7
    obtain ⟨f, rfl⟩ : ∃ f0, f = f0 + 1 := ⟨f - 1, by have := List.length_pos_iff.2 hne; omega⟩
    have hft := field_tri hG rest (by omega)
    have hfs := fieldL_size rest
    rw [fieldsF, if_neg hne] at hx
    generalize fieldL rest = fl at hft hfs hx
    obtain ⟨⟨nm, v⟩, sz, ok⟩ := fl
    simp only at hft hfs hx
    refine wU (gPure rfl isGo38 hft ?_)
    refine wU (gE rfl ?_)
    refine wU (gE rfl ?_)
    refine wU (gE rfl ?_)
    refine wU (gE rfl ?_)
    refine wU (gAlloc tzero41 fun b10 hb10 => ?_)
    refine wU (gStore rfl rfl (by simp only [hget, ↓reduceIte] <;> rfl) tsz41 (by simp [vcells]) (by simp [vcells, leafV]) ?_)
    simp only [hset, stL, vcells, List.set_cons_zero, List.set_cons_succ, ↓reduceIte]
    refine wU (gE rfl ?_)
    refine wU (gE rfl ?_)
    refine wOps.done ?_
    refine hK9 _ _ _ ?_
    clear hK9 K8
    refine WC.seq_k fun K11 hK12 => ?_
    refine WC.seq_k fun K13 hK14 => ?_
    refine WC.region ?_
    refine wU (gE rfl ?_)
    refine wU (gE rfl ?_)
    refine wOps.done ?_
    refine hK14 _ _ _ ?_
    clear hK14 K13
    refine WC.cond rfl (fun c15 => ?_) (fun c15 => ?_)
    · skip
      refine WC.seq_k fun K16 hK17 => ?_
      refine WC.region ?_
      refine wU (gE rfl ?_)
      refine wU (gBuild rfl rfl ?_)
      have hok : ok = false := by simpa using c15
      subst hok
      simp only [if_true, List.map_cons, List.map_nil] at hx
      have hk : k < xs.length := by have := congrArg List.length hx; simp at this; omega
      have hk2 : xs.length = k + 1 := by have := congrArg List.length hx; simp at this; omega
      have hxk : xs[k] = [.agg [.str [], .str []], .bool false] := by have := congrArg (·[0]?) hx; simpa [hk] using this.symm
      have hyk := hy k hk h hJ
      rw [hxk] at hyk
      refine wU (gYield rfl rfl (YieldS.sub (List.sublist_cons_self _ _) (YieldS.b hyk fun b h1 hb1 hb2 => ?_)))
      refine wOps.done ?_
      refine hK17 _ _ _ ?_
      clear hK17 K16
      refine WC.ret ?_
      rcases b with _ | _
      · exact ⟨_, rfl, .inr (hb2 rfl)⟩
      · exact ⟨_, rfl, .inl (hk2 ▸ hb1 rfl)⟩
    · skip
      refine WC.skip ?_
      refine hK12 _ _ _ ?_
      clear hK12 K11
      refine WC.seq_k fun K18 hK19 => ?_
      refine WC.seq_k fun K20 hK21 => ?_
      refine WC.region ?_
      refine wU (gField tfld41_0 tsz9 rfl ?_)
      refine wU (gLoad tagg9 rfl (by simp only [hget, ↓reduceIte] <;> rfl) rfl ?_)
      refine wU (gE rfl ?_)
      refine wU (gE rfl ?_)
      refine wG rfl rfl rfl rfl (by decide) (fun c22 => ?_) (fun c22 => ?_)
      · skip
        refine gE rfl ?_
        refine wY rfl (gLoadA tagg41 tsz41 rfl (by simp only [hget, ↓reduceIte] <;> rfl) (by simp [putL]) rfl ?_)
        have hok : ok = true := by simpa using c15
        subst hok
        have hnm : nm ≠ [] := by simpa using c22
        rw [if_neg (by simp), if_pos hnm] at hx
        simp only [List.singleton_append, List.map_cons] at hx
        have hk : k < xs.length := by have := congrArg List.length hx; simp at this; omega
        have hxk : xs[k] = [.agg [.str nm, .str v], .bool true] := by have := congrArg (·[0]?) hx; simpa [hk] using this.symm
        have hyk := hy k hk h hJ
        rw [hxk] at hyk
        refine wY rfl (gYield rfl rfl (YieldS.sub (List.sublist_cons_self _ _) (YieldS.b hyk fun b h1 hb1 hb2 => ?_)))
        refine wY rfl (gE rfl ?_)
        refine wU (gE rfl ?_)
        refine wOps.done ?_
        refine hK21 _ _ _ ?_
        clear hK21 K20
        refine WC.cond rfl (fun c23 => ?_) (fun c23 => ?_)
        · skip
          refine WC.ret ?_
          exact ⟨_, rfl, .inr (hb2 (by simpa using c23))⟩
        · skip
          refine WC.skip ?_
          refine hK19 _ _ _ ?_
          clear hK19 K18
          refine WC.region ?_
          refine wU (gE rfl ?_)
          refine wU (gE rfl ?_)
          have hsz := hfs.2 rfl hne hhd
          have etk : (rest.drop sz).take (rest.length - sz) = rest.drop sz := List.take_of_length_le (by simp)
          have htl := trimL_le (rest.drop sz)
          rw [List.length_drop] at htl
          refine wU (gSliceStr (l := some sz) (r := none) tisstr9 rfl rfl rfl (by simp; omega) (by simp) ?_)
          have htr := trim_tri (rest.drop sz)
          rw [trim1] at htr
          rw [← etk] at htr
          refine wU (gPure (r := .str (trimL (rest.drop sz))) rfl isGo37 (by rw [etk] at htr; exact (congrArg (fun z => PTri Tryd.prog 37 [.str z, .str [32]] (.str (trimL (rest.drop sz)))) etk).mpr htr) ?_)
          refine wU (gE rfl ?_)
          refine wOps.done ?_
          exact ⟨(trimL (rest.drop sz), f, k + 1, h1), rfl, by simp only; omega, ⟨by simp only; omega, by simp only; omega, trimL_head _, by simp only; omega, by have := congrArg List.tail hx; simpa using this, hb1 (by simpa using c23)⟩, Ent.sub (sub_cons rfl (sub_cons rfl (sub_nil _)))⟩
      · skip
        refine wN rfl ?_
        refine wN rfl ?_
        refine wN rfl ?_
        refine wU (gE rfl ?_)
        refine wOps.done ?_
        refine hK21 _ _ _ ?_
        clear hK21 K20
        first | refine WC.cond (b := false) rfl (fun hh => by simp at hh) (fun _ => ?_) | refine WC.cond rfl (fun hh => by simp_all) (fun _ => ?_)
        refine WC.skip ?_
        refine hK19 _ _ _ ?_
        clear hK19 K18
        refine WC.region ?_
        refine wU (gE rfl ?_)
        refine wU (gE rfl ?_)
        have hok : ok = true := by simpa using c15
        subst hok
        have hnm : nm = [] := by simpa using c22
        rw [if_neg (by simp), if_neg (by simp [hnm])] at hx
        rw [List.nil_append] at hx
        have hsz := hfs.2 rfl hne hhd
        have etk : (rest.drop sz).take (rest.length - sz) = rest.drop sz := List.take_of_length_le (by simp)
        have htl := trimL_le (rest.drop sz)
        rw [List.length_drop] at htl
        refine wU (gSliceStr (l := some sz) (r := none) tisstr9 rfl rfl rfl (by simp; omega) (by simp) ?_)
        have htr := trim_tri (rest.drop sz)
        rw [trim1] at htr
        rw [← etk] at htr
        refine wU (gPure (r := .str (trimL (rest.drop sz))) rfl isGo37 (by rw [etk] at htr; exact (congrArg (fun z => PTri Tryd.prog 37 [.str z, .str [32]] (.str (trimL (rest.drop sz)))) etk).mpr htr) ?_)
        refine wU (gE rfl ?_)
        refine wOps.done ?_
        exact ⟨(trimL (rest.drop sz), f, k, h), rfl, by simp only; omega, ⟨by simp only; omega, by simp only; omega, trimL_head _, by simp only; omega, hx, hJ⟩, (Ent.sub (sub_cons rfl (sub_cons rfl (sub_nil _)))).trans (Ent.drop (List.sublist_cons_self _ _))⟩
  · skip
    refine WC.exit ?_
    have hr0 : rest = [] := by simpa using c7
    subst hr0
    rw [fieldsF_nil] at hx
    have hk2 : k = xs.length := by have := congrArg List.length hx; simp at this; omega
    exact ⟨_, rfl, .inl (hk2 ▸ hJ)⟩
end Go.Proofs.YtfdmdcpopmcmcaaDoor
end

section
namespace Go.Proofs.YtfdmdcpopmcmcaaDoor
open Go.Fw
variable [Gl]
theorem isGo18 : isGo Tryd.prog 18 = true := by kernel_rfl
theorem isGo33 : isGo Tryd.prog 33 = true := by kernel_rfl
set_option maxRecDepth 20000
abbrev spB (c : UInt8) : Bool := c == 32 || c == 10
/-- strings.ContainsAny of a blank and the end of a line, at s. -/
def CA (s : By) : Prop := PTri Tryd.prog 33 [.str s, .str [32, 10]] (.bool (s.any spB))
theorem esc_step {s : By} {i : Nat} (h : i < s.length) : (s.take (i + 1)).flatMap escB = (s.take i).flatMap escB ++ escB s[i] := by
  rw [List.take_succ_eq_append_getElem h, List.flatMap_append]; simp
theorem plain_of (s : By) : plainV s = (!(s.any spB) && !(s.head? == some 34)) := rfl
theorem appV_tri (o : BS) (acc s : By) (hca : CA s) (ho : o = none → acc = []) (ha : acc.length ≤ 4294967295) (hs : s.length ≤ 4294967295) : Tri Tryd.prog 18 [bsV o acc, .str s] (bsH 5 o acc) fun v h' => ∃ o', v = bsV o' (acc ++ quoteV s) ∧ h' = bsH 5 o' (acc ++ quoteV s) ∧ (o' = none → acc ++ quoteV s = []) := by
  have ht : Tri Tryd.prog 18 [bsV o acc, .str s] (bsH 5 o acc) fun v h' => ∃ o' hx, v = bsV o' (acc ++ quoteV s) ∧ h' = bsH 5 o' (acc ++ quoteV s) ++ hx ∧ (o' = none → acc ++ quoteV s = []) := by
    have h3 := pre_tri s [34]
    rw [pre1] at h3
    have hpl := plain_of s
    unfold CA at hca
    generalize s.any spB = sa at hca hpl
    generalize (s.head? == some 34) = sq at h3 hpl
    refine Tri.of_wc Tryd.func18 rfl Tryd.results18 Tryd.ntmps18 (by simp) ?_
    refine WC.seq_k fun K1 hK2 => ?_
    refine WC.region ?_
    refine wU (gE rfl ?_)
    refine wOps.done ?_
    refine hK2 _ _ _ ?_
    clear hK2 K1
    refine WC.seq_cut (α := Unit) (fun _ => [(0, bsV o acc), (1, .str s)]) (fun _ => bsH 5 o acc) (fun _ => plainV s = false) ?_ ?_
    · skip
      refine WC.seq_k fun K3 hK4 => ?_
      refine WC.region ?_
      refine wU (gE rfl ?_)
      refine wU (gPure rfl isGo33 hca ?_)
      refine wU (gE rfl ?_)
      refine wU (gE rfl ?_)
      refine wG rfl rfl rfl rfl (by decide) (fun c5 => ?_) (fun c5 => ?_)
      · skip
        refine gE rfl ?_
        refine wY rfl (gPure rfl isGo34 h3 ?_)
        refine wY rfl (gE rfl ?_)
        refine wU (gE rfl ?_)
        refine wOps.done ?_
        refine hK4 _ _ _ ?_
        clear hK4 K3
        refine WC.cond rfl (fun c6 => ?_) (fun c6 => ?_)
        · skip
          refine WC.seq_k fun K7 hK8 => ?_
          refine WC.region ?_
          refine wU (gE rfl ?_)
          refine wU (gE rfl ?_)
          refine wU (gOp (OpS.appBs (s := o) (acc := acc) (bs := s) (hx := []) ⟨rfl⟩ el42 appT9 rfl rfl rfl (fun q N e => by simp) ho rfl (by omega) fun o2 ho2 ho3 => ?_) rfl)
          refine wU (gE rfl ?_)
          refine wOps.done ?_
          refine hK8 _ _ _ ?_
          clear hK8 K7
          refine WC.ret ?_
          have hq : quoteV s = s := by unfold quoteV; rw [if_pos (by rw [hpl]; simp_all)]
          rw [hq]
          exact ⟨_, rfl, o2, [], rfl, by simp, ho3⟩
        · skip
          refine WC.skip ?_
          exact ⟨(), rfl, by rw [hpl]; simp_all, Ent.sub (sub_cons rfl (sub_cons rfl (sub_nil _)))⟩
      · skip
        refine wN rfl ?_
        refine wN rfl ?_
        refine wU (gE rfl ?_)
        refine wOps.done ?_
        refine hK4 _ _ _ ?_
        clear hK4 K3
        first | refine WC.cond (b := false) rfl (fun hh => by simp at hh) (fun _ => ?_) | refine WC.cond rfl (fun hh => by simp_all) (fun _ => ?_)
        refine WC.skip ?_
        exact ⟨(), rfl, by rw [hpl]; simp_all, Ent.sub (sub_cons rfl (sub_cons rfl (sub_nil _)))⟩
    rintro ⟨⟩ hpl2
    refine WC.seq_k fun K9 hK10 => ?_
    refine WC.region ?_
    refine wU (gE rfl ?_)
    refine wU (gBuildSlice (cs := [.int .u8 34]) tslice42 tsz5 tzero5 rfl (by simp [evFill, putL, zcells, vcells]) (by decide) (by decide) fun b11 hb11 => ?_)
    refine wU (gOp (OpS.appBs (s := o) (acc := acc) (bs := [34]) (hx := [(b11, .cells 5 [.int .u8 34] 1)]) ⟨rfl⟩ el42 appT42 rfl rfl rfl (fun q N e => by subst e; simp [bsH] at hb11; simp; exact fun e => hb11 e.symm) ho (by simp [evSrc, hget, byteCells]) (by simp only [List.length_cons, List.length_nil]; omega) fun o1 ho1 ho1n => ?_) rfl)
    refine wU (gE rfl ?_)
    refine wOps.done ?_
    refine hK10 _ _ _ ?_
    clear hK10 K9
    refine WC.seq_k fun K12 hK13 => ?_
    refine WC.seq_k fun K14 hK15 => ?_
    refine WC.region ?_
    refine wU (gE rfl ?_)
    refine wOps.done ?_
    refine hK15 _ _ _ ?_
    clear hK15 K14
    refine WC.block ?_
    refine WC.loopI (α := Nat × By × BS) (fun a => [(0, bsV a.2.2 a.2.1), (1, .str s), (5, .int .i64 a.1)]) (fun a => bsH 5 a.2.2 a.2.1) (fun a => s.length - a.1) (fun a => a.1 ≤ s.length ∧ a.2.1 = acc ++ 34 :: (s.take a.1).flatMap escB ∧ a.2.1.length ≤ acc.length + 1 + 2 * a.1 ∧ (a.2.2 = none → a.2.1 = [])) (0, acc ++ [34], o1) ?_ ?_ ?_ ?_
    · exact sub_cons rfl (sub_cons rfl (sub_cons rfl (sub_nil _)))
    · exact Ent.drop (List.sublist_append_left _ _)
    · exact ⟨Nat.zero_le _, by simp, by simp, ho1n⟩
    rintro ⟨i, X, o2⟩ ⟨his, hX, hXl, ho2⟩
    simp only at his hX hXl ho2 ⊢
    refine WC.seq_k fun K16 hK17 => ?_
    refine WC.seq_k fun K18 hK19 => ?_
    refine WC.region ?_
    refine wU (gE rfl ?_)
    refine wU (gE rfl ?_)
    refine wU (gLen rfl rfl tisstr9 ?_)
    refine wU (gE rfl ?_)
    refine wOps.done ?_
    refine hK19 _ _ _ ?_
    clear hK19 K18
    refine WC.cond rfl (fun c20 => ?_) (fun c20 => ?_)
    · skip
      refine WC.skip ?_
      refine hK17 _ _ _ ?_
      clear hK17 K16
      refine WC.seq_k fun K21 hK22 => ?_
      refine WC.block ?_
      refine WC.seq_k fun K23 hK24 => ?_
      refine WC.region ?_
      refine wU (gE rfl ?_)
      refine wU (gE rfl ?_)
      have hi : i < s.length := by simpa using c20
      refine wU (gIdxStr tisstr9 rfl rfl (by omega) (str_at hi) ?_)
      refine wOps.done ?_
      refine hK24 _ _ _ ?_
      clear hK24 K23
      refine WC.block ?_
      refine WC.seq_k fun K25 hK26 => ?_
      refine WC.seq_k fun K27 hK28 => ?_
      refine WC.region ?_
      refine wU (gE rfl ?_)
      refine wU (gE rfl ?_)
      refine wOps.done ?_
      refine hK28 _ _ _ ?_
      clear hK28 K27
      refine WC.cond rfl (fun c29 => ?_) (fun c29 => ?_)
      · skip
        refine WC.skip ?_
        refine hK26 _ _ _ ?_
        clear hK26 K25
        first | refine WC.cond (b := true) rfl (fun _ => ?_) (fun hh => by simp at hh) | refine WC.cond rfl (fun _ => ?_) (fun hh => by simp_all)
        refine WC.region ?_
        refine wU (gE rfl ?_)
        refine wU (gE rfl ?_)
        refine wU (gE rfl ?_)
        refine wU (gIdxStr tisstr9 rfl rfl (by omega) (str_at hi) ?_)
        refine wU (gBuildSlice (cs := [.int .u8 92, .int .u8 s[i].toNat]) tslice42 tsz5 tzero5 rfl (by simp [evFill, putL, zcells, vcells]) (by decide) (by decide) fun b30 hb30 => ?_)
        refine wU (gOp (OpS.appBs (s := o2) (acc := X) (bs := [92, s[i]]) (hx := [(b30, .cells 5 [.int .u8 92, .int .u8 s[i].toNat] 2)]) ⟨rfl⟩ el42 appT42 rfl rfl rfl (fun q N e => by subst e; simp [bsH] at hb30; simp; exact fun e => hb30 e.symm) ho2 (by simp [evSrc, hget, byteCells]) (by simp only [List.length_cons, List.length_nil]; omega) fun o3 ho3 ho3n => ?_) rfl)
        refine wU (gE rfl ?_)
        refine wOps.done ?_
        refine hK22 _ _ _ ?_
        clear hK22 K21
        refine WC.region ?_
        refine wU (gE rfl ?_)
        refine wU (gE rfl ?_)
        refine wU (gE rfl ?_)
        refine wOps.done ?_
        have he : escB s[i] = [92, s[i]] := by unfold escB; rw [if_pos (by simp_all [u8_34, u8_92])]
        exact ⟨(i + 1, X ++ [92, s[i]], o3), rfl, by simp only; omega, ⟨by simp only; omega, by simp only [esc_step hi, he, hX]; simp, by simp; omega, ho3n⟩, (Ent.sub (sub_cons rfl (sub_cons rfl (sub_cons (int_fit (by omega) (by omega) (by omega)) (sub_nil _))))).trans (Ent.drop (List.sublist_append_left _ _))⟩
      · skip
        refine WC.region ?_
        refine wU (gE rfl ?_)
        refine wU (gE rfl ?_)
        refine wOps.done ?_
        refine hK26 _ _ _ ?_
        clear hK26 K25
        refine WC.cond rfl (fun c31 => ?_) (fun c31 => ?_)
        · skip
          refine WC.region ?_
          refine wU (gE rfl ?_)
          refine wU (gE rfl ?_)
          refine wU (gE rfl ?_)
          refine wU (gIdxStr tisstr9 rfl rfl (by omega) (str_at hi) ?_)
          refine wU (gBuildSlice (cs := [.int .u8 92, .int .u8 s[i].toNat]) tslice42 tsz5 tzero5 rfl (by simp [evFill, putL, zcells, vcells]) (by decide) (by decide) fun b32 hb32 => ?_)
          refine wU (gOp (OpS.appBs (s := o2) (acc := X) (bs := [92, s[i]]) (hx := [(b32, .cells 5 [.int .u8 92, .int .u8 s[i].toNat] 2)]) ⟨rfl⟩ el42 appT42 rfl rfl rfl (fun q N e => by subst e; simp [bsH] at hb32; simp; exact fun e => hb32 e.symm) ho2 (by simp [evSrc, hget, byteCells]) (by simp only [List.length_cons, List.length_nil]; omega) fun o3 ho3 ho3n => ?_) rfl)
          refine wU (gE rfl ?_)
          refine wOps.done ?_
          refine hK22 _ _ _ ?_
          clear hK22 K21
          refine WC.region ?_
          refine wU (gE rfl ?_)
          refine wU (gE rfl ?_)
          refine wU (gE rfl ?_)
          refine wOps.done ?_
          have he : escB s[i] = [92, s[i]] := by unfold escB; rw [if_pos (by simp_all [u8_34, u8_92])]
          exact ⟨(i + 1, X ++ [92, s[i]], o3), rfl, by simp only; omega, ⟨by simp only; omega, by simp only [esc_step hi, he, hX]; simp, by simp; omega, ho3n⟩, (Ent.sub (sub_cons rfl (sub_cons rfl (sub_cons (int_fit (by omega) (by omega) (by omega)) (sub_nil _))))).trans (Ent.drop (List.sublist_append_left _ _))⟩
        · skip
          refine WC.seq_k fun K33 hK34 => ?_
          refine WC.region ?_
          refine wU (gE rfl ?_)
          refine wU (gE rfl ?_)
          refine wOps.done ?_
          refine hK34 _ _ _ ?_
          clear hK34 K33
          refine WC.cond rfl (fun c35 => ?_) (fun c35 => ?_)
          · skip
            refine WC.region ?_
            refine wU (gE rfl ?_)
            refine wU (gBuildSlice (cs := [.int .u8 92, .int .u8 110]) tslice42 tsz5 tzero5 rfl (by simp [evFill, putL, zcells, vcells]) (by decide) (by decide) fun b36 hb36 => ?_)
            refine wU (gOp (OpS.appBs (s := o2) (acc := X) (bs := [92, 110]) (hx := [(b36, .cells 5 [.int .u8 92, .int .u8 110] 2)]) ⟨rfl⟩ el42 appT42 rfl rfl rfl (fun q N e => by subst e; simp [bsH] at hb36; simp; exact fun e => hb36 e.symm) ho2 (by simp [evSrc, hget, byteCells]) (by simp only [List.length_cons, List.length_nil]; omega) fun o3 ho3 ho3n => ?_) rfl)
            refine wU (gE rfl ?_)
            refine wOps.done ?_
            refine hK22 _ _ _ ?_
            clear hK22 K21
            refine WC.region ?_
            refine wU (gE rfl ?_)
            refine wU (gE rfl ?_)
            refine wU (gE rfl ?_)
            refine wOps.done ?_
            have he : escB s[i] = [92, 110] := by unfold escB; rw [if_neg (by rintro (e | e) <;> simp [e] at *), if_pos (by simpa [u8_10] using c35)]
            exact ⟨(i + 1, X ++ [92, 110], o3), rfl, by simp only; omega, ⟨by simp only; omega, by simp only [esc_step hi, he, hX]; simp, by simp; omega, ho3n⟩, (Ent.sub (sub_cons rfl (sub_cons rfl (sub_cons (int_fit (by omega) (by omega) (by omega)) (sub_nil _))))).trans (Ent.drop (List.sublist_append_left _ _))⟩
          · skip
            refine WC.region ?_
            refine wU (gE rfl ?_)
            refine wU (gE rfl ?_)
            refine wU (gE rfl ?_)
            refine wU (gIdxStr tisstr9 rfl rfl (by omega) (str_at hi) ?_)
            refine wU (gBuildSlice (cs := [.int .u8 s[i].toNat]) tslice42 tsz5 tzero5 rfl (by simp [evFill, putL, zcells, vcells]) (by decide) (by decide) fun b37 hb37 => ?_)
            refine wU (gOp (OpS.appBs (s := o2) (acc := X) (bs := [s[i]]) (hx := [(b37, .cells 5 [.int .u8 s[i].toNat] 1)]) ⟨rfl⟩ el42 appT42 rfl rfl rfl (fun q N e => by subst e; simp [bsH] at hb37; simp; exact fun e => hb37 e.symm) ho2 (by simp [evSrc, hget, byteCells]) (by simp only [List.length_cons, List.length_nil]; omega) fun o3 ho3 ho3n => ?_) rfl)
            refine wU (gE rfl ?_)
            refine wOps.done ?_
            refine hK22 _ _ _ ?_
            clear hK22 K21
            refine WC.region ?_
            refine wU (gE rfl ?_)
            refine wU (gE rfl ?_)
            refine wU (gE rfl ?_)
            refine wOps.done ?_
            have he : escB s[i] = [s[i]] := by unfold escB; rw [if_neg (by rintro (e | e) <;> simp [e] at *), if_neg (by intro e; simp [e] at *)]
            exact ⟨(i + 1, X ++ [s[i]], o3), rfl, by simp only; omega, ⟨by simp only; omega, by simp only [esc_step hi, he, hX]; simp, by simp; omega, ho3n⟩, (Ent.sub (sub_cons rfl (sub_cons rfl (sub_cons (int_fit (by omega) (by omega) (by omega)) (sub_nil _))))).trans (Ent.drop (List.sublist_append_left _ _))⟩
    · skip
      refine WC.exit ?_
      refine hK13 _ _ _ ?_
      clear hK17 K16 hK13 K12
      refine WC.seq_k fun K38 hK39 => ?_
      refine WC.region ?_
      refine wU (gE rfl ?_)
      refine wU (gBuildSlice (cs := [.int .u8 34]) tslice42 tsz5 tzero5 rfl (by simp [evFill, putL, zcells, vcells]) (by decide) (by decide) fun b40 hb40 => ?_)
      refine wU (gOp (OpS.appBs (s := o2) (acc := X) (bs := [34]) (hx := [(b40, .cells 5 [.int .u8 34] 1)]) ⟨rfl⟩ el42 appT42 rfl rfl rfl (fun q N e => by subst e; simp [bsH] at hb40; simp; exact fun e => hb40 e.symm) ho2 (by simp [evSrc, hget, byteCells]) (by simp only [List.length_cons, List.length_nil]; omega) fun o4 ho4 ho4n => ?_) rfl)
      refine wU (gE rfl ?_)
      refine wOps.done ?_
      refine hK39 _ _ _ ?_
      clear hK39 K38
      refine WC.ret ?_
      have hq : quoteV s = 34 :: (s.flatMap escB ++ [34]) := by unfold quoteV; rw [if_neg (by rw [hpl2]; simp)]
      have hq2 : X ++ [34] = acc ++ quoteV s := by rw [hq, hX, List.take_of_length_le (by have := of_decide_eq_false c20; omega)]; simp
      rw [← hq2]
      exact ⟨_, rfl, o4, _, rfl, rfl, ho4n⟩
  refine Tri.vent ht ?_
  rintro v h' ⟨o', hx, rfl, rfl, hn⟩
  exact ⟨_, _, .drop (List.sublist_append_left _ _) (.refl _ _), o', rfl, rfl, hn⟩
end Go.Proofs.YtfdmdcpopmcmcaaDoor
end

section
namespace Go.Proofs.YtfdmdcpopmcmcaaDoor
open Go.Fw
theorem le_tr {a b c : By} (h : a ≤ b) (h' : b ≤ c) : a ≤ c := List.le_trans h h'
theorem le_anti {a b : By} (h : a ≤ b) (h' : b ≤ a) : a = b := List.le_antisymm h h'
theorem lt_le {a b : By} (h : a < b) : a ≤ b := List.le_of_lt h
theorem lt_ne {a b : By} (h : a ≤ b) (hn : a ≠ b) : a < b := Classical.byContradiction fun h1 => hn (le_anti h (by simpa using h1))
theorem lt_irr {a : By} (h : a < a) : False := List.lt_irrefl a h
theorem lt_tr {a b c : By} (h : a < b) (h' : b < c) : a < c := List.lt_trans h h'
theorem not_both {a b : By} (h : a < b) (h' : b ≤ a) : False := by
  have := le_anti (lt_le h) h'
  subst this
  exact lt_irr h
theorem bl_iff (x y : By) : Op.bytesLess x y = true ↔ x < y := by rw [Go.Proofs.bytesLess_eq]; simp
theorem late_iff (q x : By) : lateB (some q) x = true ↔ x ≤ q := by
  simp only [lateB, Bool.or_eq_true, bl_iff, beq_iff_eq]
  constructor
  · rintro (h | rfl)
    · exact lt_le h
    · exact List.le_refl _
  · intro h
    by_cases e : x = q
    · exact .inr e
    · exact .inl (lt_ne h e)
theorem late_no (q x : By) : lateB (some q) x = false ↔ q < x := by
  rw [← Bool.not_eq_true, late_iff]
  constructor
  · intro h
    have h1 : q ≤ x := by rcases List.le_total q x with h1 | h1; exact h1; exact absurd h1 h
    exact lt_ne h1 fun e => h (e ▸ List.le_refl _)
  · exact fun h h1 => not_both h h1
theorem chkG_iff : ∀ (l : List Lb) (prev : Option By), chkG prev l = 0 ↔ (∀ p ∈ l, isNm p.1 = true ∧ p.2 ≠ [] ∧ p.2.length ≤ 200) ∧ l.Pairwise (fun x y => x.1 < y.1) ∧ ∀ q, prev = some q → ∀ p ∈ l, q < p.1
  | [], prev => by simp [chkG]
  | p :: l, prev => by
    simp only [chkG]
    by_cases h1 : isNm p.1 = false
    · rw [if_pos h1]; simp [h1]
    rw [if_neg h1]
    have h1' : isNm p.1 = true := by simpa using h1
    by_cases h2 : p.2 = []
    · rw [if_pos h2]; simp [h2]
    rw [if_neg h2]
    by_cases h3 : 200 < p.2.length
    · rw [if_pos h3]
      constructor
      · intro h; simp at h
      · rintro ⟨h, -, -⟩
        have := (h p (by simp)).2.2
        omega
    rw [if_neg h3]
    by_cases h4 : lateB prev p.1 = true
    · rw [if_pos h4]
      constructor
      · intro h; simp at h
      · rintro ⟨-, -, h⟩
        cases prev with
        | none => simp [lateB] at h4
        | some q =>
          have := h q rfl p (by simp)
          rw [← late_no] at this
          rw [this] at h4; simp at h4
    · rw [if_neg h4, chkG_iff l (some p.1)]
      simp only [List.mem_cons, List.pairwise_cons]
      constructor
      · rintro ⟨g1, g2, g3⟩
        refine ⟨fun x hx => ?_, ⟨fun x hx => g3 _ rfl x hx, g2⟩, fun q hq x hx => ?_⟩
        · rcases hx with rfl | hx
          · exact ⟨h1', h2, by omega⟩
          · exact g1 x hx
        · subst hq
          have hqp : q < p.1 := (late_no q p.1).1 (by simpa using h4)
          rcases hx with rfl | hx
          · exact hqp
          · exact lt_tr hqp (g3 _ rfl x hx)
      · rintro ⟨g1, ⟨g2, g3⟩, g4⟩
        exact ⟨fun x hx => g1 x (.inr hx), g3, fun q hq x hx => by simp at hq; subst hq; exact g2 x hx⟩
/-- A valid label set. -/
theorem chkL_iff (l : List Lb) : chkL l = 0 ↔ l.length ≤ 16 ∧ (∀ p ∈ l, isNm p.1 = true ∧ p.2 ≠ [] ∧ p.2.length ≤ 200) ∧ l.Pairwise (fun x y => x.1 < y.1) := by
  unfold chkL
  by_cases h : 16 < l.length
  · rw [if_pos h]
    constructor
    · intro h; simp at h
    · rintro ⟨h1, -⟩; omega
  · rw [if_neg h, chkG_iff]
    constructor
    · rintro ⟨h1, h2, -⟩; exact ⟨by omega, h1, h2⟩
    · rintro ⟨-, h1, h2⟩; exact ⟨h1, h2, fun q hq => by simp at hq⟩
theorem isNm_len {s : By} (h : isNm s = true) : 1 ≤ s.length ∧ s.length ≤ 60 := by
  unfold isNm at h
  simp only [Bool.and_eq_true, decide_eq_true_eq] at h
  exact ⟨h.1.1.1, h.1.1.2⟩
theorem isNm_all {s : By} (h : isNm s = true) : s.all (fun c => isNB c.toNat) = true := by
  unfold isNm at h
  simp only [Bool.and_eq_true] at h
  exact h.2
end Go.Proofs.YtfdmdcpopmcmcaaDoor
end

section
namespace Go.Proofs.YtfdmdcpopmcmcaaDoor
open Go.Fw
variable [Gl]
set_option maxRecDepth 20000
theorem esc_len (c : UInt8) : (escB c).length ≤ 2 := by unfold escB; split; simp; split <;> simp
theorem escs_len : ∀ s : By, (s.flatMap escB).length ≤ 2 * s.length
  | [] => by simp
  | c :: s => by
    have := escs_len s
    have := esc_len c
    rw [List.flatMap_cons, List.length_append, List.length_cons]
    omega
theorem quote_len (s : By) : (quoteV s).length ≤ 2 * s.length + 2 := by
  unfold quoteV
  have := escs_len s
  split
  · omega
  · simp only [List.length_cons, List.length_append, List.length_nil]; omega
theorem fmt_step {l : List Lb} {i : Nat} (h : i < l.length) (b : Bool) : fmtG b (l.drop i) = (if b then [] else [32]) ++ (l[i].1 ++ 61 :: (quoteV l[i].2 ++ fmtG false (l.drop (i + 1)))) := by
  rw [List.drop_eq_getElem_cons h]; rfl
theorem fmt_tri (l : List Lb) (hca : chkL l = 0 → ∀ p ∈ l, CA p.2) (hl : l.length ≤ 4294967295) : PTri Tryd.prog 8 [lsl l] (.tup [.str (fmtL l).1, .int .i64 (fmtL l).2]) := by
  unfold lsl
  refine PTri.any (Tri.of_wc Tryd.func8 rfl Tryd.results8 Tryd.ntmps8 (by simp) ?_)
  refine WC.seq_k fun K1 hK2 => ?_
  refine WC.region ?_
  refine wU (gE rfl ?_)
  refine wU (gE rfl ?_)
  refine wOps.done ?_
  refine hK2 _ _ _ ?_
  clear hK2 K1
  refine WC.seq_k fun K3 hK4 => ?_
  refine WC.seq_k fun K5 hK6 => ?_
  refine WC.region ?_
  refine wU (gE rfl ?_)
  refine wU (gPure rfl isGo9 (chk_tri l (by omega)) ?_)
  refine wU (gE rfl ?_)
  refine wOps.done ?_
  refine hK6 _ _ _ ?_
  clear hK6 K5
  refine WC.seq_k fun K7 hK8 => ?_
  refine WC.region ?_
  refine wU (gE rfl ?_)
  refine wU (gE rfl ?_)
  refine wOps.done ?_
  refine hK8 _ _ _ ?_
  clear hK8 K7
  refine WC.cond rfl (fun c9 => ?_) (fun c9 => ?_)
  · skip
    refine WC.seq_k fun K10 hK11 => ?_
    refine WC.region ?_
    refine wU (gE rfl ?_)
    refine wU (gE rfl ?_)
    refine wU (gE rfl ?_)
    refine wOps.done ?_
    refine hK11 _ _ _ ?_
    clear hK11 K10
    refine WC.ret ?_
    have hne : chkL l ≠ 0 := by simpa using c9
    have e : fmtL l = ([], chkL l) := by unfold fmtL; rw [if_pos hne]
    rw [e]
    exact ⟨_, rfl, rfl⟩
  · skip
    refine WC.skip ?_
    refine hK4 _ _ _ ?_
    clear hK4 K3
    refine WC.seq_k fun K12 hK13 => ?_
    refine WC.region ?_
    refine wU (gE rfl ?_)
    refine wOps.done ?_
    refine hK13 _ _ _ ?_
    clear hK13 K12
    refine WC.seq_k fun K14 hK15 => ?_
    refine WC.seq_k fun K16 hK17 => ?_
    have h0 : chkL l = 0 := by simpa using c9
    have hgd := (chkL_iff l).1 h0
    refine WC.region ?_
    refine wU (gE rfl ?_)
    refine wU (gLen rfl rfl (by rw [lenFits, tslice22]; rfl) ?_)
    refine wU (gE rfl ?_)
    refine wOps.done ?_
    refine hK17 _ _ _ ?_
    clear hK17 K16
    refine WC.block ?_
    refine WC.loopI (α := Nat × By × BS) (fun a => [(5, bsV a.2.2 a.2.1), (13, .fslice (lcs l) l.length), (14, .int .i64 l.length), (15, .int .i64 a.1)]) (fun a => bsH 5 a.2.2 a.2.1) (fun a => l.length - a.1) (fun a => a.1 ≤ l.length ∧ a.2.1 ++ fmtG (a.1 == 0) (l.drop a.1) = fmtG true l ∧ a.2.1.length ≤ a.1 * 500 ∧ (a.2.2 = none → a.2.1 = [])) (0, [], none) ?_ ?_ ?_ ?_
    · exact sub_cons rfl (sub_cons rfl (sub_cons rfl (sub_cons rfl (sub_nil _))))
    · exact Ent.refl _ _
    · exact ⟨Nat.zero_le _, by simp, by simp, by simp⟩
    rintro ⟨i, X, o⟩ ⟨hil, hX, hXl, ho⟩
    simp only at hil hX hXl ho ⊢
    have hl16 := hgd.1
    refine WC.seq_k fun K18 hK19 => ?_
    refine WC.region ?_
    refine wU (gE rfl ?_)
    refine wOps.done ?_
    refine hK19 _ _ _ ?_
    clear hK19 K18
    refine WC.seq_k fun K20 hK21 => ?_
    refine WC.cond rfl (fun c22 => ?_) (fun c22 => ?_)
    · skip
      refine WC.skip ?_
      refine hK21 _ _ _ ?_
      clear hK21 K20
      refine WC.seq_k fun K23 hK24 => ?_
      refine WC.block ?_
      refine WC.seq_k fun K25 hK26 => ?_
      refine WC.region ?_
      refine wU (gE rfl ?_)
      have hi : i < l.length := by simpa using c22
      refine wU (gIdxF tslice22 tsz41 rfl rfl (by omega) (by omega) ?_)
      refine wU (gLoadAF tagg41 tsz41 rfl (by rw [lcs_length]; omega) (lcs_pair hi) ?_)
      refine wU (gAlloc tzero41 fun b7 hb7 => ?_)
      refine wU (gE rfl ?_)
      refine wU (gStore rfl rfl (by simp only [hget, ↓reduceIte] <;> rfl) tsz41 (by simp [vcells]) (by simp [vcells, leafV]) ?_)
      simp only [hset, stL, vcells, List.set_cons_zero, List.set_cons_succ, ↓reduceIte]
      refine wOps.done ?_
      refine hK26 _ _ _ ?_
      clear hK26 K25
      refine WC.seq_cut (α := By × BS) (fun a => [(5, bsV a.2 a.1), (7, .ptr b7 0), (13, .fslice (lcs l) l.length), (14, .int .i64 l.length), (15, .int .i64 i)]) (fun a => (b7, .cells 41 [.str l[i].1, .str l[i].2] 2) :: bsH 5 a.2 a.1) (fun a => a.1 = X ++ (if i = 0 then [] else [32]) ∧ (a.2 = none → a.1 = []) ∧ ∀ q N, a.2 = some (q, N) → ¬ q = b7) ?_ ?_
      · skip
        refine WC.seq_k fun K27 hK28 => ?_
        refine WC.region ?_
        refine wU (gE rfl ?_)
        refine wU (gE rfl ?_)
        refine wOps.done ?_
        refine hK28 _ _ _ ?_
        clear hK28 K27
        refine WC.cond rfl (fun c29 => ?_) (fun c29 => ?_)
        · skip
          refine WC.region ?_
          refine wU (gE rfl ?_)
          refine wU (gBuildSlice (cs := [.int .u8 32]) tslice42 tsz5 tzero5 rfl (by simp [evFill, putL, zcells, vcells]) (by decide) (by decide) fun b9 hb9 => ?_)
          refine wU (gOp (OpS.appBs (s := o) (acc := X) (bs := [32]) (hx := [(b9, .cells 5 [.int .u8 32] 1), (b7, .cells 41 [.str l[i].1, .str l[i].2] 2)]) ⟨rfl⟩ el42 appT42 rfl rfl rfl (fun q N e => by subst e; simp [bsH] at hb7 hb9; simp; exact ⟨fun e => hb9.2 e.symm, fun e => hb7 e.symm⟩) ho (by simp [evSrc, hget, byteCells]) (by simp only [List.length_cons, List.length_nil]; omega) fun o1 ho1 ho1n => ?_) rfl)
          refine wU (gE rfl ?_)
          refine wOps.done ?_
          refine ⟨(X ++ [32], o1), rfl, ⟨by rw [if_neg (by have := of_decide_eq_true c29; omega)], ho1n, fun q N e => by have := (ho1 q N e).1; simp at this; exact this.2⟩, ?_⟩
          exact (Ent.sub (sub_cons rfl (sub_cons rfl (sub_cons rfl (sub_cons rfl (sub_cons rfl (sub_nil _))))))).trans ((Ent.perm (h' := [(b9, .cells 5 [.int .u8 32] 1), (b7, .cells 41 [.str l[i].1, .str l[i].2] 2)] ++ bsH 5 o1 (X ++ [32])) List.perm_append_comm).trans (Ent.drop (List.sublist_cons_self _ _)))
        · skip
          refine WC.skip ?_
          exact ⟨(X, o), rfl, ⟨by rw [if_pos (by have := of_decide_eq_false c29; omega)]; simp, ho, fun q N e => by subst e; simp [bsH] at hb7; exact fun e => hb7 e.symm⟩, Ent.sub (sub_cons rfl (sub_cons rfl (sub_cons rfl (sub_cons rfl (sub_cons rfl (sub_nil _))))))⟩
      have hgi := hgd.2.1 _ (List.getElem_mem hi)
      have hni := isNm_len hgi.1
      have hqi := quote_len l[i].2
      rintro ⟨B, o1⟩ ⟨hB, ho1, hq1⟩
      simp only at hB ho1 hq1 ⊢
      have hBl : B.length ≤ X.length + 1 := by rw [hB]; split <;> simp
      refine WC.seq_k fun K30 hK31 => ?_
      refine WC.region ?_
      refine wU (gE rfl ?_)
      refine wU (gField tfld41_0 tsz9 rfl ?_)
      refine wU (gLoad tagg9 rfl (by simp only [hget, ↓reduceIte] <;> rfl) rfl ?_)
      refine wU (gOp (OpS.appBs (s := o1) (acc := B) (bs := l[i].1) (hx := [(b7, .cells 41 [.str l[i].1, .str l[i].2] 2)]) ⟨rfl⟩ el42 appT9 rfl rfl rfl (fun q N e => by simpa using hq1 q N e) ho1 rfl (by omega) fun o2 ho2 ho2n => ?_) rfl)
      refine wU (gE rfl ?_)
      refine wOps.done ?_
      refine hK31 _ _ _ ?_
      clear hK31 K30
      refine WC.seq_k fun K32 hK33 => ?_
      refine WC.ent (Ent.perm (h' := (b7, .cells 41 [.str l[i].1, .str l[i].2] 2) :: bsH 5 o2 (B ++ l[i].1)) (List.perm_append_comm (l₁ := [(b7, .cells 41 [.str l[i].1, .str l[i].2] 2)]) (l₂ := bsH 5 o2 (B ++ l[i].1)))) ?_
      refine WC.region ?_
      refine wU (gE rfl ?_)
      refine wU (gBuildSlice (cs := [.int .u8 61]) tslice42 tsz5 tzero5 rfl (by simp [evFill, putL, zcells, vcells]) (by decide) (by decide) fun b11 hb11 => ?_)
      refine wU (gOp (OpS.appBs (s := o2) (acc := B ++ l[i].1) (bs := [61]) (hx := [(b11, .cells 5 [.int .u8 61] 1), (b7, .cells 41 [.str l[i].1, .str l[i].2] 2)]) ⟨rfl⟩ el42 appT42 rfl rfl rfl (fun q N e => by have := (ho2 q N e).1; subst e; simp [bsH] at hb11 this; simp; exact ⟨fun e => hb11.2 e.symm, this⟩) ho2n (by simp [evSrc, hget, byteCells]) (by simp only [List.length_cons, List.length_nil, List.length_append]; omega) fun o3 ho3 ho3n => ?_) rfl)
      refine wU (gE rfl ?_)
      refine wOps.done ?_
      refine hK33 _ _ _ ?_
      clear hK33 K32
      refine WC.ent (Ent.perm (h' := (b11, .cells 5 [.int .u8 61] 1) :: (b7, .cells 41 [.str l[i].1, .str l[i].2] 2) :: bsH 5 o3 (B ++ l[i].1 ++ [61])) (List.perm_append_comm (l₁ := [(b11, .cells 5 [.int .u8 61] 1), (b7, .cells 41 [.str l[i].1, .str l[i].2] 2)]) (l₂ := bsH 5 o3 (B ++ l[i].1 ++ [61])))) ?_
      have hbb : ¬ b11 = b7 := by simp [Hp.ns] at hb11; exact hb11.1
      refine WC.region ?_
      refine wU (gE rfl ?_)
      refine wU (gField tfld41_1 tsz9 rfl ?_)
      refine wU (gLoad tagg9 rfl (by simp only [hget, hbb, ↓reduceIte] <;> rfl) rfl ?_)
      have hm := (appV_tri o3 (B ++ l[i].1 ++ [61]) l[i].2 (hca h0 _ (List.getElem_mem hi)) ho3n (by simp; omega) (by omega)).frame [(b11, .cells 5 [.int .u8 61] 1), (b7, .cells 41 [.str l[i].1, .str l[i].2] 2)]
      have hm1 := hm.perm (h := [(b11, .cells 5 [.int .u8 61] 1), (b7, .cells 41 [.str l[i].1, .str l[i].2] 2)] ++ bsH 5 o3 (B ++ l[i].1 ++ [61])) List.perm_append_comm
      refine wU (gCall (by rfl) (@CallS.mono _ Tryd.prog 18 _ _ _ _ (@CallS.of_tri _ Tryd.prog 18 _ _ _ isGo18 hm1) ?_))
      rintro v h1 ⟨h2, rfl, ⟨o4, rfl, rfl, ho4⟩, -⟩
      refine wU (gE rfl ?_)
      refine wOps.done ?_
      refine hK24 _ _ _ ?_
      clear hK24 K23
      refine WC.region ?_
      refine wU (gE rfl ?_)
      refine wU (gE rfl ?_)
      refine wOps.done ?_
      exact ⟨(i + 1, B ++ l[i].1 ++ [61] ++ quoteV l[i].2, o4), rfl, by simp only; omega, ⟨by simp only; omega, by rw [← hX, fmt_step hi, hB]; by_cases h00 : i = 0 <;> simp [h00], by simp; omega, ho4⟩, (Ent.sub (sub_cons rfl (sub_cons rfl (sub_cons rfl (sub_cons (int_fit (by omega) (by omega) (by omega)) (sub_nil _)))))).trans (Ent.drop (List.sublist_append_left _ _))⟩
    · skip
      refine WC.exit ?_
      refine hK15 _ _ _ ?_
      clear hK21 K20 hK15 K14
      refine WC.seq_k fun K34 hK35 => ?_
      refine WC.seq_k fun K36 hK37 => ?_
      refine WC.region ?_
      refine wU (gE rfl ?_)
      have hX2 : X = fmtG true l := by rw [← hX, List.drop_of_length_le (by have := of_decide_eq_false c22; omega)]; simp [fmtG]
      refine wU (gLen rfl (evLen_bs ho) (lenFits_bs tslice42) ?_)
      refine wU (gE rfl ?_)
      refine wOps.done ?_
      refine hK37 _ _ _ ?_
      clear hK37 K36
      refine WC.cond rfl (fun c38 => ?_) (fun c38 => ?_)
      · skip
        refine WC.seq_k fun K39 hK40 => ?_
        refine WC.region ?_
        refine wU (gE rfl ?_)
        refine wU (gE rfl ?_)
        refine wOps.done ?_
        refine hK40 _ _ _ ?_
        clear hK40 K39
        refine WC.ret ?_
        have e : fmtL l = ([], 4) := by unfold fmtL; rw [if_neg (by omega), ← hX2, if_pos (by have := of_decide_eq_true c38; omega)]
        rw [e]
        exact ⟨_, rfl, rfl⟩
      · skip
        refine WC.skip ?_
        refine hK35 _ _ _ ?_
        clear hK35 K34
        refine WC.seq_k fun K41 hK42 => ?_
        refine WC.region ?_
        refine wU (gE rfl ?_)
        refine wU (gOfBs (s := o) (acc := X) (hx := []) tslice42 tint5 tisstr9 rfl rfl (fun _ _ _ => by simp) ho ?_)
        refine wU (gE rfl ?_)
        refine wU (gE rfl ?_)
        refine wOps.done ?_
        refine hK42 _ _ _ ?_
        clear hK42 K41
        refine WC.ret ?_
        have e : fmtL l = (X, 0) := by unfold fmtL; rw [if_neg (by omega), ← hX2, if_neg (by have := of_decide_eq_false c38; omega)]
        rw [e]
        exact ⟨_, rfl, rfl⟩
end Go.Proofs.YtfdmdcpopmcmcaaDoor
end

section
namespace Go.Proofs.YtfdmdcpopmcmcaaDoor
open Go.Fw
def parseG : List Lb → List (Lb × Bool) → Option (List Lb)
  | acc, [] => some acc
  | acc, x :: r => if x.2 = false then none else if x.1.2 ≠ [] ∧ getL acc x.1.1 = [] then parseG (acc ++ [x.1]) r else parseG acc r
def srtN (l : List Lb) : List Lb := l.mergeSort fun x y => decide (cmpB x.1 y.1 ≤ 0)
def parseL (s : By) : List Lb × Int :=
  if 1000 < s.length then ([], 4) else
  match parseG [] (fieldsL s) with
  | none => ([], 3)
  | some l => if 16 < l.length ∨ l.any (fun x => decide (200 < x.2.length)) = true then ([], 4) else (srtN l, 0)
end Go.Proofs.YtfdmdcpopmcmcaaDoor
end
