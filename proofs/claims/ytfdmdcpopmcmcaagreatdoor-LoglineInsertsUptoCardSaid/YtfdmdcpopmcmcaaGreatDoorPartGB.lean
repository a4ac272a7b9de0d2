/- A part of the proof: TryzShelf, W5, W13, W6, W7, W8, W14, W15, POrd -/
import Derived.Test.YtfdmdcpopmcmcaaGreatDoorPartFB
import Derived.Shelf.Strings.Trim
import Derived.Shelf.Small.Utf8
import Derived.Shelf.Small.Bits
import Derived.Shelf.Small.Strs
import Derived.Shelf.Strconv.Itoa0
import Derived.Shelf.Strings.Search1
import Derived.Shelf.Strings.Search2
import Derived.Shelf.Strings.Search3
import Derived.Shelf.Strings.Cut
import Derived.Shelf.LaysM
import Derived.Shelf.Strings.Shaped
import Derived.Shelf.Sort.Plain
import Derived.Shelf.Strings.Prefix
import Derived.Shelf.Unicode.Decode
import Derived.Shelf.Strings.Runes
import Derived.Shelf.Strings.IndexAny
import Derived.Shelf.Strings.AsciiSet
import Derived.Shelf.Strings.IndexAnyAll
import Derived.Shelf.Unicode.DecodeSlow
import Derived.Shelf.Unicode.DecodeAny
import Derived.Shelf.Slices.Turned
import Derived.Shelf.Slices.CompactS
import Derived.Ground.Names2Prog
import Derived.Shelf.Slices.SearchI
import Derived.Shelf.Slices.Cells
import Derived.Shelf.Slices.In.SortNone
import Derived.Test.YtfdmdcpopmcmcaaGreatDoorProg
import Derived.Sort.Walk0
set_option linter.all false
set_option linter.unusedSectionVars false
set_option linter.unusedVariables false
set_option linter.unusedSimpArgs false
section
namespace Go.Proofs
open Go.Shelf
def Tryz.lays231_ren : Go.Shelf.Ren := ⟨fun | 231 => 87 | n => n, fun | 9 => 9 | 5 => 5 | 3 => 3 | 4 => 4 | n => n, fun | n => n⟩
theorem Tryz.lays231 : Go.Proofs.Lays.n231 Tryz.prog Tryz.lays231_ren := {
  mixed := by kernel_rfl
  f231 := Tryz.func87.trans (congrArg some (by kernel_rfl))
  t3 := Tryz.underlying3
  a3 := Tryz.isAgg3
  z3 := Tryz.sizeOf3
  v3 := Tryz.zeroValue3
  t4 := Tryz.underlying4
  a4 := Tryz.isAgg4
  z4 := Tryz.sizeOf4
  v4 := Tryz.zeroValue4
  t5 := Tryz.underlying5
  a5 := Tryz.isAgg5
  z5 := Tryz.sizeOf5
  v5 := Tryz.zeroValue5
  t9 := Tryz.underlying9
  a9 := Tryz.isAgg9
  z9 := Tryz.sizeOf9
  v9 := Tryz.zeroValue9 }
open Go.RowKit in
/-- strings.trimLeftByte (no doc; what TrimLeft and Trim call at a cutset of one ASCII byte): the leading bytes that are c are cut off. The world is as it was. (LAID: no walk: one application.) -/
theorem Tryz.strings_trimLeftByte (s : ByteArray) (c : UInt8) (w : World) :
    Calls Tryz.prog 87 #[.string s, .int .u8 c.toNat] w fun e w' => e = .returned (.string ⟨(Lib.trimLeftB s.data.toList c).toArray⟩) ∧ w' = w := Any.strings_trimLeftByte Tryz.lays231 s c w
def Tryz.lays161_ren : Go.Shelf.Ren := ⟨fun | 161 => 66 | 231 => 87 | 227 => 88 | 233 => 89 | 235 => 90 | 228 => 122 | 197 => 123 | 151 => 124 | 260 => 142 | 152 => 132 | 137 => 144 | 119 => 145 | 224 => 139 | 225 => 138 | 217 => 137 | 266 => 147 | n => n, fun | 9 => 9 | 4 => 4 | 3 => 3 | 5 => 5 | 117 => 107 | 116 => 106 | 0 => 0 | 124 => 110 | 105 => 130 | 21 => 21 | 119 => 153 | 46 => 96 | 139 => 156 | 138 => 155 | n => n, fun | 3 => 1 | 4 => 2 | n => n⟩
theorem Tryz.lays161 : Go.Proofs.Lays.n161 Tryz.prog Tryz.lays161_ren := {
  mixed := by kernel_rfl
  f119 := Tryz.func145.trans (congrArg some (by kernel_rfl))
  f137 := Tryz.func144.trans (congrArg some (by kernel_rfl))
  f151 := Tryz.func124.trans (congrArg some (by kernel_rfl))
  f152 := Tryz.func132.trans (congrArg some (by kernel_rfl))
  f161 := Tryz.func66.trans (congrArg some (by kernel_rfl))
  f197 := Tryz.func123.trans (congrArg some (by kernel_rfl))
  f217 := Tryz.func137.trans (congrArg some (by kernel_rfl))
  f224 := Tryz.func139.trans (congrArg some (by kernel_rfl))
  f225 := Tryz.func138.trans (congrArg some (by kernel_rfl))
  f227 := Tryz.func88.trans (congrArg some (by kernel_rfl))
  f228 := Tryz.func122.trans (congrArg some (by kernel_rfl))
  f231 := Tryz.func87.trans (congrArg some (by kernel_rfl))
  f233 := Tryz.func89.trans (congrArg some (by kernel_rfl))
  f235 := Tryz.func90.trans (congrArg some (by kernel_rfl))
  f260 := Tryz.func142.trans (congrArg some (by kernel_rfl))
  f266 := Tryz.func147.trans (congrArg some (by kernel_rfl))
  t0 := Tryz.underlying0
  a0 := Tryz.isAgg0
  z0 := Tryz.sizeOf0
  v0 := Tryz.zeroValue0
  t3 := Tryz.underlying3
  a3 := Tryz.isAgg3
  z3 := Tryz.sizeOf3
  v3 := Tryz.zeroValue3
  t4 := Tryz.underlying4
  a4 := Tryz.isAgg4
  z4 := Tryz.sizeOf4
  v4 := Tryz.zeroValue4
  t5 := Tryz.underlying5
  a5 := Tryz.isAgg5
  z5 := Tryz.sizeOf5
  v5 := Tryz.zeroValue5
  t9 := Tryz.underlying9
  a9 := Tryz.isAgg9
  z9 := Tryz.sizeOf9
  v9 := Tryz.zeroValue9
  t21 := Tryz.underlying21
  a21 := Tryz.isAgg21
  z21 := Tryz.sizeOf21
  v21 := Tryz.zeroValue21
  t46 := Tryz.underlying96
  a46 := Tryz.isAgg96
  z46 := Tryz.sizeOf96
  v46 := Tryz.zeroValue96
  t105 := Tryz.underlying130
  a105 := Tryz.isAgg130
  z105 := Tryz.sizeOf130
  v105 := Tryz.zeroValue130
  t116 := Tryz.underlying106
  a116 := Tryz.isAgg106
  z116 := Tryz.sizeOf106
  t117 := Tryz.underlying107
  a117 := Tryz.isAgg107
  z117 := Tryz.sizeOf107
  v117 := Tryz.zeroValue107
  t119 := Tryz.underlying153
  a119 := Tryz.isAgg153
  z119 := Tryz.sizeOf153
  t124 := Tryz.underlying110
  a124 := Tryz.isAgg110
  z124 := Tryz.sizeOf110
  v124 := Tryz.zeroValue110
  t138 := Tryz.underlying155
  a138 := Tryz.isAgg155
  z138 := Tryz.sizeOf155
  v138 := Tryz.zeroValue155
  t139 := Tryz.underlying156
  a139 := Tryz.isAgg156
  z139 := Tryz.sizeOf156
  v139 := Tryz.zeroValue156
  g3 := by kernel_rfl
  g4 := by kernel_rfl }
open Go.RowKit in
/-- strings.TrimLeft: "TrimLeft returns a slice of the string s with all leading Unicode code points contained in cutset removed.": AT A cutset OF ONE ASCII BYTE. The world is as it was. (LAID: no walk: one application.) -/
theorem Tryz.strings_TrimLeft_one (s : ByteArray) (c : UInt8) (hc : c.toNat < 128) (w : World) :
    Calls Tryz.prog 66 #[.string s, .string ⟨#[c]⟩] w fun e w' => e = .returned (.string ⟨(Lib.trimLeftB s.data.toList c).toArray⟩) ∧ w' = w := Any.strings_TrimLeft_one Tryz.lays161 s c hc w
def Tryz.lays119_ren : Go.Shelf.Ren := ⟨fun | 119 => 145 | n => n, fun | 21 => 21 | 4 => 4 | n => n, fun | n => n⟩
theorem Tryz.lays119 : Go.Proofs.Lays.n119 Tryz.prog Tryz.lays119_ren := {
  mixed := by kernel_rfl
  f119 := Tryz.func145.trans (congrArg some (by kernel_rfl))
  t4 := Tryz.underlying4
  a4 := Tryz.isAgg4
  z4 := Tryz.sizeOf4
  v4 := Tryz.zeroValue4
  t21 := Tryz.underlying21
  a21 := Tryz.isAgg21
  z21 := Tryz.sizeOf21
  v21 := Tryz.zeroValue21 }
/-- utf8.ValidRune: "ValidRune reports whether r can be legally encoded as UTF-8. Code points that are out of range or a surrogate half are illegal.": IT RETURNS 'Lib.validRune r'; the world is as it was. (LAID: no walk: one application.) -/
theorem Tryz.utf8_ValidRune (r : Int) (w : World) :
    Calls Tryz.prog 145 #[.int .i32 r] w fun e w' => e = .returned (.bool (Lib.validRune r)) ∧ w' = w := Any.utf8_ValidRune Tryz.lays119 r w
def Tryz.lays128_ren : Go.Shelf.Ren := ⟨fun | 128 => 104 | n => n, fun | 51 => 122 | 3 => 3 | 4 => 4 | 46 => 96 | 5 => 5 | 9 => 9 | n => n, fun | n => n⟩
theorem Tryz.lays128 : Go.Proofs.Lays.n128 Tryz.prog Tryz.lays128_ren := {
  mixed := by kernel_rfl
  f128 := Tryz.func104.trans (congrArg some (by kernel_rfl))
  t3 := Tryz.underlying3
  a3 := Tryz.isAgg3
  z3 := Tryz.sizeOf3
  v3 := Tryz.zeroValue3
  t4 := Tryz.underlying4
  a4 := Tryz.isAgg4
  z4 := Tryz.sizeOf4
  v4 := Tryz.zeroValue4
  t5 := Tryz.underlying5
  a5 := Tryz.isAgg5
  z5 := Tryz.sizeOf5
  v5 := Tryz.zeroValue5
  t9 := Tryz.underlying9
  a9 := Tryz.isAgg9
  z9 := Tryz.sizeOf9
  v9 := Tryz.zeroValue9
  t46 := Tryz.underlying96
  a46 := Tryz.isAgg96
  z46 := Tryz.sizeOf96
  v46 := Tryz.zeroValue96
  t51 := Tryz.underlying122
  a51 := Tryz.isAgg122
  z51 := Tryz.sizeOf122
  v51 := Tryz.zeroValue122 }
/-- bits.Len32: "Len32 returns the minimum number of bits required to represent x; the result is 0 for x == 0.": IT RETURNS 'Lib.bitLen x'; the world is as it was. ('h0', 'h1': x is a uint32.) (LAID: no walk: one application.) -/
theorem Tryz.bits_Len32 (x : Int) (w : World) (h0 : 0 ≤ x) (h1 : x ≤ 4294967295) :
    Calls Tryz.prog 104 #[.int .u32 x] w fun e w' => e = .returned (.int .i64 (Lib.bitLen x.toNat)) ∧ w' = w := Any.bits_Len32 Tryz.lays128 x w h0 h1
def Tryz.lays125_ren : Go.Shelf.Ren := ⟨fun | 125 => 71 | 128 => 104 | 129 => 105 | n => n, fun | 46 => 96 | 3 => 3 | 51 => 122 | 53 => 124 | 4 => 4 | 5 => 5 | 9 => 9 | n => n, fun | n => n⟩
theorem Tryz.lays125 : Go.Proofs.Lays.n125 Tryz.prog Tryz.lays125_ren := {
  mixed := by kernel_rfl
  f125 := Tryz.func71.trans (congrArg some (by kernel_rfl))
  f128 := Tryz.func104.trans (congrArg some (by kernel_rfl))
  f129 := Tryz.func105.trans (congrArg some (by kernel_rfl))
  t3 := Tryz.underlying3
  a3 := Tryz.isAgg3
  z3 := Tryz.sizeOf3
  v3 := Tryz.zeroValue3
  t4 := Tryz.underlying4
  a4 := Tryz.isAgg4
  z4 := Tryz.sizeOf4
  v4 := Tryz.zeroValue4
  t5 := Tryz.underlying5
  a5 := Tryz.isAgg5
  z5 := Tryz.sizeOf5
  v5 := Tryz.zeroValue5
  t9 := Tryz.underlying9
  a9 := Tryz.isAgg9
  z9 := Tryz.sizeOf9
  v9 := Tryz.zeroValue9
  t46 := Tryz.underlying96
  a46 := Tryz.isAgg96
  z46 := Tryz.sizeOf96
  v46 := Tryz.zeroValue96
  t51 := Tryz.underlying122
  a51 := Tryz.isAgg122
  z51 := Tryz.sizeOf122
  v51 := Tryz.zeroValue122
  t53 := Tryz.underlying124
  a53 := Tryz.isAgg124
  z53 := Tryz.sizeOf124
  v53 := Tryz.zeroValue124 }
/-- bits.Len: "Len returns the minimum number of bits required to represent x; the result is 0 for x == 0.": IT RETURNS 'Lib.bitLen x'; the world is as it was. (A uint has 64 bits in the model.) ITS CALLEE bits.Len64 IS MET BY ITS OWN CONTRACT OFF THE SHELF (lay that first). (LAID: no walk: one application.) -/
theorem Tryz.bits_Len (x : Int) (w : World) (h0 : 0 ≤ x) (h1 : x ≤ 18446744073709551615) :
    Calls Tryz.prog 71 #[.int .u64 x] w fun e w' => e = .returned (.int .i64 (Lib.bitLen x.toNat)) ∧ w' = w := Any.bits_Len Tryz.lays125 x w h0 h1
def Tryz.lays137_ren : Go.Shelf.Ren := ⟨fun | 137 => 144 | 217 => 137 | 266 => 147 | n => n, fun | 9 => 9 | 5 => 5 | 3 => 3 | n => n, fun | n => n⟩
theorem Tryz.lays137 : Go.Proofs.Lays.n137 Tryz.prog Tryz.lays137_ren := {
  mixed := by kernel_rfl
  f137 := Tryz.func144.trans (congrArg some (by kernel_rfl))
  f217 := Tryz.func137.trans (congrArg some (by kernel_rfl))
  f266 := Tryz.func147.trans (congrArg some (by kernel_rfl))
  t3 := Tryz.underlying3
  a3 := Tryz.isAgg3
  z3 := Tryz.sizeOf3
  v3 := Tryz.zeroValue3
  t5 := Tryz.underlying5
  a5 := Tryz.isAgg5
  z5 := Tryz.sizeOf5
  v5 := Tryz.zeroValue5
  t9 := Tryz.underlying9
  a9 := Tryz.isAgg9
  z9 := Tryz.sizeOf9
  v9 := Tryz.zeroValue9 }
open Go.RowKit in
/-- strings.IndexByte: "IndexByte returns the index of the first instance of c in s, or -1 if c is not present in s.": IT RETURNS 'Lib.indexByte s c'; the world is as it was. (LAID: no walk: one application.) -/
theorem Tryz.strings_IndexByte (s : ByteArray) (c : Int) (w : World) :
    Calls Tryz.prog 144 #[.string s, .int .u8 c] w fun e w' => e = .returned (.int .i64 (Lib.indexByte s.data.toList c.toNat.toUInt8)) ∧ w' = w := Any.strings_IndexByte Tryz.lays137 s c w
def Tryz.lays129_ren : Go.Shelf.Ren := ⟨fun | 129 => 105 | n => n, fun | 53 => 124 | 3 => 3 | 4 => 4 | 46 => 96 | 5 => 5 | 9 => 9 | n => n, fun | n => n⟩
theorem Tryz.lays129 : Go.Proofs.Lays.n129 Tryz.prog Tryz.lays129_ren := {
  mixed := by kernel_rfl
  f129 := Tryz.func105.trans (congrArg some (by kernel_rfl))
  t3 := Tryz.underlying3
  a3 := Tryz.isAgg3
  z3 := Tryz.sizeOf3
  v3 := Tryz.zeroValue3
  t4 := Tryz.underlying4
  a4 := Tryz.isAgg4
  z4 := Tryz.sizeOf4
  v4 := Tryz.zeroValue4
  t5 := Tryz.underlying5
  a5 := Tryz.isAgg5
  z5 := Tryz.sizeOf5
  v5 := Tryz.zeroValue5
  t9 := Tryz.underlying9
  a9 := Tryz.isAgg9
  z9 := Tryz.sizeOf9
  v9 := Tryz.zeroValue9
  t46 := Tryz.underlying96
  a46 := Tryz.isAgg96
  z46 := Tryz.sizeOf96
  v46 := Tryz.zeroValue96
  t53 := Tryz.underlying124
  a53 := Tryz.isAgg124
  z53 := Tryz.sizeOf124
  v53 := Tryz.zeroValue124 }
/-- bits.Len64: "Len64 returns the minimum number of bits required to represent x; the result is 0 for x == 0.": IT RETURNS 'Lib.bitLen x'; the world is as it was. ('h0', 'h1': x is a uint64.) (LAID: no walk: one application.) -/
theorem Tryz.bits_Len64 (x : Int) (w : World) (h0 : 0 ≤ x) (h1 : x ≤ 18446744073709551615) :
    Calls Tryz.prog 105 #[.int .u64 x] w fun e w' => e = .returned (.int .i64 (Lib.bitLen x.toNat)) ∧ w' = w := Any.bits_Len64 Tryz.lays129 x w h0 h1
def Tryz.lays217_ren : Go.Shelf.Ren := ⟨fun | 217 => 137 | 266 => 147 | n => n, fun | 9 => 9 | 5 => 5 | 3 => 3 | n => n, fun | n => n⟩
theorem Tryz.lays217 : Go.Proofs.Lays.n217 Tryz.prog Tryz.lays217_ren := {
  mixed := by kernel_rfl
  f217 := Tryz.func137.trans (congrArg some (by kernel_rfl))
  f266 := Tryz.func147.trans (congrArg some (by kernel_rfl))
  t3 := Tryz.underlying3
  a3 := Tryz.isAgg3
  z3 := Tryz.sizeOf3
  v3 := Tryz.zeroValue3
  t5 := Tryz.underlying5
  a5 := Tryz.isAgg5
  z5 := Tryz.sizeOf5
  v5 := Tryz.zeroValue5
  t9 := Tryz.underlying9
  a9 := Tryz.isAgg9
  z9 := Tryz.sizeOf9
  v9 := Tryz.zeroValue9 }
open Go.RowKit Go.Lib in
/-- internal/stringslite.IndexByte (what strings.IndexByte calls): IT RETURNS 'Lib.indexByte s c'; the world is as it was. (LAID: no walk: one application.) -/
theorem Tryz.stringslite_IndexByte (s : ByteArray) (c : Int) (w : World) :
    Calls Tryz.prog 137 #[.string s, .int .u8 c] w fun e w' => e = .returned (.int .i64 (Lib.indexByte s.data.toList c.toNat.toUInt8)) ∧ w' = w := Any.stringslite_IndexByte Tryz.lays217 s c w
def Tryz.lays224_ren : Go.Shelf.Ren := ⟨fun | 224 => 139 | n => n, fun | 3 => 3 | n => n, fun | n => n⟩
theorem Tryz.lays224 : Go.Proofs.Lays.n224 Tryz.prog Tryz.lays224_ren := {
  mixed := by kernel_rfl
  f224 := Tryz.func139.trans (congrArg some (by kernel_rfl))
  t3 := Tryz.underlying3
  a3 := Tryz.isAgg3
  z3 := Tryz.sizeOf3
  v3 := Tryz.zeroValue3 }
open Go.RowKit Go.Lib in
/-- internal/bytealg.Cutover: "Cutover reports the number of failures of IndexByte we should tolerate before switching over to Index. n is the number of bytes processed so far.": on amd64: (n + 16) / 8. (LAID: no walk: one application.) -/
theorem Tryz.bytealg_Cutover (n : Int) (h0 : 0 ≤ n) (h1 : n < 4611686018427387904) (w : World) :
    Calls Tryz.prog 139 #[.int .i64 n] w fun e w' => e = .returned (.int .i64 ((n + 16) / 8)) ∧ w' = w := Any.bytealg_Cutover Tryz.lays224 n h0 h1 w
def Tryz.lays314_ren : Go.Shelf.Ren := ⟨fun | 314 => 148 | n => n, fun | 9 => 9 | 51 => 122 | 3 => 3 | 4 => 4 | 5 => 5 | 46 => 96 | n => n, fun | n => n⟩
theorem Tryz.lays314 : Go.Proofs.Lays.n314 Tryz.prog Tryz.lays314_ren := {
  mixed := by kernel_rfl
  f314 := Tryz.func148.trans (congrArg some (by kernel_rfl))
  t3 := Tryz.underlying3
  a3 := Tryz.isAgg3
  z3 := Tryz.sizeOf3
  v3 := Tryz.zeroValue3
  t4 := Tryz.underlying4
  a4 := Tryz.isAgg4
  z4 := Tryz.sizeOf4
  v4 := Tryz.zeroValue4
  t5 := Tryz.underlying5
  a5 := Tryz.isAgg5
  z5 := Tryz.sizeOf5
  v5 := Tryz.zeroValue5
  t9 := Tryz.underlying9
  a9 := Tryz.isAgg9
  z9 := Tryz.sizeOf9
  v9 := Tryz.zeroValue9
  t46 := Tryz.underlying96
  a46 := Tryz.isAgg96
  z46 := Tryz.sizeOf96
  v46 := Tryz.zeroValue96
  t51 := Tryz.underlying122
  a51 := Tryz.isAgg122
  z51 := Tryz.sizeOf122
  v51 := Tryz.zeroValue122 }
open Go.RowKit Go.Lib in
/-- hashStr: "returns the hash and the appropriate multiplicative factor for use in Rabin-Karp algorithm": THE HASH OF ALL OF sep, AND 16777619 ^ len(sep), both in uint32. (LAID: no walk: one application.) -/
theorem Tryz.bytealg_hashStr (sep : ByteArray) (hs : sep.size < 4294967281) (w : World) :
    Calls Tryz.prog 148 #[.string sep] w fun e w' => e = .returned (.tuple #[.int .u32 (RK.H sep.data.toList % 4294967296), .int .u32 (16777619 ^ sep.size % 4294967296)]) ∧ w' = w := Any.bytealg_hashStr Tryz.lays314 sep hs w
def Tryz.lays267_ren : Go.Shelf.Ren := ⟨fun | 267 => 140 | 314 => 148 | n => n, fun | 9 => 9 | 3 => 3 | 146 => 151 | 51 => 122 | 4 => 4 | 5 => 5 | 46 => 96 | n => n, fun | n => n⟩
theorem Tryz.lays267 : Go.Proofs.Lays.n267 Tryz.prog Tryz.lays267_ren := {
  mixed := by kernel_rfl
  f267 := Tryz.func140.trans (congrArg some (by kernel_rfl))
  f314 := Tryz.func148.trans (congrArg some (by kernel_rfl))
  t3 := Tryz.underlying3
  a3 := Tryz.isAgg3
  z3 := Tryz.sizeOf3
  v3 := Tryz.zeroValue3
  t4 := Tryz.underlying4
  a4 := Tryz.isAgg4
  z4 := Tryz.sizeOf4
  v4 := Tryz.zeroValue4
  t5 := Tryz.underlying5
  a5 := Tryz.isAgg5
  z5 := Tryz.sizeOf5
  v5 := Tryz.zeroValue5
  t9 := Tryz.underlying9
  a9 := Tryz.isAgg9
  z9 := Tryz.sizeOf9
  v9 := Tryz.zeroValue9
  t46 := Tryz.underlying96
  a46 := Tryz.isAgg96
  z46 := Tryz.sizeOf96
  v46 := Tryz.zeroValue96
  t51 := Tryz.underlying122
  a51 := Tryz.isAgg122
  z51 := Tryz.sizeOf122
  v51 := Tryz.zeroValue122
  t146 := Tryz.underlying151
  a146 := Tryz.isAgg151
  z146 := Tryz.sizeOf151
  v146 := Tryz.zeroValue151 }
open Go.RowKit Go.Lib in
theorem Tryz.bytealg_IndexRabinKarp (s sep : ByteArray) (h1 : 1 ≤ sep.size) (h2 : sep.size ≤ s.size) (hs : s.size < 4294967281) (w : World) :
    Calls Tryz.prog 140 #[.string s, .string sep] w fun e w' => e = .returned (.int .i64 (Lib.index s.data.toList sep.data.toList)) ∧ w' = w := Any.bytealg_IndexRabinKarp Tryz.lays267 s sep h1 h2 hs w
def Tryz.lays219_ren : Go.Shelf.Ren := ⟨fun | 219 => 120 | 217 => 137 | 225 => 138 | 224 => 139 | 267 => 140 | 266 => 147 | 314 => 148 | n => n, fun | 9 => 9 | 3 => 3 | 4 => 4 | 5 => 5 | 46 => 96 | 146 => 151 | 51 => 122 | n => n, fun | 1 => 0 | n => n⟩
theorem Tryz.lays219 : Go.Proofs.Lays.n219 Tryz.prog Tryz.lays219_ren := {
  mixed := by kernel_rfl
  f217 := Tryz.func137.trans (congrArg some (by kernel_rfl))
  f219 := Tryz.func120.trans (congrArg some (by kernel_rfl))
  f224 := Tryz.func139.trans (congrArg some (by kernel_rfl))
  f225 := Tryz.func138.trans (congrArg some (by kernel_rfl))
  f266 := Tryz.func147.trans (congrArg some (by kernel_rfl))
  f267 := Tryz.func140.trans (congrArg some (by kernel_rfl))
  f314 := Tryz.func148.trans (congrArg some (by kernel_rfl))
  t3 := Tryz.underlying3
  a3 := Tryz.isAgg3
  z3 := Tryz.sizeOf3
  v3 := Tryz.zeroValue3
  t4 := Tryz.underlying4
  a4 := Tryz.isAgg4
  z4 := Tryz.sizeOf4
  v4 := Tryz.zeroValue4
  t5 := Tryz.underlying5
  a5 := Tryz.isAgg5
  z5 := Tryz.sizeOf5
  v5 := Tryz.zeroValue5
  t9 := Tryz.underlying9
  a9 := Tryz.isAgg9
  z9 := Tryz.sizeOf9
  v9 := Tryz.zeroValue9
  t46 := Tryz.underlying96
  a46 := Tryz.isAgg96
  z46 := Tryz.sizeOf96
  v46 := Tryz.zeroValue96
  t51 := Tryz.underlying122
  a51 := Tryz.isAgg122
  z51 := Tryz.sizeOf122
  v51 := Tryz.zeroValue122
  t146 := Tryz.underlying151
  a146 := Tryz.isAgg151
  z146 := Tryz.sizeOf151
  v146 := Tryz.zeroValue151
  g1 := by kernel_rfl }
open Go.RowKit Go.Lib in
/-- internal/stringslite.Index (what strings.Index calls) AT A substr OF ONE BYTE c: IT RETURNS 'Lib.indexByte s c'; the world is as it was. (LAID: no walk: one application.) -/
theorem Tryz.stringslite_Index_one (s : ByteArray) (c : UInt8) (w : World) :
    Calls Tryz.prog 120 #[.string s, .string ⟨#[c]⟩] w fun e w' => e = .returned (.int .i64 (Lib.indexByte s.data.toList c)) ∧ w' = w := Any.stringslite_Index_one Tryz.lays219 s c w
open Go.RowKit Go.Lib in
/-- internal/stringslite.Index (what strings.Index calls) AT A substr OF WHATEVER LENGTH: IT RETURNS 'Lib.index s substr'; the world is as it was. 'm': what internal/bytealg.MaxLen holds: whatever. (LAID: no walk: one application.) -/
theorem Tryz.stringslite_Index (s sub : ByteArray) (m : Int) (w : World) (hs : s.size < 4294967281) (hm : w.cell? ⟨0, 0, none⟩ = some (.int .i64 m)) :
    Calls Tryz.prog 120 #[.string s, .string sub] w fun e w' => e = .returned (.int .i64 (Lib.index s.data.toList sub.data.toList)) ∧ w' = w := Any.stringslite_Index Tryz.lays219 s sub m w hs hm
def Tryz.lays143_ren : Go.Shelf.Ren := ⟨fun | 143 => 84 | 219 => 120 | 217 => 137 | 225 => 138 | 224 => 139 | 267 => 140 | 266 => 147 | 314 => 148 | n => n, fun | 9 => 9 | 3 => 3 | 4 => 4 | 5 => 5 | 46 => 96 | 146 => 151 | 51 => 122 | n => n, fun | 1 => 0 | n => n⟩
theorem Tryz.lays143 : Go.Proofs.Lays.n143 Tryz.prog Tryz.lays143_ren := {
  mixed := by kernel_rfl
  f143 := Tryz.func84.trans (congrArg some (by kernel_rfl))
  f217 := Tryz.func137.trans (congrArg some (by kernel_rfl))
  f219 := Tryz.func120.trans (congrArg some (by kernel_rfl))
  f224 := Tryz.func139.trans (congrArg some (by kernel_rfl))
  f225 := Tryz.func138.trans (congrArg some (by kernel_rfl))
  f266 := Tryz.func147.trans (congrArg some (by kernel_rfl))
  f267 := Tryz.func140.trans (congrArg some (by kernel_rfl))
  f314 := Tryz.func148.trans (congrArg some (by kernel_rfl))
  t3 := Tryz.underlying3
  a3 := Tryz.isAgg3
  z3 := Tryz.sizeOf3
  v3 := Tryz.zeroValue3
  t4 := Tryz.underlying4
  a4 := Tryz.isAgg4
  z4 := Tryz.sizeOf4
  v4 := Tryz.zeroValue4
  t5 := Tryz.underlying5
  a5 := Tryz.isAgg5
  z5 := Tryz.sizeOf5
  v5 := Tryz.zeroValue5
  t9 := Tryz.underlying9
  a9 := Tryz.isAgg9
  z9 := Tryz.sizeOf9
  v9 := Tryz.zeroValue9
  t46 := Tryz.underlying96
  a46 := Tryz.isAgg96
  z46 := Tryz.sizeOf96
  v46 := Tryz.zeroValue96
  t51 := Tryz.underlying122
  a51 := Tryz.isAgg122
  z51 := Tryz.sizeOf122
  v51 := Tryz.zeroValue122
  t146 := Tryz.underlying151
  a146 := Tryz.isAgg151
  z146 := Tryz.sizeOf151
  v146 := Tryz.zeroValue151
  g1 := by kernel_rfl }
open Go.RowKit Go.Lib in
/-- strings.Index: "Index returns the index of the first instance of substr in s, or -1 if substr is not present in s.": AT A substr OF ONE BYTE c: IT RETURNS 'Lib.indexByte s c'; the world is as it was. (LAID: no walk: one application.) -/
theorem Tryz.strings_Index_one (s : ByteArray) (c : UInt8) (w : World) :
    Calls Tryz.prog 84 #[.string s, .string ⟨#[c]⟩] w fun e w' => e = .returned (.int .i64 (Lib.indexByte s.data.toList c)) ∧ w' = w := Any.strings_Index_one Tryz.lays143 s c w
open Go.RowKit Go.Lib in
/-- strings.Index: "Index returns the index of the first instance of substr in s, or -1 if substr is not present in s.": IT RETURNS 'Lib.index s substr'; the world is as it was. (LAID: no walk: one application.) -/
theorem Tryz.strings_Index (s sub : ByteArray) (m : Int) (w : World) (hs : s.size < 4294967281) (hm : w.cell? ⟨0, 0, none⟩ = some (.int .i64 m)) :
    Calls Tryz.prog 84 #[.string s, .string sub] w fun e w' => e = .returned (.int .i64 (Lib.index s.data.toList sub.data.toList)) ∧ w' = w := Any.strings_Index Tryz.lays143 s sub m w hs hm
def Tryz.lays144_ren : Go.Shelf.Ren := ⟨fun | 144 => 58 | 143 => 84 | 219 => 120 | 217 => 137 | 225 => 138 | 224 => 139 | 267 => 140 | 266 => 147 | 314 => 148 | n => n, fun | 9 => 9 | 4 => 4 | 3 => 3 | 5 => 5 | 46 => 96 | 146 => 151 | 51 => 122 | n => n, fun | 1 => 0 | n => n⟩
theorem Tryz.lays144 : Go.Proofs.Lays.n144 Tryz.prog Tryz.lays144_ren := {
  mixed := by kernel_rfl
  f143 := Tryz.func84.trans (congrArg some (by kernel_rfl))
  f144 := Tryz.func58.trans (congrArg some (by kernel_rfl))
  f217 := Tryz.func137.trans (congrArg some (by kernel_rfl))
  f219 := Tryz.func120.trans (congrArg some (by kernel_rfl))
  f224 := Tryz.func139.trans (congrArg some (by kernel_rfl))
  f225 := Tryz.func138.trans (congrArg some (by kernel_rfl))
  f266 := Tryz.func147.trans (congrArg some (by kernel_rfl))
  f267 := Tryz.func140.trans (congrArg some (by kernel_rfl))
  f314 := Tryz.func148.trans (congrArg some (by kernel_rfl))
  t3 := Tryz.underlying3
  a3 := Tryz.isAgg3
  z3 := Tryz.sizeOf3
  v3 := Tryz.zeroValue3
  t4 := Tryz.underlying4
  a4 := Tryz.isAgg4
  z4 := Tryz.sizeOf4
  v4 := Tryz.zeroValue4
  t5 := Tryz.underlying5
  a5 := Tryz.isAgg5
  z5 := Tryz.sizeOf5
  v5 := Tryz.zeroValue5
  t9 := Tryz.underlying9
  a9 := Tryz.isAgg9
  z9 := Tryz.sizeOf9
  v9 := Tryz.zeroValue9
  t46 := Tryz.underlying96
  a46 := Tryz.isAgg96
  z46 := Tryz.sizeOf96
  v46 := Tryz.zeroValue96
  t51 := Tryz.underlying122
  a51 := Tryz.isAgg122
  z51 := Tryz.sizeOf122
  v51 := Tryz.zeroValue122
  t146 := Tryz.underlying151
  a146 := Tryz.isAgg151
  z146 := Tryz.sizeOf151
  v146 := Tryz.zeroValue151
  g1 := by kernel_rfl }
open Go.RowKit Go.Lib in
/-- strings.Contains: "Contains reports whether substr is within s.": AT A substr OF ONE BYTE c: IT RETURNS 'decide (0 ≤ Lib.indexByte s c)'; the world is as it was. (LAID: no walk: one application.) -/
theorem Tryz.strings_Contains_one (s : ByteArray) (c : UInt8) (w : World) :
    Calls Tryz.prog 58 #[.string s, .string ⟨#[c]⟩] w fun e w' => e = .returned (.bool (decide (0 ≤ Lib.indexByte s.data.toList c))) ∧ w' = w := Any.strings_Contains_one Tryz.lays144 s c w
open Go.RowKit Go.Lib in
/-- strings.Contains: "Contains reports whether substr is within s.": IT RETURNS 'Lib.contains s substr'; the world is as it was. (LAID: no walk: one application.) -/
theorem Tryz.strings_Contains (s sub : ByteArray) (m : Int) (w : World) (hs : s.size < 4294967281) (hm : w.cell? ⟨0, 0, none⟩ = some (.int .i64 m)) :
    Calls Tryz.prog 58 #[.string s, .string sub] w fun e w' => e = .returned (.bool (Lib.contains s.data.toList sub.data.toList)) ∧ w' = w := Any.strings_Contains Tryz.lays144 s sub m w hs hm
def Tryz.lays220_ren : Go.Shelf.Ren := ⟨fun | 220 => 125 | 219 => 120 | 217 => 137 | 225 => 138 | 224 => 139 | 267 => 140 | 266 => 147 | 314 => 148 | n => n, fun | 9 => 9 | 4 => 4 | 3 => 3 | 5 => 5 | 46 => 96 | 146 => 151 | 51 => 122 | n => n, fun | 1 => 0 | n => n⟩
theorem Tryz.lays220 : Go.Proofs.Lays.n220 Tryz.prog Tryz.lays220_ren := {
  mixed := by kernel_rfl
  f217 := Tryz.func137.trans (congrArg some (by kernel_rfl))
  f219 := Tryz.func120.trans (congrArg some (by kernel_rfl))
  f220 := Tryz.func125.trans (congrArg some (by kernel_rfl))
  f224 := Tryz.func139.trans (congrArg some (by kernel_rfl))
  f225 := Tryz.func138.trans (congrArg some (by kernel_rfl))
  f266 := Tryz.func147.trans (congrArg some (by kernel_rfl))
  f267 := Tryz.func140.trans (congrArg some (by kernel_rfl))
  f314 := Tryz.func148.trans (congrArg some (by kernel_rfl))
  t3 := Tryz.underlying3
  a3 := Tryz.isAgg3
  z3 := Tryz.sizeOf3
  v3 := Tryz.zeroValue3
  t4 := Tryz.underlying4
  a4 := Tryz.isAgg4
  z4 := Tryz.sizeOf4
  v4 := Tryz.zeroValue4
  t5 := Tryz.underlying5
  a5 := Tryz.isAgg5
  z5 := Tryz.sizeOf5
  v5 := Tryz.zeroValue5
  t9 := Tryz.underlying9
  a9 := Tryz.isAgg9
  z9 := Tryz.sizeOf9
  v9 := Tryz.zeroValue9
  t46 := Tryz.underlying96
  a46 := Tryz.isAgg96
  z46 := Tryz.sizeOf96
  v46 := Tryz.zeroValue96
  t51 := Tryz.underlying122
  a51 := Tryz.isAgg122
  z51 := Tryz.sizeOf122
  v51 := Tryz.zeroValue122
  t146 := Tryz.underlying151
  a146 := Tryz.isAgg151
  z146 := Tryz.sizeOf151
  v146 := Tryz.zeroValue151
  g1 := by kernel_rfl }
open Go.RowKit Go.Lib in
/-- internal/stringslite.Cut (what strings.Cut calls): IT RETURNS 'Lib.cut s sep'; the world is as it was but for the count of draws. (LAID: no walk: one application.) -/
theorem Tryz.stringslite_Cut (s sep : ByteArray) (m : Int) (w : World) (hs : s.size < 4294967281) (hm : w.cell? ⟨0, 0, none⟩ = some (.int .i64 m)) :
    Calls Tryz.prog 125 #[.string s, .string sep] w fun e w' => e = .returned (.tuple #[.string ⟨(Lib.cut s.data.toList sep.data.toList).1.toArray⟩, .string ⟨(Lib.cut s.data.toList sep.data.toList).2.1.toArray⟩, .bool (Lib.cut s.data.toList sep.data.toList).2.2]) ∧ ∃ n, w' = w.drewN n := Any.stringslite_Cut Tryz.lays220 s sep m w hs hm
def Tryz.lays145_ren : Go.Shelf.Ren := ⟨fun | 145 => 91 | 220 => 125 | 219 => 120 | 217 => 137 | 225 => 138 | 224 => 139 | 267 => 140 | 266 => 147 | 314 => 148 | n => n, fun | 9 => 9 | 4 => 4 | 59 => 111 | 3 => 3 | 5 => 5 | 46 => 96 | 146 => 151 | 51 => 122 | n => n, fun | 1 => 0 | n => n⟩
theorem Tryz.lays145 : Go.Proofs.Lays.n145 Tryz.prog Tryz.lays145_ren := {
  mixed := by kernel_rfl
  f145 := Tryz.func91.trans (congrArg some (by kernel_rfl))
  f217 := Tryz.func137.trans (congrArg some (by kernel_rfl))
  f219 := Tryz.func120.trans (congrArg some (by kernel_rfl))
  f220 := Tryz.func125.trans (congrArg some (by kernel_rfl))
  f224 := Tryz.func139.trans (congrArg some (by kernel_rfl))
  f225 := Tryz.func138.trans (congrArg some (by kernel_rfl))
  f266 := Tryz.func147.trans (congrArg some (by kernel_rfl))
  f267 := Tryz.func140.trans (congrArg some (by kernel_rfl))
  f314 := Tryz.func148.trans (congrArg some (by kernel_rfl))
  t3 := Tryz.underlying3
  a3 := Tryz.isAgg3
  z3 := Tryz.sizeOf3
  v3 := Tryz.zeroValue3
  t4 := Tryz.underlying4
  a4 := Tryz.isAgg4
  z4 := Tryz.sizeOf4
  v4 := Tryz.zeroValue4
  t5 := Tryz.underlying5
  a5 := Tryz.isAgg5
  z5 := Tryz.sizeOf5
  v5 := Tryz.zeroValue5
  t9 := Tryz.underlying9
  a9 := Tryz.isAgg9
  z9 := Tryz.sizeOf9
  v9 := Tryz.zeroValue9
  t46 := Tryz.underlying96
  a46 := Tryz.isAgg96
  z46 := Tryz.sizeOf96
  v46 := Tryz.zeroValue96
  t51 := Tryz.underlying122
  a51 := Tryz.isAgg122
  z51 := Tryz.sizeOf122
  v51 := Tryz.zeroValue122
  t59 := Tryz.underlying111
  a59 := Tryz.isAgg111
  z59 := Tryz.sizeOf111
  v59 := Tryz.zeroValue111
  t146 := Tryz.underlying151
  a146 := Tryz.isAgg151
  z146 := Tryz.sizeOf151
  v146 := Tryz.zeroValue151
  g1 := by kernel_rfl }
open Go.RowKit Go.Lib in
/-- strings.Cut: "Cut slices s around the first instance of sep, returning the text before and after sep. The found result reports whether sep appears in s. If sep does not appear in s, cut returns s, "", false.": IT RETURNS 'Lib.cut s sep'; the world is as it was but for the count of draws. (LAID: no walk: one application.) -/
theorem Tryz.strings_Cut (s sep : ByteArray) (m : Int) (w : World) (hs : s.size < 4294967281) (hm : w.cell? ⟨0, 0, none⟩ = some (.int .i64 m)) :
    Calls Tryz.prog 91 #[.string s, .string sep] w fun e w' => e = .returned (.tuple #[.string ⟨(Lib.cut s.data.toList sep.data.toList).1.toArray⟩, .string ⟨(Lib.cut s.data.toList sep.data.toList).2.1.toArray⟩, .bool (Lib.cut s.data.toList sep.data.toList).2.2]) ∧ ∃ n, w' = w.drewN n := Any.strings_Cut Tryz.lays145 s sep m w hs hm
def Tryz.laysM219_ren : Go.Shelf.Ren := ⟨fun | 219 => 120 | 217 => 137 | 225 => 138 | 224 => 139 | 267 => 140 | 266 => 147 | 314 => 148 | n => n, fun | 9 => 9 | 3 => 3 | 4 => 4 | 5 => 5 | 46 => 96 | 146 => 151 | 51 => 122 | n => n, fun | 1 => 0 | n => n⟩
theorem Tryz.laysM219 : Go.Proofs.LaysM.n219 Tryz.prog Tryz.laysM219_ren := {
  mixed := by kernel_rfl
  f217 := Tryz.func137.trans (congrArg some (by kernel_rfl))
  f219 := Tryz.func120.trans (congrArg some (by kernel_rfl))
  f224 := Tryz.func139.trans (congrArg some (by kernel_rfl))
  f225 := Tryz.func138.trans (congrArg some (by kernel_rfl))
  f266 := Tryz.func147.trans (congrArg some (by kernel_rfl))
  f267 := Tryz.func140.trans (congrArg some (by kernel_rfl))
  f314 := Tryz.func148.trans (congrArg some (by kernel_rfl))
  t3 := Tryz.underlying3
  a3 := Tryz.isAgg3
  z3 := Tryz.sizeOf3
  v3 := Tryz.zeroValue3
  t4 := Tryz.underlying4
  a4 := Tryz.isAgg4
  z4 := Tryz.sizeOf4
  v4 := Tryz.zeroValue4
  t5 := Tryz.underlying5
  a5 := Tryz.isAgg5
  z5 := Tryz.sizeOf5
  v5 := Tryz.zeroValue5
  t9 := Tryz.underlying9
  a9 := Tryz.isAgg9
  z9 := Tryz.sizeOf9
  v9 := Tryz.zeroValue9
  t46 := Tryz.underlying96
  a46 := Tryz.isAgg96
  z46 := Tryz.sizeOf96
  v46 := Tryz.zeroValue96
  t51 := Tryz.underlying122
  a51 := Tryz.isAgg122
  z51 := Tryz.sizeOf122
  v51 := Tryz.zeroValue122
  t146 := Tryz.underlying151
  a146 := Tryz.isAgg151
  z146 := Tryz.sizeOf151
  v146 := Tryz.zeroValue151
  g1 := by kernel_rfl
  i3 := by kernel_rfl
  i4 := by kernel_rfl
  i5 := by kernel_rfl
  i9 := by kernel_rfl
  i46 := by kernel_rfl
  i51 := by kernel_rfl
  i146 := by kernel_rfl
  m1 := by kernel_rfl
  s1_3 := fun w h => Go.Proofs.cell_of_shapedOpen_int (zero := #[.int .i64 0]) (t := 3) h (of_decide_eq_true (by kernel_rfl)) (by kernel_rfl) rfl (by kernel_rfl) (by kernel_rfl) Tryz.underlying3 }
open Go.RowKit Go.Lib in
theorem Tryz.stringslite_Index_shaped (s sub : ByteArray) (w : World) (h : w.ShapedOpen Tryz.prog) (hs : s.size < 4294967281) :
    Calls Tryz.prog 120 #[.string s, .string sub] w fun e w' => e = .returned (.int .i64 (Lib.index s.data.toList sub.data.toList)) ∧ w' = w := Any.stringslite_Index_shaped Tryz.laysM219 s sub w h hs
def Tryz.laysM143_ren : Go.Shelf.Ren := ⟨fun | 143 => 84 | 219 => 120 | 217 => 137 | 225 => 138 | 224 => 139 | 267 => 140 | 266 => 147 | 314 => 148 | n => n, fun | 9 => 9 | 3 => 3 | 4 => 4 | 5 => 5 | 46 => 96 | 146 => 151 | 51 => 122 | n => n, fun | 1 => 0 | n => n⟩
theorem Tryz.laysM143 : Go.Proofs.LaysM.n143 Tryz.prog Tryz.laysM143_ren := {
  mixed := by kernel_rfl
  f143 := Tryz.func84.trans (congrArg some (by kernel_rfl))
  f217 := Tryz.func137.trans (congrArg some (by kernel_rfl))
  f219 := Tryz.func120.trans (congrArg some (by kernel_rfl))
  f224 := Tryz.func139.trans (congrArg some (by kernel_rfl))
  f225 := Tryz.func138.trans (congrArg some (by kernel_rfl))
  f266 := Tryz.func147.trans (congrArg some (by kernel_rfl))
  f267 := Tryz.func140.trans (congrArg some (by kernel_rfl))
  f314 := Tryz.func148.trans (congrArg some (by kernel_rfl))
  t3 := Tryz.underlying3
  a3 := Tryz.isAgg3
  z3 := Tryz.sizeOf3
  v3 := Tryz.zeroValue3
  t4 := Tryz.underlying4
  a4 := Tryz.isAgg4
  z4 := Tryz.sizeOf4
  v4 := Tryz.zeroValue4
  t5 := Tryz.underlying5
  a5 := Tryz.isAgg5
  z5 := Tryz.sizeOf5
  v5 := Tryz.zeroValue5
  t9 := Tryz.underlying9
  a9 := Tryz.isAgg9
  z9 := Tryz.sizeOf9
  v9 := Tryz.zeroValue9
  t46 := Tryz.underlying96
  a46 := Tryz.isAgg96
  z46 := Tryz.sizeOf96
  v46 := Tryz.zeroValue96
  t51 := Tryz.underlying122
  a51 := Tryz.isAgg122
  z51 := Tryz.sizeOf122
  v51 := Tryz.zeroValue122
  t146 := Tryz.underlying151
  a146 := Tryz.isAgg151
  z146 := Tryz.sizeOf151
  v146 := Tryz.zeroValue151
  g1 := by kernel_rfl
  i3 := by kernel_rfl
  i4 := by kernel_rfl
  i5 := by kernel_rfl
  i9 := by kernel_rfl
  i46 := by kernel_rfl
  i51 := by kernel_rfl
  i146 := by kernel_rfl
  m1 := by kernel_rfl
  s1_3 := fun w h => Go.Proofs.cell_of_shapedOpen_int (zero := #[.int .i64 0]) (t := 3) h (of_decide_eq_true (by kernel_rfl)) (by kernel_rfl) rfl (by kernel_rfl) (by kernel_rfl) Tryz.underlying3 }
open Go.RowKit Go.Lib in
theorem Tryz.strings_Index_shaped (s sub : ByteArray) (w : World) (h : w.ShapedOpen Tryz.prog) (hs : s.size < 4294967281) :
    Calls Tryz.prog 84 #[.string s, .string sub] w fun e w' => e = .returned (.int .i64 (Lib.index s.data.toList sub.data.toList)) ∧ w' = w := Any.strings_Index_shaped Tryz.laysM143 s sub w h hs
def Tryz.laysM144_ren : Go.Shelf.Ren := ⟨fun | 144 => 58 | 143 => 84 | 219 => 120 | 217 => 137 | 225 => 138 | 224 => 139 | 267 => 140 | 266 => 147 | 314 => 148 | n => n, fun | 9 => 9 | 4 => 4 | 3 => 3 | 5 => 5 | 46 => 96 | 146 => 151 | 51 => 122 | n => n, fun | 1 => 0 | n => n⟩
theorem Tryz.laysM144 : Go.Proofs.LaysM.n144 Tryz.prog Tryz.laysM144_ren := {
  mixed := by kernel_rfl
  f143 := Tryz.func84.trans (congrArg some (by kernel_rfl))
  f144 := Tryz.func58.trans (congrArg some (by kernel_rfl))
  f217 := Tryz.func137.trans (congrArg some (by kernel_rfl))
  f219 := Tryz.func120.trans (congrArg some (by kernel_rfl))
  f224 := Tryz.func139.trans (congrArg some (by kernel_rfl))
  f225 := Tryz.func138.trans (congrArg some (by kernel_rfl))
  f266 := Tryz.func147.trans (congrArg some (by kernel_rfl))
  f267 := Tryz.func140.trans (congrArg some (by kernel_rfl))
  f314 := Tryz.func148.trans (congrArg some (by kernel_rfl))
  t3 := Tryz.underlying3
  a3 := Tryz.isAgg3
  z3 := Tryz.sizeOf3
  v3 := Tryz.zeroValue3
  t4 := Tryz.underlying4
  a4 := Tryz.isAgg4
  z4 := Tryz.sizeOf4
  v4 := Tryz.zeroValue4
  t5 := Tryz.underlying5
  a5 := Tryz.isAgg5
  z5 := Tryz.sizeOf5
  v5 := Tryz.zeroValue5
  t9 := Tryz.underlying9
  a9 := Tryz.isAgg9
  z9 := Tryz.sizeOf9
  v9 := Tryz.zeroValue9
  t46 := Tryz.underlying96
  a46 := Tryz.isAgg96
  z46 := Tryz.sizeOf96
  v46 := Tryz.zeroValue96
  t51 := Tryz.underlying122
  a51 := Tryz.isAgg122
  z51 := Tryz.sizeOf122
  v51 := Tryz.zeroValue122
  t146 := Tryz.underlying151
  a146 := Tryz.isAgg151
  z146 := Tryz.sizeOf151
  v146 := Tryz.zeroValue151
  g1 := by kernel_rfl
  i3 := by kernel_rfl
  i4 := by kernel_rfl
  i5 := by kernel_rfl
  i9 := by kernel_rfl
  i46 := by kernel_rfl
  i51 := by kernel_rfl
  i146 := by kernel_rfl
  m1 := by kernel_rfl
  s1_3 := fun w h => Go.Proofs.cell_of_shapedOpen_int (zero := #[.int .i64 0]) (t := 3) h (of_decide_eq_true (by kernel_rfl)) (by kernel_rfl) rfl (by kernel_rfl) (by kernel_rfl) Tryz.underlying3 }
open Go.RowKit Go.Lib in
theorem Tryz.strings_Contains_shaped (s sub : ByteArray) (w : World) (h : w.ShapedOpen Tryz.prog) (hs : s.size < 4294967281) :
    Calls Tryz.prog 58 #[.string s, .string sub] w fun e w' => e = .returned (.bool (Lib.contains s.data.toList sub.data.toList)) ∧ w' = w := Any.strings_Contains_shaped Tryz.laysM144 s sub w h hs
def Tryz.laysM220_ren : Go.Shelf.Ren := ⟨fun | 220 => 125 | 219 => 120 | 217 => 137 | 225 => 138 | 224 => 139 | 267 => 140 | 266 => 147 | 314 => 148 | n => n, fun | 9 => 9 | 4 => 4 | 3 => 3 | 5 => 5 | 46 => 96 | 146 => 151 | 51 => 122 | n => n, fun | 1 => 0 | n => n⟩
theorem Tryz.laysM220 : Go.Proofs.LaysM.n220 Tryz.prog Tryz.laysM220_ren := {
  mixed := by kernel_rfl
  f217 := Tryz.func137.trans (congrArg some (by kernel_rfl))
  f219 := Tryz.func120.trans (congrArg some (by kernel_rfl))
  f220 := Tryz.func125.trans (congrArg some (by kernel_rfl))
  f224 := Tryz.func139.trans (congrArg some (by kernel_rfl))
  f225 := Tryz.func138.trans (congrArg some (by kernel_rfl))
  f266 := Tryz.func147.trans (congrArg some (by kernel_rfl))
  f267 := Tryz.func140.trans (congrArg some (by kernel_rfl))
  f314 := Tryz.func148.trans (congrArg some (by kernel_rfl))
  t3 := Tryz.underlying3
  a3 := Tryz.isAgg3
  z3 := Tryz.sizeOf3
  v3 := Tryz.zeroValue3
  t4 := Tryz.underlying4
  a4 := Tryz.isAgg4
  z4 := Tryz.sizeOf4
  v4 := Tryz.zeroValue4
  t5 := Tryz.underlying5
  a5 := Tryz.isAgg5
  z5 := Tryz.sizeOf5
  v5 := Tryz.zeroValue5
  t9 := Tryz.underlying9
  a9 := Tryz.isAgg9
  z9 := Tryz.sizeOf9
  v9 := Tryz.zeroValue9
  t46 := Tryz.underlying96
  a46 := Tryz.isAgg96
  z46 := Tryz.sizeOf96
  v46 := Tryz.zeroValue96
  t51 := Tryz.underlying122
  a51 := Tryz.isAgg122
  z51 := Tryz.sizeOf122
  v51 := Tryz.zeroValue122
  t146 := Tryz.underlying151
  a146 := Tryz.isAgg151
  z146 := Tryz.sizeOf151
  v146 := Tryz.zeroValue151
  g1 := by kernel_rfl
  i3 := by kernel_rfl
  i4 := by kernel_rfl
  i5 := by kernel_rfl
  i9 := by kernel_rfl
  i46 := by kernel_rfl
  i51 := by kernel_rfl
  i146 := by kernel_rfl
  m1 := by kernel_rfl
  s1_3 := fun w h => Go.Proofs.cell_of_shapedOpen_int (zero := #[.int .i64 0]) (t := 3) h (of_decide_eq_true (by kernel_rfl)) (by kernel_rfl) rfl (by kernel_rfl) (by kernel_rfl) Tryz.underlying3 }
open Go.RowKit Go.Lib in
theorem Tryz.stringslite_Cut_shaped (s sep : ByteArray) (w : World) (h : w.ShapedOpen Tryz.prog) (hs : s.size < 4294967281) :
    Calls Tryz.prog 125 #[.string s, .string sep] w fun e w' => e = .returned (.tuple #[.string ⟨(Lib.cut s.data.toList sep.data.toList).1.toArray⟩, .string ⟨(Lib.cut s.data.toList sep.data.toList).2.1.toArray⟩, .bool (Lib.cut s.data.toList sep.data.toList).2.2]) ∧ ∃ n, w' = w.drewN n := Any.stringslite_Cut_shaped Tryz.laysM220 s sep w h hs
def Tryz.laysM145_ren : Go.Shelf.Ren := ⟨fun | 145 => 91 | 220 => 125 | 219 => 120 | 217 => 137 | 225 => 138 | 224 => 139 | 267 => 140 | 266 => 147 | 314 => 148 | n => n, fun | 9 => 9 | 4 => 4 | 59 => 111 | 3 => 3 | 5 => 5 | 46 => 96 | 146 => 151 | 51 => 122 | n => n, fun | 1 => 0 | n => n⟩
theorem Tryz.laysM145 : Go.Proofs.LaysM.n145 Tryz.prog Tryz.laysM145_ren := {
  mixed := by kernel_rfl
  f145 := Tryz.func91.trans (congrArg some (by kernel_rfl))
  f217 := Tryz.func137.trans (congrArg some (by kernel_rfl))
  f219 := Tryz.func120.trans (congrArg some (by kernel_rfl))
  f220 := Tryz.func125.trans (congrArg some (by kernel_rfl))
  f224 := Tryz.func139.trans (congrArg some (by kernel_rfl))
  f225 := Tryz.func138.trans (congrArg some (by kernel_rfl))
  f266 := Tryz.func147.trans (congrArg some (by kernel_rfl))
  f267 := Tryz.func140.trans (congrArg some (by kernel_rfl))
  f314 := Tryz.func148.trans (congrArg some (by kernel_rfl))
  t3 := Tryz.underlying3
  a3 := Tryz.isAgg3
  z3 := Tryz.sizeOf3
  v3 := Tryz.zeroValue3
  t4 := Tryz.underlying4
  a4 := Tryz.isAgg4
  z4 := Tryz.sizeOf4
  v4 := Tryz.zeroValue4
  t5 := Tryz.underlying5
  a5 := Tryz.isAgg5
  z5 := Tryz.sizeOf5
  v5 := Tryz.zeroValue5
  t9 := Tryz.underlying9
  a9 := Tryz.isAgg9
  z9 := Tryz.sizeOf9
  v9 := Tryz.zeroValue9
  t46 := Tryz.underlying96
  a46 := Tryz.isAgg96
  z46 := Tryz.sizeOf96
  v46 := Tryz.zeroValue96
  t51 := Tryz.underlying122
  a51 := Tryz.isAgg122
  z51 := Tryz.sizeOf122
  v51 := Tryz.zeroValue122
  t59 := Tryz.underlying111
  a59 := Tryz.isAgg111
  z59 := Tryz.sizeOf111
  v59 := Tryz.zeroValue111
  t146 := Tryz.underlying151
  a146 := Tryz.isAgg151
  z146 := Tryz.sizeOf151
  v146 := Tryz.zeroValue151
  g1 := by kernel_rfl
  i3 := by kernel_rfl
  i4 := by kernel_rfl
  i5 := by kernel_rfl
  i9 := by kernel_rfl
  i46 := by kernel_rfl
  i51 := by kernel_rfl
  i59 := by kernel_rfl
  i146 := by kernel_rfl
  m1 := by kernel_rfl
  s1_3 := fun w h => Go.Proofs.cell_of_shapedOpen_int (zero := #[.int .i64 0]) (t := 3) h (of_decide_eq_true (by kernel_rfl)) (by kernel_rfl) rfl (by kernel_rfl) (by kernel_rfl) Tryz.underlying3 }
open Go.RowKit Go.Lib in
theorem Tryz.strings_Cut_shaped (s sep : ByteArray) (w : World) (h : w.ShapedOpen Tryz.prog) (hs : s.size < 4294967281) :
    Calls Tryz.prog 91 #[.string s, .string sep] w fun e w' => e = .returned (.tuple #[.string ⟨(Lib.cut s.data.toList sep.data.toList).1.toArray⟩, .string ⟨(Lib.cut s.data.toList sep.data.toList).2.1.toArray⟩, .bool (Lib.cut s.data.toList sep.data.toList).2.2]) ∧ ∃ n, w' = w.drewN n := Any.strings_Cut_shaped Tryz.laysM145 s sep w h hs
def Tryz.lays190_ren : Go.Shelf.Ren := ⟨fun | 190 => 50 | 125 => 71 | 258 => 79 | 128 => 104 | 129 => 105 | 302 => 111 | 303 => 112 | 304 => 113 | 305 => 114 | 306 => 115 | 307 => 116 | 308 => 117 | 309 => 118 | 310 => 119 | 333 => 134 | 329 => 128 | 330 => 129 | 334 => 135 | 335 => 136 | 336 => 72 | 344 => 146 | n => n, fun | 31 => 31 | 9 => 9 | 3 => 3 | 46 => 96 | 0 => 0 | 51 => 122 | 53 => 124 | 4 => 4 | 183 => 116 | 182 => 115 | 131 => 83 | 5 => 5 | 218 => 134 | 222 => 138 | 228 => 146 | 229 => 147 | n => n, fun | n => n⟩
theorem Tryz.lays190 : Go.Proofs.Lays.n190 Tryz.prog Tryz.lays190_ren := {
  mixed := by kernel_rfl
  f125 := Tryz.func71.trans (congrArg some (by kernel_rfl))
  f128 := Tryz.func104.trans (congrArg some (by kernel_rfl))
  f129 := Tryz.func105.trans (congrArg some (by kernel_rfl))
  f190 := Tryz.func50.trans (congrArg some (by kernel_rfl))
  f258 := Tryz.func79.trans (congrArg some (by kernel_rfl))
  f302 := Tryz.func111.trans (congrArg some (by kernel_rfl))
  f303 := Tryz.func112.trans (congrArg some (by kernel_rfl))
  f304 := Tryz.func113.trans (congrArg some (by kernel_rfl))
  f305 := Tryz.func114.trans (congrArg some (by kernel_rfl))
  f306 := Tryz.func115.trans (congrArg some (by kernel_rfl))
  f307 := Tryz.func116.trans (congrArg some (by kernel_rfl))
  f308 := Tryz.func117.trans (congrArg some (by kernel_rfl))
  f309 := Tryz.func118.trans (congrArg some (by kernel_rfl))
  f310 := Tryz.func119.trans (congrArg some (by kernel_rfl))
  f329 := Tryz.func128.trans (congrArg some (by kernel_rfl))
  f330 := Tryz.func129.trans (congrArg some (by kernel_rfl))
  f333 := Tryz.func134.trans (congrArg some (by kernel_rfl))
  f334 := Tryz.func135.trans (congrArg some (by kernel_rfl))
  f335 := Tryz.func136.trans (congrArg some (by kernel_rfl))
  f336 := Tryz.func72.trans (congrArg some (by kernel_rfl))
  f344 := Tryz.func146.trans (congrArg some (by kernel_rfl))
  t0 := Tryz.underlying0
  a0 := Tryz.isAgg0
  z0 := Tryz.sizeOf0
  v0 := Tryz.zeroValue0
  t3 := Tryz.underlying3
  a3 := Tryz.isAgg3
  z3 := Tryz.sizeOf3
  v3 := Tryz.zeroValue3
  t4 := Tryz.underlying4
  a4 := Tryz.isAgg4
  z4 := Tryz.sizeOf4
  v4 := Tryz.zeroValue4
  t5 := Tryz.underlying5
  a5 := Tryz.isAgg5
  z5 := Tryz.sizeOf5
  v5 := Tryz.zeroValue5
  t9 := Tryz.underlying9
  a9 := Tryz.isAgg9
  z9 := Tryz.sizeOf9
  v9 := Tryz.zeroValue9
  t31 := Tryz.underlying31
  a31 := Tryz.isAgg31
  z31 := Tryz.sizeOf31
  v31 := Tryz.zeroValue31
  t46 := Tryz.underlying96
  a46 := Tryz.isAgg96
  z46 := Tryz.sizeOf96
  v46 := Tryz.zeroValue96
  t51 := Tryz.underlying122
  a51 := Tryz.isAgg122
  z51 := Tryz.sizeOf122
  v51 := Tryz.zeroValue122
  t53 := Tryz.underlying124
  a53 := Tryz.isAgg124
  z53 := Tryz.sizeOf124
  v53 := Tryz.zeroValue124
  t131 := Tryz.underlying83
  a131 := Tryz.isAgg83
  z131 := Tryz.sizeOf83
  v131 := Tryz.zeroValue83
  t182 := Tryz.underlying115
  a182 := Tryz.isAgg115
  z182 := Tryz.sizeOf115
  v182 := Tryz.zeroValue115
  t183 := Tryz.underlying116
  a183 := Tryz.isAgg116
  z183 := Tryz.sizeOf116
  v183 := Tryz.zeroValue116
  t218 := Tryz.underlying134
  a218 := Tryz.isAgg134
  z218 := Tryz.sizeOf134
  v218 := Tryz.zeroValue134
  t222 := Tryz.underlying138
  a222 := Tryz.isAgg138
  z222 := Tryz.sizeOf138
  v222 := Tryz.zeroValue138
  t228 := Tryz.underlying146
  a228 := Tryz.isAgg146
  z228 := Tryz.sizeOf146
  v228 := Tryz.zeroValue146
  t229 := Tryz.underlying147
  a229 := Tryz.isAgg147
  z229 := Tryz.sizeOf147
  v229 := Tryz.zeroValue147 }
open Go.Sort Go.RowKit in
theorem Tryz.slices_Sort_string (blk off cap : Nat) (ss : List (List UInt8)) (w : World) (hH : Holds encStr w blk off ss.toArray) (hblk : blk < w.heap.size) (hsz : ss.length < 4611686018427387904) :
    Calls Tryz.prog 50 #[.slice (some ⟨blk, off, none⟩) ss.length cap] w fun e w' =>
      e = .returned (.tuple #[]) ∧ ∃ n os, w' = grow (putRow encStr (Sort.ahead w n) blk off (ss.mergeSort fun x y => decide (x ≤ y)).toArray) os := Any.slices_Sort_string Tryz.lays190 blk off cap ss w hH hblk hsz
def Tryz.lays206_ren : Go.Shelf.Ren := ⟨fun | 206 => 110 | n => n, fun | 9 => 9 | 4 => 4 | 3 => 3 | n => n, fun | n => n⟩
theorem Tryz.lays206 : Go.Proofs.Lays.n206 Tryz.prog Tryz.lays206_ren := {
  mixed := by kernel_rfl
  f206 := Tryz.func110.trans (congrArg some (by kernel_rfl))
  t3 := Tryz.underlying3
  a3 := Tryz.isAgg3
  z3 := Tryz.sizeOf3
  v3 := Tryz.zeroValue3
  t4 := Tryz.underlying4
  a4 := Tryz.isAgg4
  z4 := Tryz.sizeOf4
  v4 := Tryz.zeroValue4
  t9 := Tryz.underlying9
  a9 := Tryz.isAgg9
  z9 := Tryz.sizeOf9
  v9 := Tryz.zeroValue9 }
open Go.RowKit Go.Lib in
/-- internal/stringslite.HasPrefix (what strings.HasPrefix calls). (LAID: no walk: one application.) -/
theorem Tryz.stringslite_HasPrefix (s p : ByteArray) (w : World) :
    Calls Tryz.prog 110 #[.string s, .string p] w fun e w' => e = .returned (.bool (Lib.hasPrefix s.data.toList p.data.toList)) ∧ w' = w := Any.stringslite_HasPrefix Tryz.lays206 s p w
def Tryz.lays99_ren : Go.Shelf.Ren := ⟨fun | 99 => 77 | 206 => 110 | n => n, fun | 9 => 9 | 4 => 4 | 3 => 3 | n => n, fun | n => n⟩
theorem Tryz.lays99 : Go.Proofs.Lays.n99 Tryz.prog Tryz.lays99_ren := {
  mixed := by kernel_rfl
  f99 := Tryz.func77.trans (congrArg some (by kernel_rfl))
  f206 := Tryz.func110.trans (congrArg some (by kernel_rfl))
  t3 := Tryz.underlying3
  a3 := Tryz.isAgg3
  z3 := Tryz.sizeOf3
  v3 := Tryz.zeroValue3
  t4 := Tryz.underlying4
  a4 := Tryz.isAgg4
  z4 := Tryz.sizeOf4
  v4 := Tryz.zeroValue4
  t9 := Tryz.underlying9
  a9 := Tryz.isAgg9
  z9 := Tryz.sizeOf9
  v9 := Tryz.zeroValue9 }
open Go.RowKit Go.Lib in
/-- strings.HasPrefix: "HasPrefix reports whether the string s begins with prefix.": IT RETURNS 'Lib.hasPrefix s prefix'; the world is as it was. (LAID: no walk: one application.) -/
theorem Tryz.strings_HasPrefix (s p : ByteArray) (w : World) :
    Calls Tryz.prog 77 #[.string s, .string p] w fun e w' => e = .returned (.bool (Lib.hasPrefix s.data.toList p.data.toList)) ∧ w' = w := Any.strings_HasPrefix Tryz.lays99 s p w
def Tryz.lays197_ren : Go.Shelf.Ren := ⟨fun | 197 => 123 | 260 => 142 | n => n, fun | 9 => 9 | 21 => 21 | 3 => 3 | 4 => 4 | 5 => 5 | 105 => 130 | 119 => 153 | 0 => 0 | 46 => 96 | 139 => 156 | 138 => 155 | n => n, fun | 3 => 1 | 4 => 2 | n => n⟩
theorem Tryz.lays197 : Go.Proofs.Lays.n197 Tryz.prog Tryz.lays197_ren := {
  mixed := by kernel_rfl
  f197 := Tryz.func123.trans (congrArg some (by kernel_rfl))
  f260 := Tryz.func142.trans (congrArg some (by kernel_rfl))
  t0 := Tryz.underlying0
  a0 := Tryz.isAgg0
  z0 := Tryz.sizeOf0
  v0 := Tryz.zeroValue0
  t3 := Tryz.underlying3
  a3 := Tryz.isAgg3
  z3 := Tryz.sizeOf3
  v3 := Tryz.zeroValue3
  t4 := Tryz.underlying4
  a4 := Tryz.isAgg4
  z4 := Tryz.sizeOf4
  v4 := Tryz.zeroValue4
  t5 := Tryz.underlying5
  a5 := Tryz.isAgg5
  z5 := Tryz.sizeOf5
  v5 := Tryz.zeroValue5
  t9 := Tryz.underlying9
  a9 := Tryz.isAgg9
  z9 := Tryz.sizeOf9
  v9 := Tryz.zeroValue9
  t21 := Tryz.underlying21
  a21 := Tryz.isAgg21
  z21 := Tryz.sizeOf21
  v21 := Tryz.zeroValue21
  t46 := Tryz.underlying96
  a46 := Tryz.isAgg96
  z46 := Tryz.sizeOf96
  v46 := Tryz.zeroValue96
  t105 := Tryz.underlying130
  a105 := Tryz.isAgg130
  z105 := Tryz.sizeOf130
  v105 := Tryz.zeroValue130
  t119 := Tryz.underlying153
  a119 := Tryz.isAgg153
  z119 := Tryz.sizeOf153
  t138 := Tryz.underlying155
  a138 := Tryz.isAgg155
  z138 := Tryz.sizeOf155
  v138 := Tryz.zeroValue155
  t139 := Tryz.underlying156
  a139 := Tryz.isAgg156
  z139 := Tryz.sizeOf156
  v139 := Tryz.zeroValue156
  g3 := by kernel_rfl
  g4 := by kernel_rfl }
open Go.RowKit Go.Lib in
/-- unicode/utf8.DecodeRuneInString: "DecodeRuneInString is like DecodeRune but its input is a string.": ("DecodeRune unpacks the first UTF-8 encoding in p and returns the rune and its width in bytes."): WHERE s BEGINS WITH AN ASCII BYTE x: (x, 1). (LAID: no walk: one application.) -/
theorem Tryz.utf8_DecodeRuneInString_ascii (s : ByteArray) (x : UInt8) (w : World) (h0 : s.data.toList[0]? = some x) (hx : x.toNat < 128) :
    Calls Tryz.prog 123 #[.string s] w fun e w' => e = .returned (.tuple #[.int .i32 x.toNat, .int .i64 1]) ∧ w' = w := Any.utf8_DecodeRuneInString_ascii Tryz.lays197 s x w h0 hx
def Tryz.lays152_ren : Go.Shelf.Ren := ⟨fun | 152 => 132 | 137 => 144 | 119 => 145 | 224 => 139 | 225 => 138 | 217 => 137 | 266 => 147 | n => n, fun | 9 => 9 | 21 => 21 | 3 => 3 | 4 => 4 | 5 => 5 | 0 => 0 | 46 => 96 | n => n, fun | n => n⟩
theorem Tryz.lays152 : Go.Proofs.Lays.n152 Tryz.prog Tryz.lays152_ren := {
  mixed := by kernel_rfl
  f119 := Tryz.func145.trans (congrArg some (by kernel_rfl))
  f137 := Tryz.func144.trans (congrArg some (by kernel_rfl))
  f152 := Tryz.func132.trans (congrArg some (by kernel_rfl))
  f217 := Tryz.func137.trans (congrArg some (by kernel_rfl))
  f224 := Tryz.func139.trans (congrArg some (by kernel_rfl))
  f225 := Tryz.func138.trans (congrArg some (by kernel_rfl))
  f266 := Tryz.func147.trans (congrArg some (by kernel_rfl))
  t0 := Tryz.underlying0
  a0 := Tryz.isAgg0
  z0 := Tryz.sizeOf0
  v0 := Tryz.zeroValue0
  t3 := Tryz.underlying3
  a3 := Tryz.isAgg3
  z3 := Tryz.sizeOf3
  v3 := Tryz.zeroValue3
  t4 := Tryz.underlying4
  a4 := Tryz.isAgg4
  z4 := Tryz.sizeOf4
  v4 := Tryz.zeroValue4
  t5 := Tryz.underlying5
  a5 := Tryz.isAgg5
  z5 := Tryz.sizeOf5
  v5 := Tryz.zeroValue5
  t9 := Tryz.underlying9
  a9 := Tryz.isAgg9
  z9 := Tryz.sizeOf9
  v9 := Tryz.zeroValue9
  t21 := Tryz.underlying21
  a21 := Tryz.isAgg21
  z21 := Tryz.sizeOf21
  v21 := Tryz.zeroValue21
  t46 := Tryz.underlying96
  a46 := Tryz.isAgg96
  z46 := Tryz.sizeOf96
  v46 := Tryz.zeroValue96 }
open Go.RowKit Go.Lib in
theorem Tryz.strings_IndexRune_ascii (s : ByteArray) (r : Int) (w : World) (h0 : 0 ≤ r) (h1 : r < 128) :
    Calls Tryz.prog 132 #[.string s, .int .i32 r] w fun e w' => e = .returned (.int .i64 (Lib.indexByte s.data.toList r.toNat.toUInt8)) ∧ w' = w := Any.strings_IndexRune_ascii Tryz.lays152 s r w h0 h1
def Tryz.lays151_ren : Go.Shelf.Ren := ⟨fun | 151 => 124 | 152 => 132 | 137 => 144 | 119 => 145 | 224 => 139 | 225 => 138 | 217 => 137 | 266 => 147 | n => n, fun | 9 => 9 | 21 => 21 | 4 => 4 | 3 => 3 | 5 => 5 | 0 => 0 | 46 => 96 | n => n, fun | n => n⟩
theorem Tryz.lays151 : Go.Proofs.Lays.n151 Tryz.prog Tryz.lays151_ren := {
  mixed := by kernel_rfl
  f119 := Tryz.func145.trans (congrArg some (by kernel_rfl))
  f137 := Tryz.func144.trans (congrArg some (by kernel_rfl))
  f151 := Tryz.func124.trans (congrArg some (by kernel_rfl))
  f152 := Tryz.func132.trans (congrArg some (by kernel_rfl))
  f217 := Tryz.func137.trans (congrArg some (by kernel_rfl))
  f224 := Tryz.func139.trans (congrArg some (by kernel_rfl))
  f225 := Tryz.func138.trans (congrArg some (by kernel_rfl))
  f266 := Tryz.func147.trans (congrArg some (by kernel_rfl))
  t0 := Tryz.underlying0
  a0 := Tryz.isAgg0
  z0 := Tryz.sizeOf0
  v0 := Tryz.zeroValue0
  t3 := Tryz.underlying3
  a3 := Tryz.isAgg3
  z3 := Tryz.sizeOf3
  v3 := Tryz.zeroValue3
  t4 := Tryz.underlying4
  a4 := Tryz.isAgg4
  z4 := Tryz.sizeOf4
  v4 := Tryz.zeroValue4
  t5 := Tryz.underlying5
  a5 := Tryz.isAgg5
  z5 := Tryz.sizeOf5
  v5 := Tryz.zeroValue5
  t9 := Tryz.underlying9
  a9 := Tryz.isAgg9
  z9 := Tryz.sizeOf9
  v9 := Tryz.zeroValue9
  t21 := Tryz.underlying21
  a21 := Tryz.isAgg21
  z21 := Tryz.sizeOf21
  v21 := Tryz.zeroValue21
  t46 := Tryz.underlying96
  a46 := Tryz.isAgg96
  z46 := Tryz.sizeOf96
  v46 := Tryz.zeroValue96 }
open Go.RowKit Go.Lib in
theorem Tryz.strings_ContainsRune_ascii (s : ByteArray) (r : Int) (w : World) (h0 : 0 ≤ r) (h1 : r < 128) :
    Calls Tryz.prog 124 #[.string s, .int .i32 r] w fun e w' => e = .returned (.bool (decide (0 ≤ Lib.indexByte s.data.toList r.toNat.toUInt8))) ∧ w' = w := Any.strings_ContainsRune_ascii Tryz.lays151 s r w h0 h1
def Tryz.lays226_ren : Go.Shelf.Ren := ⟨fun | 226 => 133 | n => n, fun | 3 => 3 | 4 => 4 | n => n, fun | n => n⟩
theorem Tryz.lays226 : Go.Proofs.Lays.n226 Tryz.prog Tryz.lays226_ren := {
  mixed := by kernel_rfl
  f226 := Tryz.func133.trans (congrArg some (by kernel_rfl))
  t3 := Tryz.underlying3
  a3 := Tryz.isAgg3
  z3 := Tryz.sizeOf3
  v3 := Tryz.zeroValue3
  t4 := Tryz.underlying4
  a4 := Tryz.isAgg4
  z4 := Tryz.sizeOf4
  v4 := Tryz.zeroValue4 }
open Go.RowKit Go.Lib in
theorem Tryz.strings_shouldUseASCIISet (n : Int) (w : World) :
    Calls Tryz.prog 133 #[.int .i64 n] w fun e w' => e = .returned (.bool (decide (8 < n))) ∧ w' = w := Any.strings_shouldUseASCIISet Tryz.lays226 n w
def Tryz.lays153_ren : Go.Shelf.Ren := ⟨fun | 153 => 109 | 152 => 132 | 226 => 133 | 227 => 88 | 228 => 122 | 137 => 144 | 119 => 145 | 224 => 139 | 225 => 138 | 217 => 137 | 266 => 147 | n => n, fun | 9 => 9 | 3 => 3 | 4 => 4 | 5 => 5 | 21 => 21 | 117 => 107 | 116 => 106 | 0 => 0 | 46 => 96 | 124 => 110 | n => n, fun | n => n⟩
theorem Tryz.lays153 : Go.Proofs.Lays.n153 Tryz.prog Tryz.lays153_ren := {
  mixed := by kernel_rfl
  f119 := Tryz.func145.trans (congrArg some (by kernel_rfl))
  f137 := Tryz.func144.trans (congrArg some (by kernel_rfl))
  f152 := Tryz.func132.trans (congrArg some (by kernel_rfl))
  f153 := Tryz.func109.trans (congrArg some (by kernel_rfl))
  f217 := Tryz.func137.trans (congrArg some (by kernel_rfl))
  f224 := Tryz.func139.trans (congrArg some (by kernel_rfl))
  f225 := Tryz.func138.trans (congrArg some (by kernel_rfl))
  f226 := Tryz.func133.trans (congrArg some (by kernel_rfl))
  f227 := Tryz.func88.trans (congrArg some (by kernel_rfl))
  f228 := Tryz.func122.trans (congrArg some (by kernel_rfl))
  f266 := Tryz.func147.trans (congrArg some (by kernel_rfl))
  t0 := Tryz.underlying0
  a0 := Tryz.isAgg0
  z0 := Tryz.sizeOf0
  v0 := Tryz.zeroValue0
  t3 := Tryz.underlying3
  a3 := Tryz.isAgg3
  z3 := Tryz.sizeOf3
  v3 := Tryz.zeroValue3
  t4 := Tryz.underlying4
  a4 := Tryz.isAgg4
  z4 := Tryz.sizeOf4
  v4 := Tryz.zeroValue4
  t5 := Tryz.underlying5
  a5 := Tryz.isAgg5
  z5 := Tryz.sizeOf5
  v5 := Tryz.zeroValue5
  t9 := Tryz.underlying9
  a9 := Tryz.isAgg9
  z9 := Tryz.sizeOf9
  v9 := Tryz.zeroValue9
  t21 := Tryz.underlying21
  a21 := Tryz.isAgg21
  z21 := Tryz.sizeOf21
  v21 := Tryz.zeroValue21
  t46 := Tryz.underlying96
  a46 := Tryz.isAgg96
  z46 := Tryz.sizeOf96
  v46 := Tryz.zeroValue96
  t116 := Tryz.underlying106
  a116 := Tryz.isAgg106
  z116 := Tryz.sizeOf106
  t117 := Tryz.underlying107
  a117 := Tryz.isAgg107
  z117 := Tryz.sizeOf107
  v117 := Tryz.zeroValue107
  t124 := Tryz.underlying110
  a124 := Tryz.isAgg110
  z124 := Tryz.sizeOf110
  v124 := Tryz.zeroValue110 }
open Go.RowKit Go.Lib in
/-- chars is empty. (LAID: no walk: one application.) -/
theorem Tryz.strings_IndexAny_none (s chars : ByteArray) (w : World) (h0 : chars.size = 0) :
    Calls Tryz.prog 109 #[.string s, .string chars] w fun e w' => e = .returned (.int .i64 (Lib.indexAny s.data.toList chars.data.toList)) ∧ w' = w := Any.strings_IndexAny_none Tryz.lays153 s chars w h0
open Go.RowKit Go.Lib in
/-- chars is one ASCII byte. (LAID: no walk: one application.) -/
theorem Tryz.strings_IndexAny_one (s chars : ByteArray) (w : World) (h1 : chars.size = 1) (hascii : ∀ (j : Nat) b, chars.data.toList[j]? = some b → b.toNat < 128) :
    Calls Tryz.prog 109 #[.string s, .string chars] w fun e w' => e = .returned (.int .i64 (Lib.indexAny s.data.toList chars.data.toList)) ∧ w' = w := Any.strings_IndexAny_one Tryz.lays153 s chars w h1 hascii
open Go.RowKit Go.Lib in
/-- s of at most 8 bytes; chars of two or more: 'for i, c := range s { if IndexRune(chars, c) >= 0 { return i } }'. One block more: the model's iterator over s. (LAID: no walk: one application.) -/
theorem Tryz.strings_IndexAny_short (s chars : ByteArray) (w : World) (h2 : 2 ≤ chars.size) (h8 : s.size ≤ 8) (hascii : ∀ (j : Nat) b, s.data.toList[j]? = some b → b.toNat < 128) :
    Calls Tryz.prog 109 #[.string s, .string chars] w fun e w' => e = .returned (.int .i64 (Lib.indexAny s.data.toList chars.data.toList)) ∧ ∃ pos, w' = w.iter s pos := Any.strings_IndexAny_short Tryz.lays153 s chars w h2 h8 hascii
def Tryz.lays227_ren : Go.Shelf.Ren := ⟨fun | 227 => 88 | n => n, fun | 9 => 9 | 116 => 106 | 4 => 4 | 0 => 0 | 3 => 3 | 5 => 5 | n => n, fun | n => n⟩
theorem Tryz.lays227 : Go.Proofs.Lays.n227 Tryz.prog Tryz.lays227_ren := {
  mixed := by kernel_rfl
  f227 := Tryz.func88.trans (congrArg some (by kernel_rfl))
  t0 := Tryz.underlying0
  a0 := Tryz.isAgg0
  z0 := Tryz.sizeOf0
  v0 := Tryz.zeroValue0
  t3 := Tryz.underlying3
  a3 := Tryz.isAgg3
  z3 := Tryz.sizeOf3
  v3 := Tryz.zeroValue3
  t4 := Tryz.underlying4
  a4 := Tryz.isAgg4
  z4 := Tryz.sizeOf4
  v4 := Tryz.zeroValue4
  t5 := Tryz.underlying5
  a5 := Tryz.isAgg5
  z5 := Tryz.sizeOf5
  v5 := Tryz.zeroValue5
  t9 := Tryz.underlying9
  a9 := Tryz.isAgg9
  z9 := Tryz.sizeOf9
  v9 := Tryz.zeroValue9
  t116 := Tryz.underlying106
  a116 := Tryz.isAgg106
  z116 := Tryz.sizeOf106 }
open Go.RowKit Go.Lib in
theorem Tryz.strings_makeASCIISet (hv116 : ∀ w, (zeroValue 106).run Tryz.prog w = .ok (.agg (Array.replicate 256 (.bool false))) w) (chars : ByteArray) (w : World) (hs : chars.size < 4294967281) (hascii : ∀ (j : Nat) b, chars.data.toList[j]? = some b → b.toNat < 128) :
    Calls Tryz.prog 88 #[.string chars] w fun e w' => e = .returned (.tuple #[.agg (Lib.setCells chars.data.toList), .bool true]) ∧ w' = w.alloc (.cells (Lib.setCells chars.data.toList) 106) := Any.strings_makeASCIISet Tryz.lays227 hv116 (by kernel_rfl) chars w hs hascii
def Tryz.lays228_ren : Go.Shelf.Ren := ⟨fun | 228 => 122 | n => n, fun | 124 => 110 | 5 => 5 | 4 => 4 | 0 => 0 | 116 => 106 | n => n, fun | n => n⟩
theorem Tryz.lays228 : Go.Proofs.Lays.n228 Tryz.prog Tryz.lays228_ren := {
  mixed := by kernel_rfl
  f228 := Tryz.func122.trans (congrArg some (by kernel_rfl))
  t0 := Tryz.underlying0
  a0 := Tryz.isAgg0
  z0 := Tryz.sizeOf0
  v0 := Tryz.zeroValue0
  t4 := Tryz.underlying4
  a4 := Tryz.isAgg4
  z4 := Tryz.sizeOf4
  v4 := Tryz.zeroValue4
  t5 := Tryz.underlying5
  a5 := Tryz.isAgg5
  z5 := Tryz.sizeOf5
  v5 := Tryz.zeroValue5
  t116 := Tryz.underlying106
  a116 := Tryz.isAgg106
  z116 := Tryz.sizeOf106
  t124 := Tryz.underlying110
  a124 := Tryz.isAgg110
  z124 := Tryz.sizeOf110
  v124 := Tryz.zeroValue110 }
open Go.RowKit Go.Lib in
/-- '(as *asciiSet) contains(c)': 'as[c]': the set lies at block b, whole. (LAID: no walk: one application.) -/
theorem Tryz.asciiSet_contains (b : Nat) (x : UInt8) (v : Bool) (w : World) (hc : w.cell? ⟨b, x.toNat, none⟩ = some (.bool v)) :
    Calls Tryz.prog 122 #[.pointer (some ⟨b, 0, none⟩), .int .u8 x.toNat] w fun e w' => e = .returned (.bool v) ∧ w' = w := Any.asciiSet_contains Tryz.lays228 b x v w hc
open Go.RowKit Go.Lib in
theorem Tryz.strings_IndexAny_long (hv116 : ∀ w, (zeroValue 106).run Tryz.prog w = .ok (.agg (Array.replicate 256 (.bool false))) w) (s chars : ByteArray) (w : World) (h2 : 2 ≤ chars.size) (h8 : 8 < s.size) (hs : s.size < 4294967281) (hcs : chars.size < 4294967281) (hascii : ∀ (j : Nat) b, chars.data.toList[j]? = some b → b.toNat < 128) :
    Calls Tryz.prog 109 #[.string s, .string chars] w fun e w' => e = .returned (.int .i64 (Lib.indexAny s.data.toList chars.data.toList)) ∧ w' = ((w.alloc (.cells (Lib.setCells chars.data.toList) 106)).alloc (.cells (Lib.setCells chars.data.toList) 106)) := Any.strings_IndexAny_long Tryz.lays153 hv116 (by kernel_rfl) s chars w h2 h8 hs hcs hascii
open Go.RowKit Go.Lib in
/-- strings.IndexAny ON ASCII BYTES: the four roads under one statement. (LAID: no walk: one application.) -/
theorem Tryz.strings_IndexAny (hv116 : ∀ w, (zeroValue 106).run Tryz.prog w = .ok (.agg (Array.replicate 256 (.bool false))) w) (s chars : ByteArray) (w : World) (hs : s.size < 4294967281) (hcs : chars.size < 4294967281) (has : ∀ (j : Nat) b, s.data.toList[j]? = some b → b.toNat < 128) (hac : ∀ (j : Nat) b, chars.data.toList[j]? = some b → b.toNat < 128) :
    Calls Tryz.prog 109 #[.string s, .string chars] w fun e w' => e = .returned (.int .i64 (Lib.indexAny s.data.toList chars.data.toList)) ∧ Below w.heap.size w w' := Any.strings_IndexAny Tryz.lays153 hv116 (by kernel_rfl) s chars w hs hcs has hac
def Tryz.lays150_ren : Go.Shelf.Ren := ⟨fun | 150 => 76 | 153 => 109 | 152 => 132 | 226 => 133 | 227 => 88 | 228 => 122 | 137 => 144 | 119 => 145 | 224 => 139 | 225 => 138 | 217 => 137 | 266 => 147 | n => n, fun | 9 => 9 | 4 => 4 | 3 => 3 | 5 => 5 | 21 => 21 | 117 => 107 | 116 => 106 | 0 => 0 | 46 => 96 | 124 => 110 | n => n, fun | n => n⟩
theorem Tryz.lays150 : Go.Proofs.Lays.n150 Tryz.prog Tryz.lays150_ren := {
  mixed := by kernel_rfl
  f119 := Tryz.func145.trans (congrArg some (by kernel_rfl))
  f137 := Tryz.func144.trans (congrArg some (by kernel_rfl))
  f150 := Tryz.func76.trans (congrArg some (by kernel_rfl))
  f152 := Tryz.func132.trans (congrArg some (by kernel_rfl))
  f153 := Tryz.func109.trans (congrArg some (by kernel_rfl))
  f217 := Tryz.func137.trans (congrArg some (by kernel_rfl))
  f224 := Tryz.func139.trans (congrArg some (by kernel_rfl))
  f225 := Tryz.func138.trans (congrArg some (by kernel_rfl))
  f226 := Tryz.func133.trans (congrArg some (by kernel_rfl))
  f227 := Tryz.func88.trans (congrArg some (by kernel_rfl))
  f228 := Tryz.func122.trans (congrArg some (by kernel_rfl))
  f266 := Tryz.func147.trans (congrArg some (by kernel_rfl))
  t0 := Tryz.underlying0
  a0 := Tryz.isAgg0
  z0 := Tryz.sizeOf0
  v0 := Tryz.zeroValue0
  t3 := Tryz.underlying3
  a3 := Tryz.isAgg3
  z3 := Tryz.sizeOf3
  v3 := Tryz.zeroValue3
  t4 := Tryz.underlying4
  a4 := Tryz.isAgg4
  z4 := Tryz.sizeOf4
  v4 := Tryz.zeroValue4
  t5 := Tryz.underlying5
  a5 := Tryz.isAgg5
  z5 := Tryz.sizeOf5
  v5 := Tryz.zeroValue5
  t9 := Tryz.underlying9
  a9 := Tryz.isAgg9
  z9 := Tryz.sizeOf9
  v9 := Tryz.zeroValue9
  t21 := Tryz.underlying21
  a21 := Tryz.isAgg21
  z21 := Tryz.sizeOf21
  v21 := Tryz.zeroValue21
  t46 := Tryz.underlying96
  a46 := Tryz.isAgg96
  z46 := Tryz.sizeOf96
  v46 := Tryz.zeroValue96
  t116 := Tryz.underlying106
  a116 := Tryz.isAgg106
  z116 := Tryz.sizeOf106
  t117 := Tryz.underlying107
  a117 := Tryz.isAgg107
  z117 := Tryz.sizeOf107
  v117 := Tryz.zeroValue107
  t124 := Tryz.underlying110
  a124 := Tryz.isAgg110
  z124 := Tryz.sizeOf110
  v124 := Tryz.zeroValue110 }
open Go.RowKit Go.Lib in
/-- strings.ContainsAny ON ASCII BYTES. (LAID: no walk: one application.) -/
theorem Tryz.strings_ContainsAny (hv116 : ∀ w, (zeroValue 106).run Tryz.prog w = .ok (.agg (Array.replicate 256 (.bool false))) w) (s chars : ByteArray) (w : World) (hs : s.size < 4294967281) (hcs : chars.size < 4294967281) (has : ∀ (j : Nat) b, s.data.toList[j]? = some b → b.toNat < 128) (hac : ∀ (j : Nat) b, chars.data.toList[j]? = some b → b.toNat < 128) :
    Calls Tryz.prog 76 #[.string s, .string chars] w fun e w' => e = .returned (.bool (Lib.containsAny s.data.toList chars.data.toList)) ∧ Below w.heap.size w w' := Any.strings_ContainsAny Tryz.lays150 hv116 (by kernel_rfl) s chars w hs hcs has hac
open Go.RowKit Go.Lib in
theorem Tryz.strings_IndexAny_laid (s chars : ByteArray) (w : World) (hs : s.size < 4294967281) (hcs : chars.size < 4294967281) (has : ∀ (j : Nat) b, s.data.toList[j]? = some b → b.toNat < 128) (hac : ∀ (j : Nat) b, chars.data.toList[j]? = some b → b.toNat < 128) :
    Calls Tryz.prog 109 #[.string s, .string chars] w fun e w' => e = .returned (.int .i64 (Lib.indexAny s.data.toList chars.data.toList)) ∧ Below w.heap.size w w' := Any.strings_IndexAny_laid Tryz.lays153 (by kernel_rfl) s chars w hs hcs has hac
open Go.RowKit Go.Lib in
theorem Tryz.strings_ContainsAny_laid (s chars : ByteArray) (w : World) (hs : s.size < 4294967281) (hcs : chars.size < 4294967281) (has : ∀ (j : Nat) b, s.data.toList[j]? = some b → b.toNat < 128) (hac : ∀ (j : Nat) b, chars.data.toList[j]? = some b → b.toNat < 128) :
    Calls Tryz.prog 76 #[.string s, .string chars] w fun e w' => e = .returned (.bool (Lib.containsAny s.data.toList chars.data.toList)) ∧ Below w.heap.size w w' := Any.strings_ContainsAny_laid Tryz.lays150 (by kernel_rfl) s chars w hs hcs has hac
def Tryz.lays260_ren : Go.Shelf.Ren := ⟨fun | 260 => 142 | n => n, fun | 9 => 9 | 21 => 21 | 3 => 3 | 4 => 4 | 5 => 5 | 119 => 153 | 0 => 0 | 46 => 96 | 139 => 156 | 138 => 155 | n => n, fun | 3 => 1 | 4 => 2 | n => n⟩
theorem Tryz.lays260 : Go.Proofs.Lays.n260 Tryz.prog Tryz.lays260_ren := {
  mixed := by kernel_rfl
  f260 := Tryz.func142.trans (congrArg some (by kernel_rfl))
  t0 := Tryz.underlying0
  a0 := Tryz.isAgg0
  z0 := Tryz.sizeOf0
  v0 := Tryz.zeroValue0
  t3 := Tryz.underlying3
  a3 := Tryz.isAgg3
  z3 := Tryz.sizeOf3
  v3 := Tryz.zeroValue3
  t4 := Tryz.underlying4
  a4 := Tryz.isAgg4
  z4 := Tryz.sizeOf4
  v4 := Tryz.zeroValue4
  t5 := Tryz.underlying5
  a5 := Tryz.isAgg5
  z5 := Tryz.sizeOf5
  v5 := Tryz.zeroValue5
  t9 := Tryz.underlying9
  a9 := Tryz.isAgg9
  z9 := Tryz.sizeOf9
  v9 := Tryz.zeroValue9
  t21 := Tryz.underlying21
  a21 := Tryz.isAgg21
  z21 := Tryz.sizeOf21
  v21 := Tryz.zeroValue21
  t46 := Tryz.underlying96
  a46 := Tryz.isAgg96
  z46 := Tryz.sizeOf96
  v46 := Tryz.zeroValue96
  t119 := Tryz.underlying153
  a119 := Tryz.isAgg153
  z119 := Tryz.sizeOf153
  t138 := Tryz.underlying155
  a138 := Tryz.isAgg155
  z138 := Tryz.sizeOf155
  v138 := Tryz.zeroValue155
  t139 := Tryz.underlying156
  a139 := Tryz.isAgg156
  z139 := Tryz.sizeOf156
  v139 := Tryz.zeroValue156
  g3 := by kernel_rfl
  g4 := by kernel_rfl }
open Go.RowKit Go.Lib in
theorem Tryz.utf8_decodeRuneInStringSlow (s : ByteArray) (w : World) (hT : Lib.Utf8Tabs 1 2 w) :
    Calls Tryz.prog 142 #[.string s] w fun e w' => e = .returned (.tuple #[.int .i32 (Lib.decodeGo s).1, .int .i64 (Lib.decodeGo s).2]) ∧ Below w.heap.size w w' := Any.utf8_decodeRuneInStringSlow Tryz.lays260 s w hT
open Go.RowKit Go.Lib in
/-- **unicode/utf8.DecodeRuneInString AT EVERY STRING.** (LAID: no walk: one application.) -/
theorem Tryz.utf8_DecodeRuneInString (s : ByteArray) (w : World) (hT : Lib.Utf8Tabs 1 2 w) :
    Calls Tryz.prog 123 #[.string s] w fun e w' => e = .returned (.tuple #[.int .i32 (Lib.decodeGo s).1, .int .i64 (Lib.decodeGo s).2]) ∧ Below w.heap.size w w' := Any.utf8_DecodeRuneInString Tryz.lays197 s w hT
def Tryz.lays109_ren : Go.Shelf.Ren := ⟨fun | 109 => 126 | n => n, fun | 31 => 31 | 9 => 9 | 3 => 3 | 0 => 0 | 4 => 4 | n => n, fun | n => n⟩
theorem Tryz.lays109 : Go.Proofs.Lays.n109 Tryz.prog Tryz.lays109_ren := {
  mixed := by kernel_rfl
  f109 := Tryz.func126.trans (congrArg some (by kernel_rfl))
  t0 := Tryz.underlying0
  a0 := Tryz.isAgg0
  z0 := Tryz.sizeOf0
  v0 := Tryz.zeroValue0
  t3 := Tryz.underlying3
  a3 := Tryz.isAgg3
  z3 := Tryz.sizeOf3
  v3 := Tryz.zeroValue3
  t4 := Tryz.underlying4
  a4 := Tryz.isAgg4
  z4 := Tryz.sizeOf4
  v4 := Tryz.zeroValue4
  t9 := Tryz.underlying9
  a9 := Tryz.isAgg9
  z9 := Tryz.sizeOf9
  v9 := Tryz.zeroValue9
  t31 := Tryz.underlying31
  a31 := Tryz.isAgg31
  z31 := Tryz.sizeOf31
  v31 := Tryz.zeroValue31 }
open Go.Lib in
/-- slices.Index at []string: "Index returns the index of the first occurrence of v in s, or -1 if not present.": IT RETURNS 'Lib.idxOfS (the elements) v'; the world is as it was. 'zs': what the cells behind the slice's address hold (its spare capacity too, if you have it); 'zs.take n': its elements. (LAID: no walk: one application.) -/
theorem Tryz.slices_Index_string (b off n c : Nat) (zs : List ByteArray) (x : ByteArray) (w : World) (hz : n ≤ zs.length) (hbig : n ≤ 9223372036854775807) (hc : ∀ j, j < zs.length → w.cell? ⟨b, off + j, none⟩ = some (.string (zs.getD j ByteArray.empty))) :
    Calls Tryz.prog 126 #[.slice (some ⟨b, off, none⟩) n c, .string x] w fun e w' => e = .returned (.int .i64 (Lib.idxOfS (zs.take n) x)) ∧ w' = w := Any.slices_Index_string Tryz.lays109 b off n c zs x w hz hbig hc
open Go.Lib in
/-- The same at a slice of length 0, a nil one too: no cell is known, none is asked for. (LAID: no walk: one application.) -/
theorem Tryz.slices_Index_string_empty (a : Option Addr) (c : Nat) (x : ByteArray) (w : World) :
    Calls Tryz.prog 126 #[.slice a 0 c, .string x] w fun e w' => e = .returned (.int .i64 (Lib.idxOfS [] x)) ∧ w' = w := Any.slices_Index_string_empty Tryz.lays109 a c x w
def Tryz.lays110_ren : Go.Shelf.Ren := ⟨fun | 110 => 95 | 109 => 126 | n => n, fun | 31 => 31 | 9 => 9 | 4 => 4 | 3 => 3 | 0 => 0 | n => n, fun | n => n⟩
theorem Tryz.lays110 : Go.Proofs.Lays.n110 Tryz.prog Tryz.lays110_ren := {
  mixed := by kernel_rfl
  f109 := Tryz.func126.trans (congrArg some (by kernel_rfl))
  f110 := Tryz.func95.trans (congrArg some (by kernel_rfl))
  t0 := Tryz.underlying0
  a0 := Tryz.isAgg0
  z0 := Tryz.sizeOf0
  v0 := Tryz.zeroValue0
  t3 := Tryz.underlying3
  a3 := Tryz.isAgg3
  z3 := Tryz.sizeOf3
  v3 := Tryz.zeroValue3
  t4 := Tryz.underlying4
  a4 := Tryz.isAgg4
  z4 := Tryz.sizeOf4
  v4 := Tryz.zeroValue4
  t9 := Tryz.underlying9
  a9 := Tryz.isAgg9
  z9 := Tryz.sizeOf9
  v9 := Tryz.zeroValue9
  t31 := Tryz.underlying31
  a31 := Tryz.isAgg31
  z31 := Tryz.sizeOf31
  v31 := Tryz.zeroValue31 }
open Go.Lib in
/-- slices.Contains at []string: "Contains reports whether v is present in s.": IT RETURNS 'Lib.containsS (the elements) v', which is true just where v is among them ('Lib.containsS_iff'); the world is as it was. ITS CALLEE slices.Index IS MET BY ITS OWN CONTRACT OFF THE SHELF (lay that first): no loop is walked here. (LAID: no walk: one application.) -/
theorem Tryz.slices_Contains_string (b off n c : Nat) (zs : List ByteArray) (x : ByteArray) (w : World) (hz : n ≤ zs.length) (hbig : n ≤ 9223372036854775807) (hc : ∀ j, j < zs.length → w.cell? ⟨b, off + j, none⟩ = some (.string (zs.getD j ByteArray.empty))) :
    Calls Tryz.prog 95 #[.slice (some ⟨b, off, none⟩) n c, .string x] w fun e w' => e = .returned (.bool (Lib.containsS (zs.take n) x)) ∧ w' = w := Any.slices_Contains_string Tryz.lays110 b off n c zs x w hz hbig hc
open Go.Lib in
/-- The same at a slice of length 0, a nil one too. (LAID: no walk: one application.) -/
theorem Tryz.slices_Contains_string_empty (a : Option Addr) (c : Nat) (x : ByteArray) (w : World) :
    Calls Tryz.prog 95 #[.slice a 0 c, .string x] w fun e w' => e = .returned (.bool false) ∧ w' = w := Any.slices_Contains_string_empty Tryz.lays110 a c x w
def Tryz.lays194_ren : Go.Shelf.Ren := ⟨fun | 194 => 51 | n => n, fun | 31 => 31 | 9 => 9 | 3 => 3 | 4 => 4 | 0 => 0 | n => n, fun | n => n⟩
theorem Tryz.lays194 : Go.Proofs.Lays.n194 Tryz.prog Tryz.lays194_ren := {
  mixed := by kernel_rfl
  f194 := Tryz.func51.trans (congrArg some (by kernel_rfl))
  t0 := Tryz.underlying0
  a0 := Tryz.isAgg0
  z0 := Tryz.sizeOf0
  v0 := Tryz.zeroValue0
  t3 := Tryz.underlying3
  a3 := Tryz.isAgg3
  z3 := Tryz.sizeOf3
  v3 := Tryz.zeroValue3
  t4 := Tryz.underlying4
  a4 := Tryz.isAgg4
  z4 := Tryz.sizeOf4
  v4 := Tryz.zeroValue4
  t9 := Tryz.underlying9
  a9 := Tryz.isAgg9
  z9 := Tryz.sizeOf9
  v9 := Tryz.zeroValue9
  t31 := Tryz.underlying31
  a31 := Tryz.isAgg31
  z31 := Tryz.sizeOf31
  v31 := Tryz.zeroValue31 }
open Go.RowKit Go.Lib Go.Sort in
/-- slices.Compact at []string, over an array: the library's two loops are walked. (LAID: no walk: one application.) -/
theorem Tryz.slices_Compact_string_arr (blk off cap : Nat) (d : Array (List UInt8)) (w : World) (hH : Holds encStr w blk off d) (hsz : d.size ≤ 9223372036854775807) (hcap : d.size ≤ cap) :
    Calls Tryz.prog 51 #[.slice (some ⟨blk, off, none⟩) d.size cap] w fun e w' => e = .returned (.slice (some ⟨blk, off, none⟩) (compactUpTo d d.size).length cap) ∧ ∃ q, w' = putRow encStr (Sort.ahead w q) blk off (compactUpTo d d.size ++ List.replicate (d.size - (compactUpTo d d.size).length) []).toArray := Any.slices_Compact_string_arr Tryz.lays194 blk off cap d w hH hsz hcap
open Go.RowKit Go.Lib Go.Sort in
/-- slices.Compact at []string: "Compact replaces consecutive runs of equal elements with a single copy. This is like the uniq command found on Unix. Compact modifies the contents of the slice s and returns the modified slice, which may have a smaller length. Compact zeroes the elements between the new length and the original length. The result preserves the nilness of s.": IT RETURNS THE SLICE CUT TO 'Lib.compact zs'; ITS CELLS HOLD 'Lib.compact zs', THEN ZERO VALUES up to the old length; all else is as it was, but for the count of draws. IN THE WORDS OF slices.Sort's CONTRACT ('Holds', 'putRow'): so the everyday 'slices.Sort(xs); xs = slices.Compact(xs)' goes from the one contract to the other. It asks 'zs.length ≤ cap' (every slice's: the reslicing 's[:k]' looks at it). Length 0, nil: '.._empty'. (LAID: no walk: one application.) -/
theorem Tryz.slices_Compact_string (blk off cap : Nat) (zs : List (List UInt8)) (w : World) (hH : Holds encStr w blk off zs.toArray) (hsz : zs.length ≤ 9223372036854775807) (hcap : zs.length ≤ cap) :
    Calls Tryz.prog 51 #[.slice (some ⟨blk, off, none⟩) zs.length cap] w fun e w' => e = .returned (.slice (some ⟨blk, off, none⟩) (Lib.compact zs).length cap) ∧ ∃ q, w' = putRow encStr (Sort.ahead w q) blk off (Lib.compact zs ++ List.replicate (zs.length - (Lib.compact zs).length) []).toArray := Any.slices_Compact_string Tryz.lays194 blk off cap zs w hH hsz hcap
open Go.RowKit Go.Lib Go.Sort in
/-- The same at a slice of length 0, a nil one too: it comes back as it is. (LAID: no walk: one application.) -/
theorem Tryz.slices_Compact_string_empty (a : Option Addr) (cap : Nat) (w : World) :
    Calls Tryz.prog 51 #[.slice a 0 cap] w fun e w' => e = .returned (.slice a 0 cap) ∧ w' = w := Any.slices_Compact_string_empty Tryz.lays194 a cap w
def Tryz.laysNm237_ren : Go.Shelf.Ren := ⟨fun | 37 => 80 | n => n, fun | 3 => 3 | 4 => 4 | n => n, fun | n => n⟩
theorem Tryz.laysNm237 : Go.Proofs.Lays2.n37 Tryz.prog Tryz.laysNm237_ren := {
  mixed := by kernel_rfl
  f37 := Tryz.func80.trans (congrArg some (by kernel_rfl))
  t3 := Tryz.underlying3
  a3 := Tryz.isAgg3
  z3 := Tryz.sizeOf3
  v3 := Tryz.zeroValue3
  t4 := Tryz.underlying4
  a4 := Tryz.isAgg4
  z4 := Tryz.sizeOf4
  v4 := Tryz.zeroValue4 }
open Go.RowKit Go.Lib in
/-- cmp.isNaN[int]: 'x != x': false. (LAID: no walk: one application.) -/
theorem Tryz.cmp_isNaN_int2 (x : Int) (w : World) :
    Calls Tryz.prog 80 #[.int .i64 x] w fun e w' => e = .returned (.bool false) ∧ w' = w := Any.cmp_isNaN_int2 Tryz.laysNm237 x w
open Go.RowKit Go.Lib Go.Sort in
/-- slices.Compact at []string, of an argument. (LAID: no walk: one application.) -/
theorem Tryz.slices_Compact_string_cells (b off n c : Nat) (Sx : Nat → ByteArray) (w : World) (hbig : n ≤ 9223372036854775807) (hcap : n ≤ c) (hc : ∀ i, i < n → w.cell? ⟨b, off + i, none⟩ = some (.string (Sx i))) (hf : ∀ j, j < n → w.frozen? ⟨b, off + j, none⟩ = false) :
    Calls Tryz.prog 51 #[.slice (some ⟨b, off, none⟩) n c] w fun e w' => e = .returned (.slice (some ⟨b, off, none⟩) (Lib.compact (Lib.strsOf Sx n)).length c) ∧ ∃ q, w' = (w.drewN q).setCells b off ((Lib.compact (Lib.strsOf Sx n) ++ List.replicate (n - (Lib.compact (Lib.strsOf Sx n)).length) []).map encStr) := Any.slices_Compact_string_cells Tryz.lays194 b off n c Sx w hbig hcap hc hf
open Go.RowKit Go.Sort in
/-- .. and plain. (LAID: no walk: one application.) -/
theorem Tryz.slices_Sort_string_none (p : Option Addr) (cap : Nat) (w : World) :
    Calls Tryz.prog 50 #[.slice p 0 cap] w fun e w' => e = .returned (.tuple #[]) ∧ w' = w := Any.slices_Sort_string_none Tryz.lays190 p cap w
end Go.Proofs
end

section
namespace Go.Proofs.YtfdmdcpopmcmcaaGreatDoor
open Go.Fw
variable [Gl]
/-- What package-level variable 0 (bytealg.MaxLen) holds. -/
def GInt : Prop := ∃ m : Int, fcell Gl.g ⟨0, 0, none⟩ = some (.int .i64 m)
theorem pre_tri (s p : By) : PTri Tryz.prog 77 [.str s, .str p] (.bool (Lib.hasPrefix s p)) :=
  PTri.of_same _ _ vrs_str2 (fun w => Tryz.strings_HasPrefix ⟨s.toArray⟩ ⟨p.toArray⟩ w) fun F => by simpa using VR.bool _
theorem trim_tri (s : By) : PTri Tryz.prog 66 [.str s, .str [32]] (.str (Lib.trimLeftB s 32)) :=
  PTri.of_same _ _ vrs_str2 (fun w => Tryz.strings_TrimLeft_one ⟨s.toArray⟩ 32 (by decide) w) fun F => by simpa using VR.str _
theorem cut_tri (hG : GInt) (s p : By) (hs : s.length < 4294967281) : PTri Tryz.prog 91 [.str s, .str p] (.tup [.str (Lib.cut s p).1, .str (Lib.cut s p).2.1, .bool (Lib.cut s p).2.2]) := by
  obtain ⟨m, hm⟩ := hG
  refine PTri.of_calls (fun w => w.cell? ⟨0, 0, none⟩ = some (.int .i64 m)) _ _ vrs_str2 (fun F w ho => fcell_gl ho hm) (fun w hw => Tryz.strings_Cut ⟨s.toArray⟩ ⟨p.toArray⟩ m w (by simpa [ByteArray.size] using hs) hw) fun F => ?_
  refine .tup _ _ rfl fun i v hv => ?_
  match i with
  | 0 => simp at hv; subst hv; simpa using VR.str _
  | 1 => simp at hv; subst hv; simpa using VR.str _
  | 2 => simp at hv; subst hv; simpa using VR.bool _
  | i + 3 => simp at hv
end Go.Proofs.YtfdmdcpopmcmcaaGreatDoor
end

section
namespace Go.Proofs.YtfdmdcpopmcmcaaGreatDoor
open Go.Fw
variable [Gl]
theorem isGo77 : isGo Tryz.prog 77 = true := by kernel_rfl
theorem isGo91 : isGo Tryz.prog 91 = true := by kernel_rfl
theorem isGo92 : isGo Tryz.prog 92 = true := by kernel_rfl
theorem isGo93 : isGo Tryz.prog 93 = true := by kernel_rfl
set_option maxRecDepth 20000
theorem field_tri (hG : GInt) (s : By) (hs : s.length ≤ 4294967280) : PTri Tryz.prog 67 [.str s] (.tup [.agg [.str (fieldL s).1.1, .str (fieldL s).1.2], .int .i64 (fieldL s).2.1, .bool (fieldL s).2.2]) := by
  have hw0 := tw_le (· != 32) s
  have hf0 : fieldL s = fieldL s := rfl
  conv at hf0 => rhs; unfold fieldL
  simp only at hf0
  have h1 := cut_tri hG s [32] (by omega)
  rw [cut1_fst] at h1
  generalize s.takeWhile (· != 32) = w at h1 hw0 hf0
  generalize (Lib.cut s [32]).2.1 = r1 at h1
  generalize (Lib.cut s [32]).2.2 = f1 at h1
  have hnm := tw_le (· != 61) w
  have h2 := cut_tri hG w [61] (by omega)
  rw [cut1_fst, cut1_found] at h2
  have hv := cut1_snd (c := 61) (s := w)
  generalize w.takeWhile (· != 61) = nm at h2 hv hf0 hnm
  generalize (Lib.cut w [61]).2.1 = v at h2 hv
  have h3 := pre_tri v [34]
  rw [pre1] at h3
  have h4 := unq_tri (s.drop (nm.length + 2)) (by simp; omega)
  have hus := unq_size (s.drop (nm.length + 2)) [] 0
  generalize unq (s.drop (nm.length + 2)) [] 0 = u at h4 hus hf0
  obtain ⟨u1, u2, u3⟩ := u
  simp only at h4 hus hf0
  rw [List.length_drop] at hus
  refine PTri.any (Tri.of_wc Tryz.func67 rfl Tryz.results67 Tryz.ntmps67 (by simp) ?_)
  refine WC.seq_k fun K1 hK2 => ?_
  refine WC.region ?_
  refine wU (gAlloc tzero51 fun b3 hb3 => ?_)
  refine wU (gE rfl ?_)
  refine wU (gE rfl ?_)
  refine wOps.done ?_
  refine hK2 _ _ _ ?_
  clear hK2 K1
  refine WC.seq_k fun K4 hK5 => ?_
  refine WC.region ?_
  refine wU (gE rfl ?_)
  refine wU (gPure rfl isGo91 h1 ?_)
  refine wU (gE rfl ?_)
  refine wU (gE rfl ?_)
  refine wU (gE rfl ?_)
  refine wU (gE rfl ?_)
  refine wU (gE rfl ?_)
  refine wU (gE rfl ?_)
  refine wU (gE rfl ?_)
  refine wOps.done ?_
  refine hK5 _ _ _ ?_
  clear hK5 K4
  refine WC.seq_k fun K6 hK7 => ?_
  refine WC.region ?_
  refine wU (gE rfl ?_)
  refine wU (gPure rfl isGo91 h2 ?_)
  refine wU (gE rfl ?_)
  refine wU (gE rfl ?_)
  refine wU (gE rfl ?_)
  refine wU (gE rfl ?_)
  refine wU (gE rfl ?_)
  refine wU (gE rfl ?_)
  refine wU (gE rfl ?_)
  refine wOps.done ?_
  refine hK7 _ _ _ ?_
  clear hK7 K6
  refine WC.seq_k fun K8 hK9 => ?_
  refine WC.seq_k fun K10 hK11 => ?_
  refine WC.region ?_
  refine wU (gE rfl ?_)
  refine wU (gE rfl ?_)
  refine wU (gE rfl ?_)
  refine wG rfl rfl rfl rfl (by decide) (fun c12 => ?_) (fun c12 => ?_)
  · skip
    refine gE rfl ?_
    refine wY rfl (gPure rfl isGo92 (isNm_tri2 _) ?_)
    refine wY rfl (gE rfl ?_)
    refine wU (gE rfl ?_)
    refine wOps.done ?_
    refine hK11 _ _ _ ?_
    clear hK11 K10
    refine WC.cond rfl (fun c13 => ?_) (fun c13 => ?_)
    · skip
      refine WC.seq_k fun K14 hK15 => ?_
      refine WC.region ?_
      refine wU (gBuild rfl rfl ?_)
      refine wU (gE rfl ?_)
      refine wU (gLen rfl rfl tisstr9 ?_)
      refine wU (gStore rfl rfl (by simp only [hget, ↓reduceIte] <;> rfl) tsz51 (by simp [vcells]) (by simp [vcells, leafV]) ?_)
      simp only [hset, stL, vcells, List.set_cons_zero, List.set_cons_succ, ↓reduceIte]
      refine wU (gE rfl ?_)
      refine wU (gE rfl ?_)
      refine wOps.done ?_
      refine hK15 _ _ _ ?_
      clear hK15 K14
      refine WC.ret ?_
      have e : fieldL s = (([], []), w.length, true) := by rw [hf0]; simp_all
      rw [e]
      exact ⟨_, by simp [resAll, resVs, resV, hdel, evLoad, hget, ldAt, tagg51, tsz51, frA, upd, hset, stL, putL] <;> rfl, rfl⟩
    · skip
      refine WC.skip ?_
      refine hK9 _ _ _ ?_
      clear hK9 K8
      refine WC.seq_k fun K16 hK17 => ?_
      refine WC.seq_k fun K18 hK19 => ?_
      refine WC.region ?_
      refine wU (gE rfl ?_)
      refine wU (gPure rfl isGo77 h3 ?_)
      refine wU (gE rfl ?_)
      refine wOps.done ?_
      refine hK19 _ _ _ ?_
      clear hK19 K18
      refine WC.cond rfl (fun c20 => ?_) (fun c20 => ?_)
      · skip
        refine WC.seq_k fun K21 hK22 => ?_
        refine WC.region ?_
        refine wU (gE rfl ?_)
        refine wU (gE rfl ?_)
        refine wU (gBuild (v := .agg [.str nm, .str v]) rfl rfl ?_)
        refine wU (gE rfl ?_)
        refine wU (gLen rfl rfl tisstr9 ?_)
        refine wU (gStore rfl rfl (by simp only [hget, ↓reduceIte] <;> rfl) tsz51 (by simp [vcells]) (by simp [vcells, leafV]) ?_)
        simp only [hset, stL, vcells, List.set_cons_zero, List.set_cons_succ, ↓reduceIte]
        refine wU (gE rfl ?_)
        refine wU (gE rfl ?_)
        refine wOps.done ?_
        refine hK22 _ _ _ ?_
        clear hK22 K21
        refine WC.ret ?_
        have hm : 61 ∈ w := by simpa using c12
        have e : fieldL s = ((nm, v), w.length, true) := by rw [hf0, if_neg (by simp_all), if_neg (by rw [← hv hm]; simpa using c20), hv hm]
        rw [e]
        exact ⟨_, by simp [resAll, resVs, resV, hdel, evLoad, hget, ldAt, tagg51, tsz51, frA, upd, hset, stL, putL] <;> rfl, rfl⟩
      · skip
        refine WC.skip ?_
        refine hK17 _ _ _ ?_
        clear hK17 K16
        refine WC.seq_k fun K23 hK24 => ?_
        refine WC.region ?_
        refine wU (gE rfl ?_)
        refine wU (gLen rfl rfl tisstr9 ?_)
        have hm : 61 ∈ w := by simpa using c12
        have hk : nm.length + 2 ≤ w.length := head_len (by rw [← hv hm]; simpa using c20)
        refine wU (gE (v := .int .i64 ((nm.length + 2 : Nat) : Int)) (int_fit (by omega) (by omega) (by omega)) ?_)
        refine wU (gE rfl ?_)
        refine wOps.done ?_
        refine hK24 _ _ _ ?_
        clear hK24 K23
        refine WC.seq_k fun K25 hK26 => ?_
        refine WC.region ?_
        refine wU (gE rfl ?_)
        refine wU (gE rfl ?_)
        refine wU (gSliceStr (l := some (nm.length + 2)) (r := none) tisstr9 rfl rfl rfl (by simp; omega) (by simp) ?_)
        have es : (s.drop (nm.length + 2)).take (s.length - (nm.length + 2)) = s.drop (nm.length + 2) := List.take_of_length_le (by simp)
        rw [← es] at h4
        refine wU (gPure rfl isGo93 h4 ?_)
        refine wU (gE rfl ?_)
        refine wU (gE rfl ?_)
        refine wU (gE rfl ?_)
        refine wU (gE rfl ?_)
        refine wU (gE rfl ?_)
        refine wU (gE rfl ?_)
        refine wU (gE rfl ?_)
        refine wOps.done ?_
        refine hK26 _ _ _ ?_
        clear hK26 K25
        refine WC.seq_k fun K27 hK28 => ?_
        refine WC.region ?_
        refine wU (gE rfl ?_)
        refine wU (gE rfl ?_)
        refine wU (gE (v := .int .i64 ((u2 + (nm.length + 2) : Nat) : Int)) (int_fit (by omega) (by omega) (by omega)) ?_)
        refine wU (gE rfl ?_)
        refine wOps.done ?_
        refine hK28 _ _ _ ?_
        clear hK28 K27
        refine WC.seq_k fun K29 hK30 => ?_
        refine WC.seq_k fun K31 hK32 => ?_
        refine WC.region ?_
        refine wU (gE rfl ?_)
        refine wU (gE rfl ?_)
        refine wU (gE rfl ?_)
        refine wG rfl rfl rfl rfl (by decide) (fun c33 => ?_) (fun c33 => ?_)
        · skip
          refine gE rfl ?_
          refine wY rfl (gE rfl ?_)
          refine wY rfl (gLen rfl rfl tisstr9 ?_)
          refine wY rfl (gE rfl ?_)
          refine wY rfl (gE rfl ?_)
          refine wG rfl rfl rfl rfl (by decide) (fun c34 => ?_) (fun c34 => ?_)
          · skip
            refine gE rfl ?_
            refine wY rfl (gE rfl ?_)
            have hsz : u2 + (nm.length + 2) < s.length := by have := of_decide_eq_true c34; omega
            refine wY rfl (gIdxStr tisstr9 rfl rfl (by omega) (str_at hsz) ?_)
            refine wY rfl (gE rfl ?_)
            refine wY rfl (gE rfl ?_)
            refine wU (gE rfl ?_)
            refine wOps.done ?_
            refine hK32 _ _ _ ?_
            clear hK32 K31
            refine WC.cond rfl (fun c35 => ?_) (fun c35 => ?_)
            · skip
              refine WC.seq_k fun K36 hK37 => ?_
              refine WC.region ?_
              refine wU (gBuild rfl rfl ?_)
              refine wU (gStore rfl rfl (by simp only [hget, ↓reduceIte] <;> rfl) tsz51 (by simp [vcells]) (by simp [vcells, leafV]) ?_)
              simp only [hset, stL, vcells, List.set_cons_zero, List.set_cons_succ, ↓reduceIte]
              refine wU (gE rfl ?_)
              refine wU (gE rfl ?_)
              refine wOps.done ?_
              refine hK37 _ _ _ ?_
              clear hK37 K36
              refine WC.ret ?_
              have e : fieldL s = (([], []), 0, false) := by rw [hf0, if_neg (by simp_all), if_pos (by rw [← hv hm]; simpa using c20), if_pos (by simp_all [u8_32])]
              rw [e]
              exact ⟨_, by simp [resAll, resVs, resV, hdel, evLoad, hget, ldAt, tagg51, tsz51, frA, upd, hset, stL, putL] <;> rfl, rfl⟩
            · skip
              refine WC.skip ?_
              refine hK30 _ _ _ ?_
              clear hK30 K29
              refine WC.seq_k fun K38 hK39 => ?_
              refine WC.region ?_
              refine wU (gE rfl ?_)
              refine wU (gE rfl ?_)
              refine wU (gBuild (v := .agg [.str nm, .str u1]) rfl rfl ?_)
              refine wU (gE rfl ?_)
              refine wU (gStore rfl rfl (by simp only [hget, ↓reduceIte] <;> rfl) tsz51 (by simp [vcells]) (by simp [vcells, leafV]) ?_)
              simp only [hset, stL, vcells, List.set_cons_zero, List.set_cons_succ, ↓reduceIte]
              refine wU (gE rfl ?_)
              refine wU (gE rfl ?_)
              refine wOps.done ?_
              refine hK39 _ _ _ ?_
              clear hK39 K38
              refine WC.ret ?_
              have e : fieldL s = ((nm, u1), u2 + (nm.length + 2), true) := by rw [hf0, if_neg (by simp_all), if_pos (by rw [← hv hm]; simpa using c20), if_neg (by first | (simp_all [u8_32]; done) | (simp_all [u8_32]; intro hh; omega))]
              rw [e]
              exact ⟨_, by simp [resAll, resVs, resV, hdel, evLoad, hget, ldAt, tagg51, tsz51, frA, upd, hset, stL, putL] <;> rfl, rfl⟩
          · skip
            refine wN rfl ?_
            refine wN rfl ?_
            refine wN rfl ?_
            refine wY rfl (gE rfl ?_)
            refine wU (gE rfl ?_)
            refine wOps.done ?_
            refine hK32 _ _ _ ?_
            clear hK32 K31
            first | refine WC.cond (b := false) rfl (fun hh => by simp at hh) (fun _ => ?_) | refine WC.cond rfl (fun hh => by simp_all) (fun _ => ?_)
            refine WC.skip ?_
            refine hK30 _ _ _ ?_
            clear hK30 K29
            refine WC.seq_k fun K40 hK41 => ?_
            refine WC.region ?_
            refine wU (gE rfl ?_)
            refine wU (gE rfl ?_)
            refine wU (gBuild (v := .agg [.str nm, .str u1]) rfl rfl ?_)
            refine wU (gE rfl ?_)
            refine wU (gStore rfl rfl (by simp only [hget, ↓reduceIte] <;> rfl) tsz51 (by simp [vcells]) (by simp [vcells, leafV]) ?_)
            simp only [hset, stL, vcells, List.set_cons_zero, List.set_cons_succ, ↓reduceIte]
            refine wU (gE rfl ?_)
            refine wU (gE rfl ?_)
            refine wOps.done ?_
            refine hK41 _ _ _ ?_
            clear hK41 K40
            refine WC.ret ?_
            have e : fieldL s = ((nm, u1), u2 + (nm.length + 2), true) := by rw [hf0, if_neg (by simp_all), if_pos (by rw [← hv hm]; simpa using c20), if_neg (by first | (simp_all [u8_32]; done) | (simp_all [u8_32]; intro hh; omega))]
            rw [e]
            exact ⟨_, by simp [resAll, resVs, resV, hdel, evLoad, hget, ldAt, tagg51, tsz51, frA, upd, hset, stL, putL] <;> rfl, rfl⟩
        · skip
          refine wN rfl ?_
          refine wN rfl ?_
          refine wN rfl ?_
          refine wN rfl ?_
          refine wZ rfl ?_
          refine wZ rfl ?_
          refine wZ rfl ?_
          refine wZ rfl ?_
          refine wN rfl ?_
          refine wU (gE rfl ?_)
          refine wOps.done ?_
          refine hK32 _ _ _ ?_
          clear hK32 K31
          first | refine WC.cond (b := true) rfl (fun _ => ?_) (fun hh => by simp at hh) | refine WC.cond rfl (fun _ => ?_) (fun hh => by simp_all)
          refine WC.seq_k fun K42 hK43 => ?_
          refine WC.region ?_
          refine wU (gBuild rfl rfl ?_)
          refine wU (gStore rfl rfl (by simp only [hget, ↓reduceIte] <;> rfl) tsz51 (by simp [vcells]) (by simp [vcells, leafV]) ?_)
          simp only [hset, stL, vcells, List.set_cons_zero, List.set_cons_succ, ↓reduceIte]
          refine wU (gE rfl ?_)
          refine wU (gE rfl ?_)
          refine wOps.done ?_
          refine hK43 _ _ _ ?_
          clear hK43 K42
          refine WC.ret ?_
          have e : fieldL s = (([], []), 0, false) := by rw [hf0, if_neg (by simp_all), if_pos (by rw [← hv hm]; simpa using c20), if_pos (by simp_all [u8_32])]
          rw [e]
          exact ⟨_, by simp [resAll, resVs, resV, hdel, evLoad, hget, ldAt, tagg51, tsz51, frA, upd, hset, stL, putL] <;> rfl, rfl⟩
  · skip
    refine wN rfl ?_
    refine wN rfl ?_
    refine wU (gE rfl ?_)
    refine wOps.done ?_
    refine hK11 _ _ _ ?_
    clear hK11 K10
    first | refine WC.cond (b := true) rfl (fun _ => ?_) (fun hh => by simp at hh) | refine WC.cond rfl (fun _ => ?_) (fun hh => by simp_all)
    refine WC.seq_k fun K44 hK45 => ?_
    refine WC.region ?_
    refine wU (gBuild rfl rfl ?_)
    refine wU (gE rfl ?_)
    refine wU (gLen rfl rfl tisstr9 ?_)
    refine wU (gStore rfl rfl (by simp only [hget, ↓reduceIte] <;> rfl) tsz51 (by simp [vcells]) (by simp [vcells, leafV]) ?_)
    simp only [hset, stL, vcells, List.set_cons_zero, List.set_cons_succ, ↓reduceIte]
    refine wU (gE rfl ?_)
    refine wU (gE rfl ?_)
    refine wOps.done ?_
    refine hK45 _ _ _ ?_
    clear hK45 K44
    refine WC.ret ?_
    have e : fieldL s = (([], []), w.length, true) := by rw [hf0]; simp_all
    rw [e]
    exact ⟨_, by simp [resAll, resVs, resV, hdel, evLoad, hget, ldAt, tagg51, tsz51, frA, upd, hset, stL, putL] <;> rfl, rfl⟩
end Go.Proofs.YtfdmdcpopmcmcaaGreatDoor
end

section
namespace Go.Proofs.YtfdmdcpopmcmcaaGreatDoor
open Go.Fw
variable [Gl]
theorem isGo36 : isGo Tryz.prog 36 = true := by kernel_rfl
theorem isGo69 : isGo Tryz.prog 69 = true := by kernel_rfl
abbrev lbv (p : Lb) : V := .agg [.str p.1, .str p.2]
theorem long_tri (p : Lb) : PTri Tryz.prog 33 [lbv p] (.bool (decide (200 < p.2.length))) := by
  unfold lbv
  refine PTri.any (Tri.of_wc Tryz.func33 rfl Tryz.results33 Tryz.ntmps33 (by simp) ?_)
  refine WC.seq_k fun K1 hK2 => ?_
  refine WC.region ?_
  refine wU (gBox rfl fun b3 hb3 => ?_)
  refine wU (gE rfl ?_)
  refine wOps.done ?_
  refine hK2 _ _ _ ?_
  clear hK2 K1
  refine WC.seq_k fun K4 hK5 => ?_
  refine WC.region ?_
  refine wU (gField tfld51_1 tsz9 rfl ?_)
  refine wU (gLoad tagg9 rfl (by simp only [hget, ↓reduceIte] <;> rfl) rfl ?_)
  refine wU (gLen rfl rfl tisstr9 ?_)
  refine wU (gE rfl ?_)
  refine wU (gE rfl ?_)
  refine wOps.done ?_
  refine hK5 _ _ _ ?_
  clear hK5 K4
  refine WC.ret ?_
  exact ⟨_, rfl, by simp; omega⟩
theorem nameCmp_tri (p q : Lb) : PTri Tryz.prog 35 [lbv p, lbv q] (.int .i64 (cmpB p.1 q.1)) := by
  unfold lbv
  refine PTri.any (Tri.of_wc Tryz.func35 rfl Tryz.results35 Tryz.ntmps35 (by simp) ?_)
  refine WC.seq_k fun K1 hK2 => ?_
  refine WC.region ?_
  refine wU (gBox rfl fun b3 hb3 => ?_)
  refine wU (gBox rfl fun b4 hb4 => ?_)
  simp only [Hp.ns_cons, Hp.ns_nil, List.mem_cons, List.not_mem_nil, or_false, not_or] at hb4
  refine wU (gE rfl ?_)
  refine wOps.done ?_
  refine hK2 _ _ _ ?_
  clear hK2 K1
  refine WC.seq_k fun K5 hK6 => ?_
  refine WC.region ?_
  refine wU (gField tfld51_0 tsz9 rfl ?_)
  refine wU (gLoad tagg9 rfl (by simp only [hget, hb4, ↓reduceIte] <;> rfl) rfl ?_)
  refine wU (gField tfld51_0 tsz9 rfl ?_)
  refine wU (gLoad tagg9 rfl (by simp only [hget, hb4, ↓reduceIte] <;> rfl) rfl ?_)
  refine wU (gPure rfl isGo36 (cmpB_tri _ _) ?_)
  refine wU (gE rfl ?_)
  refine wOps.done ?_
  refine hK6 _ _ _ ?_
  clear hK6 K5
  refine WC.ret ?_
  exact ⟨_, rfl, rfl⟩
def idxF (f : Lb → Bool) (i : Nat) : List Lb → Int
  | [] => -1
  | y :: r => if f y then i else idxF f (i + 1) r
theorem idxF_step {f : Lb → Bool} {l : List Lb} {i : Nat} (h : i < l.length) : idxF f i (l.drop i) = if f l[i] then (i : Int) else idxF f (i + 1) (l.drop (i + 1)) := by
  rw [List.drop_eq_getElem_cons h]; rfl
theorem idxF_any (f : Lb → Bool) : ∀ (l : List Lb) (i : Nat), decide (0 ≤ idxF f i l) = l.any f
  | [], i => by simp [idxF]
  | y :: r, i => by
    have := idxF_any f r (i + 1)
    simp only [idxF, List.any_cons]
    by_cases h : f y = true
    · simp [h]
    · simp [h, this]
theorem idxF_tri (g : FuncId) (f : Lb → Bool) (hgo : isGo Tryz.prog g = true) (hg : ∀ p, PTri Tryz.prog g [lbv p] (.bool (f p))) (l : List Lb) (hl : l.length ≤ 4294967295) : PTri Tryz.prog 69 [lsl l, .clo g []] (.int .i64 (idxF f 0 l)) := by
  unfold lsl
  unfold lbv at hg
  refine Tri.of_wc Tryz.func69 rfl Tryz.results69 Tryz.ntmps69 (by simp) ?_
  refine WC.seq_k fun K1 hK2 => ?_
  refine WC.region ?_
  refine wU (gE rfl ?_)
  refine wOps.done ?_
  refine hK2 _ _ _ ?_
  clear hK2 K1
  refine WC.seq_k fun K3 hK4 => ?_
  refine WC.seq_k fun K5 hK6 => ?_
  refine WC.region ?_
  refine wU (gE rfl ?_)
  refine wU (gLen rfl rfl (by rw [lenFits, tslice22]; rfl) ?_)
  refine wU (gE rfl ?_)
  refine wOps.done ?_
  refine hK6 _ _ _ ?_
  clear hK6 K5
  refine WC.block ?_
  refine WC.loopI (α := Nat) (fun i => [(0, .fslice (lcs l) l.length), (1, .clo g []), (7, .int .i64 l.length), (8, .int .i64 i)]) (fun _ => []) (fun i => l.length - i) (fun i => i ≤ l.length ∧ idxF f 0 l = idxF f i (l.drop i)) 0 ?_ ?_ ?_ ?_
  · exact sub_cons rfl (sub_cons rfl (sub_cons rfl (sub_cons rfl (sub_nil _))))
  · exact Ent.refl _ _
  · exact ⟨by simp, by simp⟩
  rintro i ⟨hil, hc⟩
  refine WC.seq_k fun K7 hK8 => ?_
  refine WC.region ?_
  refine wU (gE rfl ?_)
  refine wOps.done ?_
  refine hK8 _ _ _ ?_
  clear hK8 K7
  refine WC.seq_k fun K9 hK10 => ?_
  refine WC.cond rfl (fun c11 => ?_) (fun c11 => ?_)
  · skip
    refine WC.skip ?_
    refine hK10 _ _ _ ?_
    clear hK10 K9
    refine WC.seq_k fun K12 hK13 => ?_
    refine WC.block ?_
    refine WC.seq_k fun K14 hK15 => ?_
    refine WC.region ?_
    refine wU (gE rfl ?_)
    refine wU (gE rfl ?_)
    refine wOps.done ?_
    refine hK15 _ _ _ ?_
    clear hK15 K14
    refine WC.seq_k fun K16 hK17 => ?_
    refine WC.region ?_
    refine wU (gE rfl ?_)
    refine wU (gE rfl ?_)
    refine wU (gE rfl ?_)
    have hi : i < l.length := by simpa using c11
    refine wU (gIdxF tslice22 tsz51 rfl rfl (by omega) (by omega) ?_)
    refine wU (gLoadAF tagg51 tsz51 rfl (by rw [lcs_length]; omega) (lcs_pair hi) ?_)
    refine wU (gPureV rfl rfl hgo (hg l[i]) ?_)
    refine wOps.done ?_
    refine hK17 _ _ _ ?_
    clear hK17 K16
    refine WC.cond rfl (fun c18 => ?_) (fun c18 => ?_)
    · skip
      refine WC.seq_k fun K19 hK20 => ?_
      refine WC.region ?_
      refine wU (gE rfl ?_)
      refine wU (gE rfl ?_)
      refine wOps.done ?_
      refine hK20 _ _ _ ?_
      clear hK20 K19
      refine WC.ret ?_
      refine ⟨_, rfl, congrArg (V.int .i64) ?_, rfl⟩
      rw [hc, idxF_step hi]; simp_all
    · skip
      refine WC.skip ?_
      refine hK13 _ _ _ ?_
      clear hK13 K12
      refine WC.region ?_
      refine wU (gE rfl ?_)
      refine wU (gE rfl ?_)
      refine wOps.done ?_
      exact ⟨i + 1, rfl, by omega, ⟨by omega, by rw [hc, idxF_step hi]; simp_all⟩, Ent.sub (sub_cons rfl (sub_cons rfl (sub_cons rfl (sub_cons (int_fit (by omega) (by omega) (by omega)) (sub_nil _)))))⟩
  · skip
    refine WC.exit ?_
    refine hK4 _ _ _ ?_
    clear hK10 K9 hK4 K3
    refine WC.seq_k fun K21 hK22 => ?_
    refine WC.region ?_
    refine wU (gE rfl ?_)
    refine wOps.done ?_
    refine hK22 _ _ _ ?_
    clear hK22 K21
    refine WC.ret ?_
    refine ⟨_, rfl, congrArg (V.int .i64) ?_, rfl⟩
    rw [hc, List.drop_of_length_le (by have := of_decide_eq_false c11; omega)]; rfl
theorem hasF_tri (g : FuncId) (f : Lb → Bool) (hgo : isGo Tryz.prog g = true) (hg : ∀ p, PTri Tryz.prog g [lbv p] (.bool (f p))) (l : List Lb) (hl : l.length ≤ 4294967295) : PTri Tryz.prog 32 [lsl l, .clo g []] (.bool (l.any f)) := by
  refine Tri.of_wc Tryz.func32 rfl Tryz.results32 Tryz.ntmps32 (by simp) ?_
  refine WC.seq_k fun K1 hK2 => ?_
  refine WC.region ?_
  refine wU (gE rfl ?_)
  refine wOps.done ?_
  refine hK2 _ _ _ ?_
  clear hK2 K1
  refine WC.seq_k fun K3 hK4 => ?_
  refine WC.region ?_
  refine wU (gE rfl ?_)
  refine wU (gE rfl ?_)
  refine wU (gPure rfl isGo69 (idxF_tri g f hgo hg l hl) ?_)
  refine wU (gE rfl ?_)
  refine wU (gE rfl ?_)
  refine wOps.done ?_
  refine hK4 _ _ _ ?_
  clear hK4 K3
  refine WC.ret ?_
  exact ⟨_, rfl, congrArg V.bool (idxF_any f l 0), rfl⟩
end Go.Proofs.YtfdmdcpopmcmcaaGreatDoor
end

section
namespace Go.Proofs.YtfdmdcpopmcmcaaGreatDoor
open Go.Fw
variable [Gl]
theorem isGo95 : isGo Tryz.prog 95 = true := by kernel_rfl
theorem tagg22 : tagg Tryz.prog 22 = some false := by kernel_rfl
theorem tagg31 : tagg Tryz.prog 31 = some false := by kernel_rfl
theorem frz_lcs (b : Nat) (cs : List V) : ∀ l : List Lb, frzL b cs (lcs l) = lcs l
  | [] => by simp [lcs, frzL]
  | p :: l => by simp [lcs, frzL, frzV, frz_lcs b cs l]
theorem frz_scs (b : Nat) (cs : List V) : ∀ l : List By, frzL b cs (scs l) = scs l
  | [] => by simp [scs, frzL]
  | p :: l => by
    have := frz_scs b cs l
    simp only [scs] at this
    simp [scs, frzL, frzV, this]
def markCaps (l : List Lb) (ns : List By) : List V := [.fptr [lsl l] 0, .fptr [ssl ns] 0]
theorem marked_tri (l : List Lb) (ns : List By) : PTri Tryz.prog 68 [lsl l, ssl ns] (.clo 94 (markCaps l ns)) := by
  have ht : Tri Tryz.prog 68 [lsl l, ssl ns] [] fun v h' => ∃ b1 b2, v = .clo 94 [.ptr b1 0, .ptr b2 0] ∧ h' = [(b2, .cells 31 [ssl ns] 1), (b1, .cells 22 [lsl l] 1)] ∧ ¬ b2 = b1 := by
    unfold lsl ssl
    refine Tri.of_wc Tryz.func68 rfl Tryz.results68 Tryz.ntmps68 (by simp) ?_
    refine WC.seq_k fun K1 hK2 => ?_
    refine WC.region ?_
    refine wU (gBox rfl fun b3 hb3 => ?_)
    refine wU (gBox rfl fun b4 hb4 => ?_)
    simp only [Hp.ns_cons, Hp.ns_nil, List.mem_cons, List.not_mem_nil, or_false, not_or] at hb4
    refine wU (gE rfl ?_)
    refine wOps.done ?_
    refine hK2 _ _ _ ?_
    clear hK2 K1
    refine WC.seq_k fun K5 hK6 => ?_
    refine WC.region ?_
    refine wU (gE rfl ?_)
    refine wU (gE rfl ?_)
    refine wOps.done ?_
    refine hK6 _ _ _ ?_
    clear hK6 K5
    refine WC.ret ?_
    exact ⟨_, rfl, _, _, rfl, rfl, by simp_all⟩
  refine Tri.vent ht ?_
  rintro v h' ⟨b1, b2, rfl, rfl, hne⟩
  refine ⟨_, _, .freeze b2 (by simp [hget]; exact ⟨rfl, rfl, rfl⟩) (.freeze b1 (by simp [frzH, hdel, hget, frzO, frzL, frzV, hne, lsl, frz_lcs]; exact ⟨rfl, rfl, rfl⟩) (.refl _ _)), ?_, ?_⟩
  · simp [frzV, frzL, hne, Ne.symm hne, markCaps, lsl, ssl, frz_scs]
  · simp [frzH, hdel]
theorem marked1_iter (l : List Lb) (ns : List By) (hl : l.length ≤ 4294967295) (hn : ns.length ≤ 4294967295) : IterC Tryz.prog 94 (markCaps l ns) (l.map fun p => [lbv p, .bool (ns.contains p.1)]) := by
  unfold markCaps lsl ssl lbv
  intro y J S hy h0 hJ0
  rw [List.length_map] at *
  have hy : ∀ (k : Nat) (hk : k < l.length) (h : Hp), J k h → YieldS Tryz.prog y [.agg [.str l[k].1, .str l[k].2], .bool (ns.contains l[k].1)] h fun v h' => (v = .bool true ∧ J (k + 1) h') ∨ (v = .bool false ∧ S h') := fun k hk h hJ => by
    have := hy k (by simpa using hk) h hJ
    simpa using this
  refine Tri.of_wc Tryz.func94 rfl Tryz.results94 Tryz.ntmps94 (by simp) ?_
  refine WC.seq_k fun K1 hK2 => ?_
  refine WC.region ?_
  refine wU (gLoadF tagg22 rfl rfl ?_)
  refine wU (gLen rfl rfl (by rw [lenFits, tslice22]; rfl) ?_)
  refine wU (gE rfl ?_)
  refine wOps.done ?_
  refine hK2 _ _ _ ?_
  clear hK2 K1
  refine WC.block ?_
  refine WC.loopI (α := Nat × Hp) (fun a => [(0, .yield y), (1, .fptr [.fslice (lcs l) l.length] 0), (2, .fptr [.fslice (scs ns) ns.length] 0), (6, .fslice (lcs l) l.length), (7, .int .i64 l.length), (8, .int .i64 a.1)]) (fun a => a.2) (fun a => l.length - a.1) (fun a => a.1 ≤ l.length ∧ J a.1 a.2) (0, h0) ?_ ?_ ?_ ?_
  · exact sub_cons rfl (sub_cons rfl (sub_cons rfl (sub_cons rfl (sub_cons rfl (sub_cons rfl (sub_nil _))))))
  · exact Ent.refl _ _
  · exact ⟨by simp, hJ0⟩
  rintro ⟨i, h⟩ ⟨hil, hJ⟩
  simp only at hil hJ ⊢
  refine WC.seq_k fun K3 hK4 => ?_
  refine WC.region ?_
  refine wU (gE rfl ?_)
  refine wOps.done ?_
  refine hK4 _ _ _ ?_
  clear hK4 K3
  refine WC.seq_k fun K5 hK6 => ?_
  refine WC.cond rfl (fun c7 => ?_) (fun c7 => ?_)
  · skip
    refine WC.skip ?_
    refine hK6 _ _ _ ?_
    clear hK6 K5
    refine WC.seq_k fun K8 hK9 => ?_
    refine WC.block ?_
    refine WC.seq_k fun K10 hK11 => ?_
    refine WC.region ?_
    have hi : i < l.length := by simpa using c7
    refine wU (gIdxF tslice22 tsz51 rfl rfl (by omega) (by omega) ?_)
    refine wU (gLoadAF tagg51 tsz51 rfl (by rw [lcs_length]; omega) (lcs_pair hi) ?_)
    refine wU (gAlloc tzero51 fun b12 hb12 => ?_)
    refine wU (gStore rfl rfl (by simp only [hget, ↓reduceIte] <;> rfl) tsz51 (by simp [vcells]) (by simp [vcells, leafV]) ?_)
    simp only [hset, stL, vcells, List.set_cons_zero, List.set_cons_succ, ↓reduceIte]
    refine wOps.done ?_
    refine hK11 _ _ _ ?_
    clear hK11 K10
    refine WC.seq_k fun K13 hK14 => ?_
    refine WC.region_draw mixed ?_
    refine wA.val 0 rfl rfl rfl (fun _ _ hK => gE rfl hK) (by kernel_rfl) ?_
    refine wA.val 2 rfl rfl rfl (fun _ _ hK => gLoadF tagg31 rfl rfl hK) (by kernel_rfl) ?_
    refine wA.val 3 rfl rfl rfl (fun _ _ hK => gField tfld51_0 tsz9 rfl hK) (by kernel_rfl) ?_
    refine wA.ld 4 rfl rfl rfl (fun _ hle _ hK => gLoad tagg9 rfl (hle _ _ (by simp only [hget, ↓reduceIte] <;> rfl)) rfl hK) (by kernel_rfl) ?_
    refine wA.val 5 rfl rfl rfl (fun _ _ hK => by refine gPure rfl isGo95 (has_tri ns _ hn) ?_; exact hK) (by kernel_rfl) ?_
    refine wA.ld 1 rfl rfl rfl (fun _ hle _ hK => gLoadA tagg51 tsz51 rfl (hle _ _ (by simp only [hget, ↓reduceIte] <;> rfl)) (by simp [putL]) rfl hK) (by kernel_rfl) ?_
    refine wA.eff 6 rfl (by kernel_rfl) rfl ?_
    refine gYield rfl rfl (YieldS.sub (List.sublist_cons_self _ _) (YieldS.b (hy i hi h hJ) fun b h1 hb1 hb2 => ?_))
    refine wA.back ?_
    refine wA.val 7 rfl rfl rfl (fun _ _ hK => gE rfl hK) (by kernel_rfl) ?_
    refine wA.done (by kernel_rfl) ?_
    refine hK14 _ _ _ ?_
    clear hK14 K13
    refine WC.cond rfl (fun c15 => ?_) (fun c15 => ?_)
    · skip
      refine WC.ret ?_
      exact ⟨_, rfl, .inr (hb2 (by simpa using c15))⟩
    · skip
      refine WC.skip ?_
      refine hK9 _ _ _ ?_
      clear hK9 K8
      refine WC.region ?_
      refine wU (gE rfl ?_)
      refine wU (gE rfl ?_)
      refine wOps.done ?_
      exact ⟨(i + 1, h1), rfl, by simp only; omega, ⟨by simp only; omega, hb1 (by simpa using c15)⟩, Ent.sub (sub_cons rfl (sub_cons rfl (sub_cons rfl (sub_cons rfl (sub_cons rfl (sub_cons (int_fit (by omega) (by omega) (by omega)) (sub_nil _)))))))⟩
  · skip
    refine WC.exit ?_
    have he : i = l.length := by have := of_decide_eq_false c7; omega
    exact ⟨_, rfl, .inl (he ▸ hJ)⟩
end Go.Proofs.YtfdmdcpopmcmcaaGreatDoor
end

section
namespace Go.Proofs.YtfdmdcpopmcmcaaGreatDoor
open Go.Fw
variable [Gl]
theorem isGo68 : isGo Tryz.prog 68 = true := by kernel_rfl
theorem isGo94 : isGo Tryz.prog 94 = true := by kernel_rfl
theorem tzero9 : tzero Tryz.prog 9 = some [.str []] := by kernel_rfl
set_option maxRecDepth 20000
def getL : List Lb → By → By
  | [], _ => []
  | p :: r, nm => if p.1 == nm then p.2 else getL r nm
theorem getL_step {l : List Lb} {nm : By} {i : Nat} (h : i < l.length) : getL (l.drop i) nm = if l[i].1 == nm then l[i].2 else getL (l.drop (i + 1)) nm := by
  rw [List.drop_eq_getElem_cons h]; rfl
theorem get_tri (l : List Lb) (nm : By) (hl : l.length ≤ 4294967295) : PTri Tryz.prog 31 [lsl l, .str nm] (.str (getL l nm)) := by
  unfold lsl
  refine PTri.any (Tri.of_wc Tryz.func31 rfl Tryz.results31 Tryz.ntmps31 (by simp) ?_)
  refine WC.seq_k fun K1 hK2 => ?_
  refine WC.region ?_
  refine wU (gAlloc tzero9 fun b3 hb3 => ?_)
  refine wOps.done ?_
  refine hK2 _ _ _ ?_
  clear hK2 K1
  refine WC.seq_k fun K4 hK5 => ?_
  refine WC.seq_k fun K6 hK7 => ?_
  refine WC.region ?_
  refine wU (gE rfl ?_)
  refine wU (gE rfl ?_)
  refine wU (gBuildSlice (cs := [.str nm]) tslice31 tsz9 tzero9 rfl (by simp [evFill, putL, zcells, vcells]) (by decide) (by decide) fun b8 hb8 => ?_)
  simp only [Hp.ns_cons, Hp.ns_nil, List.mem_cons, List.not_mem_nil, or_false, not_or] at hb8
  simp only [List.length_singleton]
  have hm := (Tri.give (b := b8) (us := [.fslice (lcs l) l.length, .slice b8 0 1 1]) (T := 9) (cs := [.str nm]) (nn := 1) (marked_tri l [nm]) (by simp [lsl, ssl, frzV, frz_lcs, scs])).frame [(b3, .cells 9 [.str []] 1)]
  have hm2 := @CallS.of_tri _ Tryz.prog 68 _ _ _ isGo68 hm
  simp only [List.singleton_append] at hm2
  refine wU (gCall (by rfl) (@CallS.mono _ Tryz.prog 68 _ _ _ _ hm2 ?_))
  rintro v h1 ⟨h2, rfl, ⟨rfl, rfl⟩, -⟩
  simp only [List.nil_append]
  refine wOps.done ?_
  refine hK7 _ _ _ ?_
  clear hK7 K6
  refine WC.block ?_
  refine WC.range (f := 94) (caps := markCaps l [nm]) (xs := l.map fun p => [lbv p, .bool ([nm].contains p.1)]) (fun k h => h = [(b3, .cells 9 [.str []] 1)] ∧ getL l nm = getL (l.drop k) nm) (fun c h => c = .ret ∧ h = [(b3, .cells 9 [.str (getL l nm)] 1)]) rfl isGo94 (marked1_iter l [nm] hl (by simp)) (by decide) (by intro a ha; obtain ⟨p, -, rfl⟩ := List.mem_map.1 ha; rfl) ?_ ?_ ?_ ?_
  · exact ⟨rfl, rfl⟩
  · intro y k hk h hI
    obtain ⟨rfl, hg⟩ := hI
    rw [List.length_map] at hk
    simp only [List.getElem_map]
    show WC _ _ _ _ (upd (upd _ 11 (lbv l[k])) 12 (.bool ([nm].contains l[k].1))) _ _ _
    unfold lbv
    refine WC.seq_k fun K9 hK10 => ?_
    refine WC.region ?_
    refine wU (gAlloc tzero51 fun b11 hb11 => ?_)
    simp only [Hp.ns_cons, Hp.ns_nil, List.mem_cons, List.not_mem_nil, or_false, not_or] at hb11
    refine wU (gStore rfl rfl (by simp only [hget, hb11, ↓reduceIte] <;> rfl) tsz51 (by simp [vcells]) (by simp [vcells, leafV]) ?_)
    simp only [hset, stL, vcells, List.set_cons_zero, List.set_cons_succ, hb11, ↓reduceIte]
    refine wOps.done ?_
    refine hK10 _ _ _ ?_
    clear hK10 K9
    refine WC.region ?_
    refine wU (gE rfl ?_)
    refine wOps.done ?_
    simp only [thn]
    refine WC.post ?_
    refine WC.block ?_
    refine WC.seq_k fun K12 hK13 => ?_
    refine WC.region ?_
    refine wU (gE rfl ?_)
    refine wOps.done ?_
    refine hK13 _ _ _ ?_
    clear hK13 K12
    refine WC.cond rfl (fun c14 => ?_) (fun c14 => ?_)
    · skip
      refine WC.seq_k fun K15 hK16 => ?_
      refine WC.region ?_
      refine wU (gField tfld51_1 tsz9 rfl ?_)
      refine wU (gLoad tagg9 rfl (by simp only [hget, hb11, ↓reduceIte] <;> rfl) rfl ?_)
      refine wU (gStore rfl rfl (by simp only [hget, hb11, ↓reduceIte] <;> rfl) tsz9 (by simp [vcells]) (by simp [vcells, leafV]) ?_)
      simp only [hset, stL, vcells, List.set_cons_zero, List.set_cons_succ, hb11, ↓reduceIte]
      refine wOps.done ?_
      refine hK16 _ _ _ ?_
      clear hK16 K15
      refine WC.ret ?_
      exact ⟨_, _, (Ent.sub (sub_nil _)).trans (Ent.drop (List.sublist_cons_self _ _)), rfl, by rw [hg, getL_step hk]; simp_all⟩
    · skip
      refine WC.skip ?_
      exact ⟨_, _, (Ent.sub (sub_nil _)).trans (Ent.drop (List.sublist_cons_self _ _)), rfl, by rw [hg, getL_step hk]; simp_all⟩
  · rintro r h hr ⟨rfl, hg⟩
    simp only [Hp.ns_cons, Hp.ns_nil, List.mem_cons, List.not_mem_nil, or_false, not_or] at hr
    refine hK5 _ _ _ ?_
    clear hK5 K4
    refine WC.seq_k fun K17 hK18 => ?_
    refine WC.region ?_
    refine wU (gStore rfl rfl (by simp only [hget, hr, ↓reduceIte] <;> rfl) tsz9 (by simp [vcells]) (by simp [vcells, leafV]) ?_)
    simp only [hset, stL, vcells, List.set_cons_zero, List.set_cons_succ, hr, ↓reduceIte]
    refine wOps.done ?_
    refine hK18 _ _ _ ?_
    clear hK18 K17
    refine WC.ret ?_
    refine ⟨by simp [hget], .str (getL l nm), ?_, rfl⟩
    first | (simp [resAll, resVs, resV, hdel, evLoad, hget, ldAt, tagg9, frA, upd, hset, stL, putL, hr]; done) | (simp [resAll, resVs, resV, hdel, evLoad, hget, ldAt, tagg9, frA, upd, hset, stL, putL, hr, hg, getL]; done)
  · rintro r h c hr ⟨rfl, rfl⟩
    simp only [Hp.ns_cons, Hp.ns_nil, List.mem_cons, List.not_mem_nil, or_false, not_or] at hr
    refine WC.ret ?_
    refine ⟨by simp [hget], .str (getL l nm), ?_, rfl⟩
    first | (simp [resAll, resVs, resV, hdel, evLoad, hget, ldAt, tagg9, frA, upd, hset, stL, putL, hr]; done) | (simp [resAll, resVs, resV, hdel, evLoad, hget, ldAt, tagg9, frA, upd, hset, stL, putL, hr, hg, getL]; done)
end Go.Proofs.YtfdmdcpopmcmcaaGreatDoor
end

section
namespace Go.Proofs.YtfdmdcpopmcmcaaGreatDoor
open Go.Fw
variable [Gl]
theorem isGo66 : isGo Tryz.prog 66 = true := by kernel_rfl
theorem isGo67 : isGo Tryz.prog 67 = true := by kernel_rfl
set_option maxRecDepth 20000
theorem fields_tri (s : By) : PTri Tryz.prog 30 [.str s] (.clo 65 [.fptr [.str s] 0]) := by
  have ht : Tri Tryz.prog 30 [.str s] [] fun v h' => ∃ b, v = .clo 65 [.ptr b 0] ∧ h' = [(b, .cells 9 [.str s] 1)] := by
    refine Tri.of_wc Tryz.func30 rfl Tryz.results30 Tryz.ntmps30 (by simp) ?_
    refine WC.seq_k fun K1 hK2 => ?_
    refine WC.region ?_
    refine wU (gBox rfl fun b3 hb3 => ?_)
    refine wU (gE rfl ?_)
    refine wOps.done ?_
    refine hK2 _ _ _ ?_
    clear hK2 K1
    refine WC.seq_k fun K4 hK5 => ?_
    refine WC.region ?_
    refine wU (gE rfl ?_)
    refine wU (gE rfl ?_)
    refine wOps.done ?_
    refine hK5 _ _ _ ?_
    clear hK5 K4
    refine WC.ret ?_
    exact ⟨_, rfl, _, rfl, rfl⟩
  refine Tri.vent ht ?_
  rintro v h' ⟨b1, rfl, rfl⟩
  refine ⟨_, _, .freeze b1 (by simp [hget]; exact ⟨rfl, rfl, rfl⟩) (.refl _ _), ?_, ?_⟩
  · simp [frzV, frzL]
  · simp [frzH, hdel]
abbrev fyV (x : Lb × Bool) : List V := [lbv x.1, .bool x.2]
theorem fields1_iter (hG : GInt) (s : By) (hs : s.length ≤ 4294967280) : IterC Tryz.prog 65 [.fptr [.str s] 0] ((fieldsL s).map fyV) := by
  intro y J S hy h0 hJ0
  generalize hxs : (fieldsL s).map fyV = xs at hy ⊢
  unfold fyV lbv at hxs
  refine Tri.of_wc Tryz.func65 rfl Tryz.results65 Tryz.ntmps65 (by simp) ?_
  refine WC.seq_k fun K1 hK2 => ?_
  refine WC.region ?_
  refine wU (gLoadF tagg9 rfl rfl ?_)
  have htr := trim_tri s
  rw [trim1] at htr
  refine wU (gPure rfl isGo66 htr ?_)
  refine wU (gE rfl ?_)
  refine wOps.done ?_
  refine hK2 _ _ _ ?_
  clear hK2 K1
  refine WC.block ?_
  refine WC.loopI (α := By × Nat × Nat × Hp) (fun a => [(0, .yield y), (3, .str a.1)]) (fun a => a.2.2.2) (fun a => a.1.length) (fun a => a.1.length ≤ a.2.1 ∧ a.1.length ≤ s.length ∧ a.1.head? ≠ some 32 ∧ a.2.2.1 ≤ xs.length ∧ (fieldsF a.2.1 a.1).map (fun x => [V.agg [.str x.1.1, .str x.1.2], V.bool x.2]) = xs.drop a.2.2.1 ∧ J a.2.2.1 a.2.2.2) (trimL s, (trimL s).length, 0, h0) ?_ ?_ ?_ ?_
  · exact sub_cons rfl (sub_cons rfl (sub_nil _))
  · exact Ent.refl _ _
  · exact ⟨Nat.le_refl _, trimL_le s, trimL_head s, Nat.zero_le _, by simpa [fieldsL] using hxs, hJ0⟩
  rintro ⟨rest, f, k, h⟩ ⟨hrf, hrs, hhd, hkx, hx, hJ⟩
  simp only at hrf hrs hhd hkx hx hJ ⊢
  refine WC.seq_k fun K3 hK4 => ?_
  refine WC.seq_k fun K5 hK6 => ?_
  refine WC.region ?_
  refine wU (gE rfl ?_)
  refine wU (gE rfl ?_)
  refine wOps.done ?_
  refine hK6 _ _ _ ?_
  clear hK6 K5
  refine WC.cond rfl (fun c7 => ?_) (fun c7 => ?_)
  · skip
    refine WC.skip ?_
    refine hK4 _ _ _ ?_
    clear hK4 K3
    refine WC.block ?_
    refine WC.seq_k fun K8 hK9 => ?_
    refine WC.region ?_
    refine wU (gE rfl ?_)
    have hne : rest ≠ [] := by simpa using c7
    obtain ⟨f, rfl⟩ : ∃ f0, f = f0 + 1 := ⟨f - 1, by have := List.length_pos_iff.2 hne; omega⟩
    have hft := field_tri hG rest (by omega)
    have hfs := fieldL_size rest
    rw [fieldsF, if_neg hne] at hx
    generalize fieldL rest = fl at hft hfs hx
    obtain ⟨⟨nm, v⟩, sz, ok⟩ := fl
    simp only at hft hfs hx
    refine wU (gPure rfl isGo67 hft ?_)
    refine wU (gE rfl ?_)
    refine wU (gE rfl ?_)
    refine wU (gE rfl ?_)
    refine wU (gE rfl ?_)
    refine wU (gAlloc tzero51 fun b10 hb10 => ?_)
    refine wU (gStore rfl rfl (by simp only [hget, ↓reduceIte] <;> rfl) tsz51 (by simp [vcells]) (by simp [vcells, leafV]) ?_)
    simp only [hset, stL, vcells, List.set_cons_zero, List.set_cons_succ, ↓reduceIte]
    refine wU (gE rfl ?_)
    refine wU (gE rfl ?_)
    refine wOps.done ?_
    refine hK9 _ _ _ ?_
    clear hK9 K8
    refine WC.seq_k fun K11 hK12 => ?_
    refine WC.seq_k fun K13 hK14 => ?_
    refine WC.region ?_
    refine wU (gE rfl ?_)
    refine wU (gE rfl ?_)
    refine wOps.done ?_
    refine hK14 _ _ _ ?_
    clear hK14 K13
    refine WC.cond rfl (fun c15 => ?_) (fun c15 => ?_)
    · skip
      refine WC.seq_k fun K16 hK17 => ?_
      refine WC.region ?_
      refine wU (gE rfl ?_)
      refine wU (gBuild rfl rfl ?_)
      have hok : ok = false := by simpa using c15
      subst hok
      simp only [if_true, List.map_cons, List.map_nil] at hx
      have hk : k < xs.length := by have := congrArg List.length hx; simp at this; omega
      have hk2 : xs.length = k + 1 := by have := congrArg List.length hx; simp at this; omega
      have hxk : xs[k] = [.agg [.str [], .str []], .bool false] := by have := congrArg (·[0]?) hx; simpa [hk] using this.symm
      have hyk := hy k hk h hJ
      rw [hxk] at hyk
      refine wU (gYield rfl rfl (YieldS.sub (List.sublist_cons_self _ _) (YieldS.b hyk fun b h1 hb1 hb2 => ?_)))
      refine wOps.done ?_
      refine hK17 _ _ _ ?_
      clear hK17 K16
      refine WC.ret ?_
      rcases b with _ | _
      · exact ⟨_, rfl, .inr (hb2 rfl)⟩
      · exact ⟨_, rfl, .inl (hk2 ▸ hb1 rfl)⟩
    · skip
      refine WC.skip ?_
      refine hK12 _ _ _ ?_
      clear hK12 K11
      refine WC.seq_k fun K18 hK19 => ?_
      refine WC.seq_k fun K20 hK21 => ?_
      refine WC.region ?_
      refine wU (gField tfld51_0 tsz9 rfl ?_)
      refine wU (gLoad tagg9 rfl (by simp only [hget, ↓reduceIte] <;> rfl) rfl ?_)
      refine wU (gE rfl ?_)
      refine wU (gE rfl ?_)
      refine wG rfl rfl rfl rfl (by decide) (fun c22 => ?_) (fun c22 => ?_)
      · skip
        refine gE rfl ?_
        refine wY rfl (gLoadA tagg51 tsz51 rfl (by simp only [hget, ↓reduceIte] <;> rfl) (by simp [putL]) rfl ?_)
        have hok : ok = true := by simpa using c15
        subst hok
        have hnm : nm ≠ [] := by simpa using c22
        rw [if_neg (by simp), if_pos hnm] at hx
        simp only [List.singleton_append, List.map_cons] at hx
        have hk : k < xs.length := by have := congrArg List.length hx; simp at this; omega
        have hxk : xs[k] = [.agg [.str nm, .str v], .bool true] := by have := congrArg (·[0]?) hx; simpa [hk] using this.symm
        have hyk := hy k hk h hJ
        rw [hxk] at hyk
        refine wY rfl (gYield rfl rfl (YieldS.sub (List.sublist_cons_self _ _) (YieldS.b hyk fun b h1 hb1 hb2 => ?_)))
        refine wY rfl (gE rfl ?_)
        refine wU (gE rfl ?_)
        refine wOps.done ?_
        refine hK21 _ _ _ ?_
        clear hK21 K20
        refine WC.cond rfl (fun c23 => ?_) (fun c23 => ?_)
        · skip
          refine WC.ret ?_
          exact ⟨_, rfl, .inr (hb2 (by simpa using c23))⟩
        · skip
          refine WC.skip ?_
          refine hK19 _ _ _ ?_
          clear hK19 K18
          refine WC.region ?_
          refine wU (gE rfl ?_)
          refine wU (gE rfl ?_)
          have hsz := hfs.2 rfl hne hhd
          have etk : (rest.drop sz).take (rest.length - sz) = rest.drop sz := List.take_of_length_le (by simp)
          have htl := trimL_le (rest.drop sz)
          rw [List.length_drop] at htl
          refine wU (gSliceStr (l := some sz) (r := none) tisstr9 rfl rfl rfl (by simp; omega) (by simp) ?_)
          have htr := trim_tri (rest.drop sz)
          rw [trim1] at htr
          rw [← etk] at htr
          refine wU (gPure (r := .str (trimL (rest.drop sz))) rfl isGo66 (by rw [etk] at htr; exact (congrArg (fun z => PTri Tryz.prog 66 [.str z, .str [32]] (.str (trimL (rest.drop sz)))) etk).mpr htr) ?_)
          refine wU (gE rfl ?_)
          refine wOps.done ?_
          exact ⟨(trimL (rest.drop sz), f, k + 1, h1), rfl, by simp only; omega, ⟨by simp only; omega, by simp only; omega, trimL_head _, by simp only; omega, by have := congrArg List.tail hx; simpa using this, hb1 (by simpa using c23)⟩, Ent.sub (sub_cons rfl (sub_cons rfl (sub_nil _)))⟩
      · skip
        refine wN rfl ?_
        refine wN rfl ?_
        refine wN rfl ?_
        refine wU (gE rfl ?_)
        refine wOps.done ?_
        refine hK21 _ _ _ ?_
        clear hK21 K20
        first | refine WC.cond (b := false) rfl (fun hh => by simp at hh) (fun _ => ?_) | refine WC.cond rfl (fun hh => by simp_all) (fun _ => ?_)
        refine WC.skip ?_
        refine hK19 _ _ _ ?_
        clear hK19 K18
        refine WC.region ?_
        refine wU (gE rfl ?_)
        refine wU (gE rfl ?_)
        have hok : ok = true := by simpa using c15
        subst hok
        have hnm : nm = [] := by simpa using c22
        rw [if_neg (by simp), if_neg (by simp [hnm])] at hx
        rw [List.nil_append] at hx
        have hsz := hfs.2 rfl hne hhd
        have etk : (rest.drop sz).take (rest.length - sz) = rest.drop sz := List.take_of_length_le (by simp)
        have htl := trimL_le (rest.drop sz)
        rw [List.length_drop] at htl
        refine wU (gSliceStr (l := some sz) (r := none) tisstr9 rfl rfl rfl (by simp; omega) (by simp) ?_)
        have htr := trim_tri (rest.drop sz)
        rw [trim1] at htr
        rw [← etk] at htr
        refine wU (gPure (r := .str (trimL (rest.drop sz))) rfl isGo66 (by rw [etk] at htr; exact (congrArg (fun z => PTri Tryz.prog 66 [.str z, .str [32]] (.str (trimL (rest.drop sz)))) etk).mpr htr) ?_)
        refine wU (gE rfl ?_)
        refine wOps.done ?_
        exact ⟨(trimL (rest.drop sz), f, k, h), rfl, by simp only; omega, ⟨by simp only; omega, by simp only; omega, trimL_head _, by simp only; omega, hx, hJ⟩, (Ent.sub (sub_cons rfl (sub_cons rfl (sub_nil _)))).trans (Ent.drop (List.sublist_cons_self _ _))⟩
  · skip
    refine WC.exit ?_
    have hr0 : rest = [] := by simpa using c7
    subst hr0
    rw [fieldsF_nil] at hx
    have hk2 : k = xs.length := by have := congrArg List.length hx; simp at this; omega
    exact ⟨_, rfl, .inl (hk2 ▸ hJ)⟩
end Go.Proofs.YtfdmdcpopmcmcaaGreatDoor
end

section
namespace Go.Proofs.YtfdmdcpopmcmcaaGreatDoor
open Go.Fw
variable [Gl]
theorem isGo43 : isGo Tryz.prog 43 = true := by kernel_rfl
theorem isGo76 : isGo Tryz.prog 76 = true := by kernel_rfl
set_option maxRecDepth 20000
abbrev spB (c : UInt8) : Bool := c == 32 || c == 10
/-- strings.ContainsAny of a blank and the end of a line, at s. -/
def CA (s : By) : Prop := PTri Tryz.prog 76 [.str s, .str [32, 10]] (.bool (s.any spB))
theorem esc_step {s : By} {i : Nat} (h : i < s.length) : (s.take (i + 1)).flatMap escB = (s.take i).flatMap escB ++ escB s[i] := by
  rw [List.take_succ_eq_append_getElem h, List.flatMap_append]; simp
theorem plain_of (s : By) : plainV s = (!(s.any spB) && !(s.head? == some 34)) := rfl
theorem appV_tri (o : BS) (acc s : By) (hca : CA s) (ho : o = none → acc = []) (ha : acc.length ≤ 4294967295) (hs : s.length ≤ 4294967295) : Tri Tryz.prog 43 [bsV o acc, .str s] (bsH 5 o acc) fun v h' => ∃ o', v = bsV o' (acc ++ quoteV s) ∧ h' = bsH 5 o' (acc ++ quoteV s) ∧ (o' = none → acc ++ quoteV s = []) := by
  have ht : Tri Tryz.prog 43 [bsV o acc, .str s] (bsH 5 o acc) fun v h' => ∃ o' hx, v = bsV o' (acc ++ quoteV s) ∧ h' = bsH 5 o' (acc ++ quoteV s) ++ hx ∧ (o' = none → acc ++ quoteV s = []) := by
    have h3 := pre_tri s [34]
    rw [pre1] at h3
    have hpl := plain_of s
    unfold CA at hca
    generalize s.any spB = sa at hca hpl
    generalize (s.head? == some 34) = sq at h3 hpl
    refine Tri.of_wc Tryz.func43 rfl Tryz.results43 Tryz.ntmps43 (by simp) ?_
    refine WC.seq_k fun K1 hK2 => ?_
    refine WC.region ?_
    refine wU (gE rfl ?_)
    refine wOps.done ?_
    refine hK2 _ _ _ ?_
    clear hK2 K1
    refine WC.seq_cut (α := Unit) (fun _ => [(0, bsV o acc), (1, .str s)]) (fun _ => bsH 5 o acc) (fun _ => plainV s = false) ?_ ?_
    · skip
      refine WC.seq_k fun K3 hK4 => ?_
      refine WC.region ?_
      refine wU (gE rfl ?_)
      refine wU (gPure rfl isGo76 hca ?_)
      refine wU (gE rfl ?_)
      refine wU (gE rfl ?_)
      refine wG rfl rfl rfl rfl (by decide) (fun c5 => ?_) (fun c5 => ?_)
      · skip
        refine gE rfl ?_
        refine wY rfl (gPure rfl isGo77 h3 ?_)
        refine wY rfl (gE rfl ?_)
        refine wU (gE rfl ?_)
        refine wOps.done ?_
        refine hK4 _ _ _ ?_
        clear hK4 K3
        refine WC.cond rfl (fun c6 => ?_) (fun c6 => ?_)
        · skip
          refine WC.seq_k fun K7 hK8 => ?_
          refine WC.region ?_
          refine wU (gE rfl ?_)
          refine wU (gE rfl ?_)
          refine wU (gOp (OpS.appBs (s := o) (acc := acc) (bs := s) (hx := []) ⟨rfl⟩ el66 appT9 rfl rfl rfl (fun q N e => by simp) ho rfl (by omega) fun o2 ho2 ho3 => ?_) rfl)
          refine wU (gE rfl ?_)
          refine wOps.done ?_
          refine hK8 _ _ _ ?_
          clear hK8 K7
          refine WC.ret ?_
          have hq : quoteV s = s := by unfold quoteV; rw [if_pos (by rw [hpl]; simp_all)]
          rw [hq]
          exact ⟨_, rfl, o2, [], rfl, by simp, ho3⟩
        · skip
          refine WC.skip ?_
          exact ⟨(), rfl, by rw [hpl]; simp_all, Ent.sub (sub_cons rfl (sub_cons rfl (sub_nil _)))⟩
      · skip
        refine wN rfl ?_
        refine wN rfl ?_
        refine wU (gE rfl ?_)
        refine wOps.done ?_
        refine hK4 _ _ _ ?_
        clear hK4 K3
        first | refine WC.cond (b := false) rfl (fun hh => by simp at hh) (fun _ => ?_) | refine WC.cond rfl (fun hh => by simp_all) (fun _ => ?_)
        refine WC.skip ?_
        exact ⟨(), rfl, by rw [hpl]; simp_all, Ent.sub (sub_cons rfl (sub_cons rfl (sub_nil _)))⟩
    rintro ⟨⟩ hpl2
    refine WC.seq_k fun K9 hK10 => ?_
    refine WC.region ?_
    refine wU (gE rfl ?_)
    refine wU (gBuildSlice (cs := [.int .u8 34]) tslice66 tsz5 tzero5 rfl (by simp [evFill, putL, zcells, vcells]) (by decide) (by decide) fun b11 hb11 => ?_)
    refine wU (gOp (OpS.appBs (s := o) (acc := acc) (bs := [34]) (hx := [(b11, .cells 5 [.int .u8 34] 1)]) ⟨rfl⟩ el66 appT66 rfl rfl rfl (fun q N e => by subst e; simp [bsH] at hb11; simp; exact fun e => hb11 e.symm) ho (by simp [evSrc, hget, byteCells]) (by simp only [List.length_cons, List.length_nil]; omega) fun o1 ho1 ho1n => ?_) rfl)
    refine wU (gE rfl ?_)
    refine wOps.done ?_
    refine hK10 _ _ _ ?_
    clear hK10 K9
    refine WC.seq_k fun K12 hK13 => ?_
    refine WC.seq_k fun K14 hK15 => ?_
    refine WC.region ?_
    refine wU (gE rfl ?_)
    refine wOps.done ?_
    refine hK15 _ _ _ ?_
    clear hK15 K14
    refine WC.block ?_
    refine WC.loopI (α := Nat × By × BS) (fun a => [(0, bsV a.2.2 a.2.1), (1, .str s), (5, .int .i64 a.1)]) (fun a => bsH 5 a.2.2 a.2.1) (fun a => s.length - a.1) (fun a => a.1 ≤ s.length ∧ a.2.1 = acc ++ 34 :: (s.take a.1).flatMap escB ∧ a.2.1.length ≤ acc.length + 1 + 2 * a.1 ∧ (a.2.2 = none → a.2.1 = [])) (0, acc ++ [34], o1) ?_ ?_ ?_ ?_
    · exact sub_cons rfl (sub_cons rfl (sub_cons rfl (sub_nil _)))
    · exact Ent.drop (List.sublist_append_left _ _)
    · exact ⟨Nat.zero_le _, by simp, by simp, ho1n⟩
    rintro ⟨i, X, o2⟩ ⟨his, hX, hXl, ho2⟩
    simp only at his hX hXl ho2 ⊢
    refine WC.seq_k fun K16 hK17 => ?_
    refine WC.seq_k fun K18 hK19 => ?_
    refine WC.region ?_
    refine wU (gE rfl ?_)
    refine wU (gE rfl ?_)
    refine wU (gLen rfl rfl tisstr9 ?_)
    refine wU (gE rfl ?_)
    refine wOps.done ?_
    refine hK19 _ _ _ ?_
    clear hK19 K18
    refine WC.cond rfl (fun c20 => ?_) (fun c20 => ?_)
    · skip
      refine WC.skip ?_
      refine hK17 _ _ _ ?_
      clear hK17 K16
      refine WC.seq_k fun K21 hK22 => ?_
      refine WC.block ?_
      refine WC.seq_k fun K23 hK24 => ?_
      refine WC.region ?_
      refine wU (gE rfl ?_)
      refine wU (gE rfl ?_)
      have hi : i < s.length := by simpa using c20
      refine wU (gIdxStr tisstr9 rfl rfl (by omega) (str_at hi) ?_)
      refine wOps.done ?_
      refine hK24 _ _ _ ?_
      clear hK24 K23
      refine WC.block ?_
      refine WC.seq_k fun K25 hK26 => ?_
      refine WC.seq_k fun K27 hK28 => ?_
      refine WC.region ?_
      refine wU (gE rfl ?_)
      refine wU (gE rfl ?_)
      refine wOps.done ?_
      refine hK28 _ _ _ ?_
      clear hK28 K27
      refine WC.cond rfl (fun c29 => ?_) (fun c29 => ?_)
      · skip
        refine WC.skip ?_
        refine hK26 _ _ _ ?_
        clear hK26 K25
        first | refine WC.cond (b := true) rfl (fun _ => ?_) (fun hh => by simp at hh) | refine WC.cond rfl (fun _ => ?_) (fun hh => by simp_all)
        refine WC.region ?_
        refine wU (gE rfl ?_)
        refine wU (gE rfl ?_)
        refine wU (gE rfl ?_)
        refine wU (gIdxStr tisstr9 rfl rfl (by omega) (str_at hi) ?_)
        refine wU (gBuildSlice (cs := [.int .u8 92, .int .u8 s[i].toNat]) tslice66 tsz5 tzero5 rfl (by simp [evFill, putL, zcells, vcells]) (by decide) (by decide) fun b30 hb30 => ?_)
        refine wU (gOp (OpS.appBs (s := o2) (acc := X) (bs := [92, s[i]]) (hx := [(b30, .cells 5 [.int .u8 92, .int .u8 s[i].toNat] 2)]) ⟨rfl⟩ el66 appT66 rfl rfl rfl (fun q N e => by subst e; simp [bsH] at hb30; simp; exact fun e => hb30 e.symm) ho2 (by simp [evSrc, hget, byteCells]) (by simp only [List.length_cons, List.length_nil]; omega) fun o3 ho3 ho3n => ?_) rfl)
        refine wU (gE rfl ?_)
        refine wOps.done ?_
        refine hK22 _ _ _ ?_
        clear hK22 K21
        refine WC.region ?_
        refine wU (gE rfl ?_)
        refine wU (gE rfl ?_)
        refine wU (gE rfl ?_)
        refine wOps.done ?_
        have he : escB s[i] = [92, s[i]] := by unfold escB; rw [if_pos (by simp_all [u8_34, u8_92])]
        exact ⟨(i + 1, X ++ [92, s[i]], o3), rfl, by simp only; omega, ⟨by simp only; omega, by simp only [esc_step hi, he, hX]; simp, by simp; omega, ho3n⟩, (Ent.sub (sub_cons rfl (sub_cons rfl (sub_cons (int_fit (by omega) (by omega) (by omega)) (sub_nil _))))).trans (Ent.drop (List.sublist_append_left _ _))⟩
      · skip
        refine WC.region ?_
        refine wU (gE rfl ?_)
        refine wU (gE rfl ?_)
        refine wOps.done ?_
        refine hK26 _ _ _ ?_
        clear hK26 K25
        refine WC.cond rfl (fun c31 => ?_) (fun c31 => ?_)
        · skip
          refine WC.region ?_
          refine wU (gE rfl ?_)
          refine wU (gE rfl ?_)
          refine wU (gE rfl ?_)
          refine wU (gIdxStr tisstr9 rfl rfl (by omega) (str_at hi) ?_)
          refine wU (gBuildSlice (cs := [.int .u8 92, .int .u8 s[i].toNat]) tslice66 tsz5 tzero5 rfl (by simp [evFill, putL, zcells, vcells]) (by decide) (by decide) fun b32 hb32 => ?_)
          refine wU (gOp (OpS.appBs (s := o2) (acc := X) (bs := [92, s[i]]) (hx := [(b32, .cells 5 [.int .u8 92, .int .u8 s[i].toNat] 2)]) ⟨rfl⟩ el66 appT66 rfl rfl rfl (fun q N e => by subst e; simp [bsH] at hb32; simp; exact fun e => hb32 e.symm) ho2 (by simp [evSrc, hget, byteCells]) (by simp only [List.length_cons, List.length_nil]; omega) fun o3 ho3 ho3n => ?_) rfl)
          refine wU (gE rfl ?_)
          refine wOps.done ?_
          refine hK22 _ _ _ ?_
          clear hK22 K21
          refine WC.region ?_
          refine wU (gE rfl ?_)
          refine wU (gE rfl ?_)
          refine wU (gE rfl ?_)
          refine wOps.done ?_
          have he : escB s[i] = [92, s[i]] := by unfold escB; rw [if_pos (by simp_all [u8_34, u8_92])]
          exact ⟨(i + 1, X ++ [92, s[i]], o3), rfl, by simp only; omega, ⟨by simp only; omega, by simp only [esc_step hi, he, hX]; simp, by simp; omega, ho3n⟩, (Ent.sub (sub_cons rfl (sub_cons rfl (sub_cons (int_fit (by omega) (by omega) (by omega)) (sub_nil _))))).trans (Ent.drop (List.sublist_append_left _ _))⟩
        · skip
          refine WC.seq_k fun K33 hK34 => ?_
          refine WC.region ?_
          refine wU (gE rfl ?_)
          refine wU (gE rfl ?_)
          refine wOps.done ?_
          refine hK34 _ _ _ ?_
          clear hK34 K33
          refine WC.cond rfl (fun c35 => ?_) (fun c35 => ?_)
          · skip
            refine WC.region ?_
            refine wU (gE rfl ?_)
            refine wU (gBuildSlice (cs := [.int .u8 92, .int .u8 110]) tslice66 tsz5 tzero5 rfl (by simp [evFill, putL, zcells, vcells]) (by decide) (by decide) fun b36 hb36 => ?_)
            refine wU (gOp (OpS.appBs (s := o2) (acc := X) (bs := [92, 110]) (hx := [(b36, .cells 5 [.int .u8 92, .int .u8 110] 2)]) ⟨rfl⟩ el66 appT66 rfl rfl rfl (fun q N e => by subst e; simp [bsH] at hb36; simp; exact fun e => hb36 e.symm) ho2 (by simp [evSrc, hget, byteCells]) (by simp only [List.length_cons, List.length_nil]; omega) fun o3 ho3 ho3n => ?_) rfl)
            refine wU (gE rfl ?_)
            refine wOps.done ?_
            refine hK22 _ _ _ ?_
            clear hK22 K21
            refine WC.region ?_
            refine wU (gE rfl ?_)
            refine wU (gE rfl ?_)
            refine wU (gE rfl ?_)
            refine wOps.done ?_
            have he : escB s[i] = [92, 110] := by unfold escB; rw [if_neg (by rintro (e | e) <;> simp [e] at *), if_pos (by simpa [u8_10] using c35)]
            exact ⟨(i + 1, X ++ [92, 110], o3), rfl, by simp only; omega, ⟨by simp only; omega, by simp only [esc_step hi, he, hX]; simp, by simp; omega, ho3n⟩, (Ent.sub (sub_cons rfl (sub_cons rfl (sub_cons (int_fit (by omega) (by omega) (by omega)) (sub_nil _))))).trans (Ent.drop (List.sublist_append_left _ _))⟩
          · skip
            refine WC.region ?_
            refine wU (gE rfl ?_)
            refine wU (gE rfl ?_)
            refine wU (gE rfl ?_)
            refine wU (gIdxStr tisstr9 rfl rfl (by omega) (str_at hi) ?_)
            refine wU (gBuildSlice (cs := [.int .u8 s[i].toNat]) tslice66 tsz5 tzero5 rfl (by simp [evFill, putL, zcells, vcells]) (by decide) (by decide) fun b37 hb37 => ?_)
            refine wU (gOp (OpS.appBs (s := o2) (acc := X) (bs := [s[i]]) (hx := [(b37, .cells 5 [.int .u8 s[i].toNat] 1)]) ⟨rfl⟩ el66 appT66 rfl rfl rfl (fun q N e => by subst e; simp [bsH] at hb37; simp; exact fun e => hb37 e.symm) ho2 (by simp [evSrc, hget, byteCells]) (by simp only [List.length_cons, List.length_nil]; omega) fun o3 ho3 ho3n => ?_) rfl)
            refine wU (gE rfl ?_)
            refine wOps.done ?_
            refine hK22 _ _ _ ?_
            clear hK22 K21
            refine WC.region ?_
            refine wU (gE rfl ?_)
            refine wU (gE rfl ?_)
            refine wU (gE rfl ?_)
            refine wOps.done ?_
            have he : escB s[i] = [s[i]] := by unfold escB; rw [if_neg (by rintro (e | e) <;> simp [e] at *), if_neg (by intro e; simp [e] at *)]
            exact ⟨(i + 1, X ++ [s[i]], o3), rfl, by simp only; omega, ⟨by simp only; omega, by simp only [esc_step hi, he, hX]; simp, by simp; omega, ho3n⟩, (Ent.sub (sub_cons rfl (sub_cons rfl (sub_cons (int_fit (by omega) (by omega) (by omega)) (sub_nil _))))).trans (Ent.drop (List.sublist_append_left _ _))⟩
    · skip
      refine WC.exit ?_
      refine hK13 _ _ _ ?_
      clear hK17 K16 hK13 K12
      refine WC.seq_k fun K38 hK39 => ?_
      refine WC.region ?_
      refine wU (gE rfl ?_)
      refine wU (gBuildSlice (cs := [.int .u8 34]) tslice66 tsz5 tzero5 rfl (by simp [evFill, putL, zcells, vcells]) (by decide) (by decide) fun b40 hb40 => ?_)
      refine wU (gOp (OpS.appBs (s := o2) (acc := X) (bs := [34]) (hx := [(b40, .cells 5 [.int .u8 34] 1)]) ⟨rfl⟩ el66 appT66 rfl rfl rfl (fun q N e => by subst e; simp [bsH] at hb40; simp; exact fun e => hb40 e.symm) ho2 (by simp [evSrc, hget, byteCells]) (by simp only [List.length_cons, List.length_nil]; omega) fun o4 ho4 ho4n => ?_) rfl)
      refine wU (gE rfl ?_)
      refine wOps.done ?_
      refine hK39 _ _ _ ?_
      clear hK39 K38
      refine WC.ret ?_
      have hq : quoteV s = 34 :: (s.flatMap escB ++ [34]) := by unfold quoteV; rw [if_neg (by rw [hpl2]; simp)]
      have hq2 : X ++ [34] = acc ++ quoteV s := by rw [hq, hX, List.take_of_length_le (by have := of_decide_eq_false c20; omega)]; simp
      rw [← hq2]
      exact ⟨_, rfl, o4, _, rfl, rfl, ho4n⟩
  refine Tri.vent ht ?_
  rintro v h' ⟨o', hx, rfl, rfl, hn⟩
  exact ⟨_, _, .drop (List.sublist_append_left _ _) (.refl _ _), o', rfl, rfl, hn⟩
end Go.Proofs.YtfdmdcpopmcmcaaGreatDoor
end

section
namespace Go.Proofs.YtfdmdcpopmcmcaaGreatDoor
open Go.Fw
theorem le_tr {a b c : By} (h : a ≤ b) (h' : b ≤ c) : a ≤ c := List.le_trans h h'
theorem le_anti {a b : By} (h : a ≤ b) (h' : b ≤ a) : a = b := List.le_antisymm h h'
theorem lt_le {a b : By} (h : a < b) : a ≤ b := List.le_of_lt h
theorem lt_ne {a b : By} (h : a ≤ b) (hn : a ≠ b) : a < b := Classical.byContradiction fun h1 => hn (le_anti h (by simpa using h1))
theorem lt_irr {a : By} (h : a < a) : False := List.lt_irrefl a h
theorem lt_tr {a b c : By} (h : a < b) (h' : b < c) : a < c := List.lt_trans h h'
theorem not_both {a b : By} (h : a < b) (h' : b ≤ a) : False := by
  have := le_anti (lt_le h) h'
  subst this
  exact lt_irr h
theorem bl_iff (x y : By) : Op.bytesLess x y = true ↔ x < y := by rw [Go.Proofs.bytesLess_eq]; simp
theorem late_iff (q x : By) : lateB (some q) x = true ↔ x ≤ q := by
  simp only [lateB, Bool.or_eq_true, bl_iff, beq_iff_eq]
  constructor
  · rintro (h | rfl)
    · exact lt_le h
    · exact List.le_refl _
  · intro h
    by_cases e : x = q
    · exact .inr e
    · exact .inl (lt_ne h e)
theorem late_no (q x : By) : lateB (some q) x = false ↔ q < x := by
  rw [← Bool.not_eq_true, late_iff]
  constructor
  · intro h
    have h1 : q ≤ x := by rcases List.le_total q x with h1 | h1; exact h1; exact absurd h1 h
    exact lt_ne h1 fun e => h (e ▸ List.le_refl _)
  · exact fun h h1 => not_both h h1
theorem chkG_iff : ∀ (l : List Lb) (prev : Option By), chkG prev l = 0 ↔ (∀ p ∈ l, isNm p.1 = true ∧ p.2 ≠ [] ∧ p.2.length ≤ 200) ∧ l.Pairwise (fun x y => x.1 < y.1) ∧ ∀ q, prev = some q → ∀ p ∈ l, q < p.1
  | [], prev => by simp [chkG]
  | p :: l, prev => by
    simp only [chkG]
    by_cases h1 : isNm p.1 = false
    · rw [if_pos h1]; simp [h1]
    rw [if_neg h1]
    have h1' : isNm p.1 = true := by simpa using h1
    by_cases h2 : p.2 = []
    · rw [if_pos h2]; simp [h2]
    rw [if_neg h2]
    by_cases h3 : 200 < p.2.length
    · rw [if_pos h3]
      constructor
      · intro h; simp at h
      · rintro ⟨h, -, -⟩
        have := (h p (by simp)).2.2
        omega
    rw [if_neg h3]
    by_cases h4 : lateB prev p.1 = true
    · rw [if_pos h4]
      constructor
      · intro h; simp at h
      · rintro ⟨-, -, h⟩
        cases prev with
        | none => simp [lateB] at h4
        | some q =>
          have := h q rfl p (by simp)
          rw [← late_no] at this
          rw [this] at h4; simp at h4
    · rw [if_neg h4, chkG_iff l (some p.1)]
      simp only [List.mem_cons, List.pairwise_cons]
      constructor
      · rintro ⟨g1, g2, g3⟩
        refine ⟨fun x hx => ?_, ⟨fun x hx => g3 _ rfl x hx, g2⟩, fun q hq x hx => ?_⟩
        · rcases hx with rfl | hx
          · exact ⟨h1', h2, by omega⟩
          · exact g1 x hx
        · subst hq
          have hqp : q < p.1 := (late_no q p.1).1 (by simpa using h4)
          rcases hx with rfl | hx
          · exact hqp
          · exact lt_tr hqp (g3 _ rfl x hx)
      · rintro ⟨g1, ⟨g2, g3⟩, g4⟩
        exact ⟨fun x hx => g1 x (.inr hx), g3, fun q hq x hx => by simp at hq; subst hq; exact g2 x hx⟩
/-- A valid label set. -/
theorem chkL_iff (l : List Lb) : chkL l = 0 ↔ l.length ≤ 16 ∧ (∀ p ∈ l, isNm p.1 = true ∧ p.2 ≠ [] ∧ p.2.length ≤ 200) ∧ l.Pairwise (fun x y => x.1 < y.1) := by
  unfold chkL
  by_cases h : 16 < l.length
  · rw [if_pos h]
    constructor
    · intro h; simp at h
    · rintro ⟨h1, -⟩; omega
  · rw [if_neg h, chkG_iff]
    constructor
    · rintro ⟨h1, h2, -⟩; exact ⟨by omega, h1, h2⟩
    · rintro ⟨-, h1, h2⟩; exact ⟨h1, h2, fun q hq => by simp at hq⟩
theorem isNm_len {s : By} (h : isNm s = true) : 1 ≤ s.length ∧ s.length ≤ 60 := by
  unfold isNm at h
  simp only [Bool.and_eq_true, decide_eq_true_eq] at h
  exact ⟨h.1.1.1, h.1.1.2⟩
theorem isNm_all {s : By} (h : isNm s = true) : s.all (fun c => isNB c.toNat) = true := by
  unfold isNm at h
  simp only [Bool.and_eq_true] at h
  exact h.2
end Go.Proofs.YtfdmdcpopmcmcaaGreatDoor
end
