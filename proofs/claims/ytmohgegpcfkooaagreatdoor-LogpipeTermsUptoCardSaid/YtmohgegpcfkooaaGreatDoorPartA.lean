/- A part of the proof: L0, L1, L2, L3, L4, L5, L9, L10, L11, L12, L13, L14, LShelf, M1, M2, M3, M4, M5, M6, M7, M8, M9, M10, M11, M12, M13, M14, M15, N1, N2, N3, N4, LRD, N5, N6, N7, M16, N8, LRB, QVD, QV1, LRE, QV11, QV19, QV2, QV20, QV21, QV22, QV3, QV4, QV40, QV41, QV42, QV43, QV5, QV6, QV7, QV44, QV45, QV46, QV47, QV48, QV49, QV50, QV51 -/
import Derived.Test.YtmohgegpcfkooaaGreatDoorFwRow
import Derived.KernelRfl
import Derived.Sort.Walk0
import Derived.Test.YtmohgegpcfkooaaGreatDoorProg
import Derived.Shelf.Slices.Cells
import Derived.Shelf.Small.Strs
import Derived.Shelf.LaysM
import Derived.Shelf.Strings.Search1
import Derived.Shelf.Strings.Search3
import Derived.Shelf.Sort.Plain
import Derived.Shelf.Slices.CompactS
import Derived.Shelf.Slices.In.SortNone
import Derived.Lib.Index
import Derived.Lib.IndexMore
import Derived.Test.YtmohgegpcfkooaaGreatDoorCards
import Derived.Test.YtmohgegpcfkooaaGreatDoorTie
import Derived.WalkKit
import Derived.ProofKit
import Derived.OpenShut
import Derived.Deep.DeepHandedRow
import Derived.Deep.SlicePairs
import Derived.Carry
import Derived.Lib.LaidTab
import Derived.Lib.Fields
import Derived.Deep.DeepLaidRun
import Derived.Deep.DeepWitnessRowRef
set_option linter.all false
set_option linter.unusedSectionVars false
set_option linter.unusedVariables false
set_option linter.unusedSimpArgs false
section
namespace Go.Proofs.YtmohgegpcfkooaaGreatDoor
open Go.Fw
variable [Gl]
set_option maxRecDepth 20000
set_option maxHeartbeats 4000000
abbrev By := List UInt8
abbrev nI (n : Int) : V := .int .i64 n
theorem mlt {n i : Nat} (h : i < n) : n - (i + 1) < n - i := by omega
def big : Nat := 4194304
theorem isucc {i : Nat} (h : i < 4611686018427387904) : some (V.int .i64 (IntKind.i64.wrap ((i : Int) + 1))) = some (V.int .i64 ((i + 1 : Nat) : Int)) := int_fit (by omega) (by omega) (by omega)
theorem ltc {i n : Nat} (c : decide ((i : Int) < (n : Int)) = true) : i < n := by simpa using c
theorem gec {i n : Nat} (c : decide ((i : Int) < (n : Int)) = false) : n ≤ i := by simpa using c
theorem nIeq {a b : Int} (h : a = b) : some (V.int .i64 a) = some (V.int .i64 b) := by rw [h]
theorem bIeq {a b : Bool} (h : a = b) : some (V.bool a) = some (V.bool b) := by rw [h]
theorem mixed : Tryz.prog.follows .mixedOrders = true := by kernel_rfl
structure Lb where
  name : By
  value : By
def lbC (x : Lb) : List V := [.str x.name, .str x.value]
abbrev lbV' (x : Lb) : V := .agg (lbC x)
theorem ldL {l : List Lb} {i : Nat} (hi : i < l.length) : ldAt Tryz.prog 64 (cat lbC l) (i * 2) = some (lbV' l[i]) := ld_cat (enc := lbC) (fun _ => rfl) hi (by kernel_rfl) (by kernel_rfl)
end Go.Proofs.YtmohgegpcfkooaaGreatDoor
end

section
namespace Go.Proofs.YtmohgegpcfkooaaGreatDoor
open Go.Fw
variable [Gl]
set_option maxRecDepth 20000
set_option maxHeartbeats 4000000
end Go.Proofs.YtmohgegpcfkooaaGreatDoor
end

section
namespace Go.Proofs.YtmohgegpcfkooaaGreatDoor
open Go.Fw
variable [Gl]
set_option maxRecDepth 20000
set_option maxHeartbeats 4000000
end Go.Proofs.YtmohgegpcfkooaaGreatDoor
end

section
namespace Go.Proofs.YtmohgegpcfkooaaGreatDoor
open Go.Fw
variable [Gl]
set_option maxRecDepth 20000
set_option maxHeartbeats 4000000
end Go.Proofs.YtmohgegpcfkooaaGreatDoor
end

section
namespace Go.Proofs.YtmohgegpcfkooaaGreatDoor
open Go.Fw
variable [Gl]
set_option maxRecDepth 20000
set_option maxHeartbeats 4000000
end Go.Proofs.YtmohgegpcfkooaaGreatDoor
end

section
namespace Go.Proofs.YtmohgegpcfkooaaGreatDoor
open Go.Fw
variable [Gl]
set_option maxRecDepth 20000
set_option maxHeartbeats 4000000
end Go.Proofs.YtmohgegpcfkooaaGreatDoor
end

section
namespace Go.Proofs.YtmohgegpcfkooaaGreatDoor
open Go.Fw
variable [Gl]
set_option maxRecDepth 20000
set_option maxHeartbeats 4000000
end Go.Proofs.YtmohgegpcfkooaaGreatDoor
end

section
namespace Go.Proofs.YtmohgegpcfkooaaGreatDoor
open Go.Fw
variable [Gl]
set_option maxRecDepth 20000
set_option maxHeartbeats 4000000
end Go.Proofs.YtmohgegpcfkooaaGreatDoor
end

section
namespace Go.Proofs.YtmohgegpcfkooaaGreatDoor
open Go.Fw
variable [Gl]
set_option maxRecDepth 20000
set_option maxHeartbeats 4000000
end Go.Proofs.YtmohgegpcfkooaaGreatDoor
end

section
namespace Go.Proofs.YtmohgegpcfkooaaGreatDoor
open Go.Fw
variable [Gl]
set_option maxRecDepth 20000
set_option maxHeartbeats 4000000
end Go.Proofs.YtmohgegpcfkooaaGreatDoor
end

section
namespace Go.Proofs.YtmohgegpcfkooaaGreatDoor
open Go.Fw
variable [Gl]
set_option maxRecDepth 20000
set_option maxHeartbeats 4000000
end Go.Proofs.YtmohgegpcfkooaaGreatDoor
end

section
namespace Go.Proofs.YtmohgegpcfkooaaGreatDoor
open Go.Fw
variable [Gl]
set_option maxRecDepth 20000
set_option maxHeartbeats 4000000
end Go.Proofs.YtmohgegpcfkooaaGreatDoor
end

section
namespace Go.Proofs
open Go.Shelf
def Tryz.lays137_ren : Go.Shelf.Ren := ⟨fun | 137 => 246 | 217 => 113 | 266 => 149 | n => n, fun | 9 => 9 | 5 => 5 | 3 => 3 | n => n, fun | n => n⟩
theorem Tryz.lays137 : Go.Proofs.Lays.n137 Tryz.prog Tryz.lays137_ren := {
  mixed := by kernel_rfl
  f137 := Tryz.func246.trans (congrArg some (by kernel_rfl))
  f217 := Tryz.func113.trans (congrArg some (by kernel_rfl))
  f266 := Tryz.func149.trans (congrArg some (by kernel_rfl))
  t3 := Tryz.underlying3
  a3 := Tryz.isAgg3
  z3 := Tryz.sizeOf3
  v3 := Tryz.zeroValue3
  t5 := Tryz.underlying5
  a5 := Tryz.isAgg5
  z5 := Tryz.sizeOf5
  v5 := Tryz.zeroValue5
  t9 := Tryz.underlying9
  a9 := Tryz.isAgg9
  z9 := Tryz.sizeOf9
  v9 := Tryz.zeroValue9 }
open Go.RowKit in
theorem Tryz.strings_IndexByte (s : ByteArray) (c : Int) (w : World) :
    Calls Tryz.prog 246 #[.string s, .int .u8 c] w fun e w' => e = .returned (.int .i64 (Lib.indexByte s.data.toList c.toNat.toUInt8)) ∧ w' = w := Any.strings_IndexByte Tryz.lays137 s c w
def Tryz.lays217_ren : Go.Shelf.Ren := ⟨fun | 217 => 113 | 266 => 149 | n => n, fun | 9 => 9 | 5 => 5 | 3 => 3 | n => n, fun | n => n⟩
theorem Tryz.lays217 : Go.Proofs.Lays.n217 Tryz.prog Tryz.lays217_ren := {
  mixed := by kernel_rfl
  f217 := Tryz.func113.trans (congrArg some (by kernel_rfl))
  f266 := Tryz.func149.trans (congrArg some (by kernel_rfl))
  t3 := Tryz.underlying3
  a3 := Tryz.isAgg3
  z3 := Tryz.sizeOf3
  v3 := Tryz.zeroValue3
  t5 := Tryz.underlying5
  a5 := Tryz.isAgg5
  z5 := Tryz.sizeOf5
  v5 := Tryz.zeroValue5
  t9 := Tryz.underlying9
  a9 := Tryz.isAgg9
  z9 := Tryz.sizeOf9
  v9 := Tryz.zeroValue9 }
open Go.RowKit Go.Lib in
theorem Tryz.stringslite_IndexByte (s : ByteArray) (c : Int) (w : World) :
    Calls Tryz.prog 113 #[.string s, .int .u8 c] w fun e w' => e = .returned (.int .i64 (Lib.indexByte s.data.toList c.toNat.toUInt8)) ∧ w' = w := Any.stringslite_IndexByte Tryz.lays217 s c w
def Tryz.lays144_ren : Go.Shelf.Ren := ⟨fun | 144 => 25 | 143 => 52 | 219 => 76 | 217 => 113 | 225 => 114 | 224 => 115 | 267 => 116 | 266 => 149 | 314 => 150 | n => n, fun | 9 => 9 | 4 => 4 | 3 => 3 | 5 => 5 | 46 => 93 | 146 => 168 | 51 => 122 | n => n, fun | 1 => 0 | n => n⟩
def Tryz.laysM219_ren : Go.Shelf.Ren := ⟨fun | 219 => 76 | 217 => 113 | 225 => 114 | 224 => 115 | 267 => 116 | 266 => 149 | 314 => 150 | n => n, fun | 9 => 9 | 3 => 3 | 4 => 4 | 5 => 5 | 46 => 93 | 146 => 168 | 51 => 122 | n => n, fun | 1 => 0 | n => n⟩
theorem Tryz.laysM219 : Go.Proofs.LaysM.n219 Tryz.prog Tryz.laysM219_ren := {
  mixed := by kernel_rfl
  f217 := Tryz.func113.trans (congrArg some (by kernel_rfl))
  f219 := Tryz.func76.trans (congrArg some (by kernel_rfl))
  f224 := Tryz.func115.trans (congrArg some (by kernel_rfl))
  f225 := Tryz.func114.trans (congrArg some (by kernel_rfl))
  f266 := Tryz.func149.trans (congrArg some (by kernel_rfl))
  f267 := Tryz.func116.trans (congrArg some (by kernel_rfl))
  f314 := Tryz.func150.trans (congrArg some (by kernel_rfl))
  t3 := Tryz.underlying3
  a3 := Tryz.isAgg3
  z3 := Tryz.sizeOf3
  v3 := Tryz.zeroValue3
  t4 := Tryz.underlying4
  a4 := Tryz.isAgg4
  z4 := Tryz.sizeOf4
  v4 := Tryz.zeroValue4
  t5 := Tryz.underlying5
  a5 := Tryz.isAgg5
  z5 := Tryz.sizeOf5
  v5 := Tryz.zeroValue5
  t9 := Tryz.underlying9
  a9 := Tryz.isAgg9
  z9 := Tryz.sizeOf9
  v9 := Tryz.zeroValue9
  t46 := Tryz.underlying93
  a46 := Tryz.isAgg93
  z46 := Tryz.sizeOf93
  v46 := Tryz.zeroValue93
  t51 := Tryz.underlying122
  a51 := Tryz.isAgg122
  z51 := Tryz.sizeOf122
  v51 := Tryz.zeroValue122
  t146 := Tryz.underlying168
  a146 := Tryz.isAgg168
  z146 := Tryz.sizeOf168
  v146 := Tryz.zeroValue168
  g1 := by kernel_rfl
  i3 := by kernel_rfl
  i4 := by kernel_rfl
  i5 := by kernel_rfl
  i9 := by kernel_rfl
  i46 := by kernel_rfl
  i51 := by kernel_rfl
  i146 := by kernel_rfl
  m1 := by kernel_rfl
  s1_3 := fun w h => Go.Proofs.cell_of_shapedOpen_int (zero := #[.int .i64 0]) (t := 3) h (of_decide_eq_true (by kernel_rfl)) (by kernel_rfl) rfl (by kernel_rfl) (by kernel_rfl) Tryz.underlying3 }
def Tryz.lays190_ren : Go.Shelf.Ren := ⟨fun | 190 => 33 | 125 => 62 | 258 => 61 | 128 => 94 | 129 => 95 | 302 => 85 | 303 => 86 | 304 => 87 | 305 => 88 | 306 => 89 | 307 => 90 | 308 => 91 | 309 => 92 | 310 => 93 | 333 => 134 | 329 => 135 | 330 => 136 | 334 => 137 | 335 => 138 | 336 => 139 | 344 => 163 | n => n, fun | 31 => 25 | 9 => 9 | 3 => 3 | 46 => 93 | 0 => 0 | 51 => 122 | 53 => 124 | 4 => 4 | 183 => 116 | 182 => 115 | 131 => 50 | 5 => 5 | 218 => 148 | 222 => 152 | 228 => 185 | 229 => 186 | n => n, fun | n => n⟩
theorem Tryz.lays190 : Go.Proofs.Lays.n190 Tryz.prog Tryz.lays190_ren := {
  mixed := by kernel_rfl
  f125 := Tryz.func62.trans (congrArg some (by kernel_rfl))
  f128 := Tryz.func94.trans (congrArg some (by kernel_rfl))
  f129 := Tryz.func95.trans (congrArg some (by kernel_rfl))
  f190 := Tryz.func33.trans (congrArg some (by kernel_rfl))
  f258 := Tryz.func61.trans (congrArg some (by kernel_rfl))
  f302 := Tryz.func85.trans (congrArg some (by kernel_rfl))
  f303 := Tryz.func86.trans (congrArg some (by kernel_rfl))
  f304 := Tryz.func87.trans (congrArg some (by kernel_rfl))
  f305 := Tryz.func88.trans (congrArg some (by kernel_rfl))
  f306 := Tryz.func89.trans (congrArg some (by kernel_rfl))
  f307 := Tryz.func90.trans (congrArg some (by kernel_rfl))
  f308 := Tryz.func91.trans (congrArg some (by kernel_rfl))
  f309 := Tryz.func92.trans (congrArg some (by kernel_rfl))
  f310 := Tryz.func93.trans (congrArg some (by kernel_rfl))
  f329 := Tryz.func135.trans (congrArg some (by kernel_rfl))
  f330 := Tryz.func136.trans (congrArg some (by kernel_rfl))
  f333 := Tryz.func134.trans (congrArg some (by kernel_rfl))
  f334 := Tryz.func137.trans (congrArg some (by kernel_rfl))
  f335 := Tryz.func138.trans (congrArg some (by kernel_rfl))
  f336 := Tryz.func139.trans (congrArg some (by kernel_rfl))
  f344 := Tryz.func163.trans (congrArg some (by kernel_rfl))
  t0 := Tryz.underlying0
  a0 := Tryz.isAgg0
  z0 := Tryz.sizeOf0
  v0 := Tryz.zeroValue0
  t3 := Tryz.underlying3
  a3 := Tryz.isAgg3
  z3 := Tryz.sizeOf3
  v3 := Tryz.zeroValue3
  t4 := Tryz.underlying4
  a4 := Tryz.isAgg4
  z4 := Tryz.sizeOf4
  v4 := Tryz.zeroValue4
  t5 := Tryz.underlying5
  a5 := Tryz.isAgg5
  z5 := Tryz.sizeOf5
  v5 := Tryz.zeroValue5
  t9 := Tryz.underlying9
  a9 := Tryz.isAgg9
  z9 := Tryz.sizeOf9
  v9 := Tryz.zeroValue9
  t31 := Tryz.underlying25
  a31 := Tryz.isAgg25
  z31 := Tryz.sizeOf25
  v31 := Tryz.zeroValue25
  t46 := Tryz.underlying93
  a46 := Tryz.isAgg93
  z46 := Tryz.sizeOf93
  v46 := Tryz.zeroValue93
  t51 := Tryz.underlying122
  a51 := Tryz.isAgg122
  z51 := Tryz.sizeOf122
  v51 := Tryz.zeroValue122
  t53 := Tryz.underlying124
  a53 := Tryz.isAgg124
  z53 := Tryz.sizeOf124
  v53 := Tryz.zeroValue124
  t131 := Tryz.underlying50
  a131 := Tryz.isAgg50
  z131 := Tryz.sizeOf50
  v131 := Tryz.zeroValue50
  t182 := Tryz.underlying115
  a182 := Tryz.isAgg115
  z182 := Tryz.sizeOf115
  v182 := Tryz.zeroValue115
  t183 := Tryz.underlying116
  a183 := Tryz.isAgg116
  z183 := Tryz.sizeOf116
  v183 := Tryz.zeroValue116
  t218 := Tryz.underlying148
  a218 := Tryz.isAgg148
  z218 := Tryz.sizeOf148
  v218 := Tryz.zeroValue148
  t222 := Tryz.underlying152
  a222 := Tryz.isAgg152
  z222 := Tryz.sizeOf152
  v222 := Tryz.zeroValue152
  t228 := Tryz.underlying185
  a228 := Tryz.isAgg185
  z228 := Tryz.sizeOf185
  v228 := Tryz.zeroValue185
  t229 := Tryz.underlying186
  a229 := Tryz.isAgg186
  z229 := Tryz.sizeOf186
  v229 := Tryz.zeroValue186 }
open Go.Sort Go.RowKit in
theorem Tryz.slices_Sort_string (blk off cap : Nat) (ss : List (List UInt8)) (w : World) (hH : Holds encStr w blk off ss.toArray) (hblk : blk < w.heap.size) (hsz : ss.length < 4611686018427387904) :
    Calls Tryz.prog 33 #[.slice (some ⟨blk, off, none⟩) ss.length cap] w fun e w' =>
      e = .returned (.tuple #[]) ∧ ∃ n os, w' = grow (putRow encStr (Sort.ahead w n) blk off (ss.mergeSort fun x y => decide (x ≤ y)).toArray) os := Any.slices_Sort_string Tryz.lays190 blk off cap ss w hH hblk hsz
def Tryz.lays194_ren : Go.Shelf.Ren := ⟨fun | 194 => 34 | n => n, fun | 31 => 25 | 9 => 9 | 3 => 3 | 4 => 4 | 0 => 0 | n => n, fun | n => n⟩
theorem Tryz.lays194 : Go.Proofs.Lays.n194 Tryz.prog Tryz.lays194_ren := {
  mixed := by kernel_rfl
  f194 := Tryz.func34.trans (congrArg some (by kernel_rfl))
  t0 := Tryz.underlying0
  a0 := Tryz.isAgg0
  z0 := Tryz.sizeOf0
  v0 := Tryz.zeroValue0
  t3 := Tryz.underlying3
  a3 := Tryz.isAgg3
  z3 := Tryz.sizeOf3
  v3 := Tryz.zeroValue3
  t4 := Tryz.underlying4
  a4 := Tryz.isAgg4
  z4 := Tryz.sizeOf4
  v4 := Tryz.zeroValue4
  t9 := Tryz.underlying9
  a9 := Tryz.isAgg9
  z9 := Tryz.sizeOf9
  v9 := Tryz.zeroValue9
  t31 := Tryz.underlying25
  a31 := Tryz.isAgg25
  z31 := Tryz.sizeOf25
  v31 := Tryz.zeroValue25 }
open Go.RowKit Go.Lib Go.Sort in
theorem Tryz.slices_Compact_string (blk off cap : Nat) (zs : List (List UInt8)) (w : World) (hH : Holds encStr w blk off zs.toArray) (hsz : zs.length ≤ 9223372036854775807) (hcap : zs.length ≤ cap) :
    Calls Tryz.prog 34 #[.slice (some ⟨blk, off, none⟩) zs.length cap] w fun e w' => e = .returned (.slice (some ⟨blk, off, none⟩) (Lib.compact zs).length cap) ∧ ∃ q, w' = putRow encStr (Sort.ahead w q) blk off (Lib.compact zs ++ List.replicate (zs.length - (Lib.compact zs).length) []).toArray := Any.slices_Compact_string Tryz.lays194 blk off cap zs w hH hsz hcap
open Go.RowKit Go.Lib Go.Sort in
theorem Tryz.slices_Compact_string_empty (a : Option Addr) (cap : Nat) (w : World) :
    Calls Tryz.prog 34 #[.slice a 0 cap] w fun e w' => e = .returned (.slice a 0 cap) ∧ w' = w := Any.slices_Compact_string_empty Tryz.lays194 a cap w
open Go.RowKit Go.Sort in
theorem Tryz.slices_Sort_string_none (p : Option Addr) (cap : Nat) (w : World) :
    Calls Tryz.prog 33 #[.slice p 0 cap] w fun e w' => e = .returned (.tuple #[]) ∧ w' = w := Any.slices_Sort_string_none Tryz.lays190 p cap w
end Go.Proofs
end

section
namespace Go.Proofs.YtmohgegpcfkooaaGreatDoor
open Go.Fw
variable [Gl]
set_option maxRecDepth 20000
set_option maxHeartbeats 4000000
end Go.Proofs.YtmohgegpcfkooaaGreatDoor
end

section
namespace Go.Proofs.YtmohgegpcfkooaaGreatDoor
open Go.Fw
variable [Gl]
set_option maxRecDepth 20000
set_option maxHeartbeats 4000000
end Go.Proofs.YtmohgegpcfkooaaGreatDoor
end

section
namespace Go.Proofs.YtmohgegpcfkooaaGreatDoor
open Go.Fw
variable [Gl]
set_option maxRecDepth 20000
set_option maxHeartbeats 4000000
end Go.Proofs.YtmohgegpcfkooaaGreatDoor
end

section
namespace Go.Proofs.YtmohgegpcfkooaaGreatDoor
open Go.Fw
variable [Gl]
set_option maxRecDepth 20000
set_option maxHeartbeats 4000000
end Go.Proofs.YtmohgegpcfkooaaGreatDoor
end

section
namespace Go.Proofs.YtmohgegpcfkooaaGreatDoor
open Go.Fw
variable [Gl]
set_option maxRecDepth 20000
set_option maxHeartbeats 4000000
end Go.Proofs.YtmohgegpcfkooaaGreatDoor
end

section
namespace Go.Proofs.YtmohgegpcfkooaaGreatDoor
open Go.Fw
variable [Gl]
set_option maxRecDepth 20000
set_option maxHeartbeats 4000000
end Go.Proofs.YtmohgegpcfkooaaGreatDoor
end

section
namespace Go.Proofs.YtmohgegpcfkooaaGreatDoor
open Go.Fw
variable [Gl]
set_option maxRecDepth 20000
set_option maxHeartbeats 4000000
end Go.Proofs.YtmohgegpcfkooaaGreatDoor
end

section
namespace Go.Proofs.YtmohgegpcfkooaaGreatDoor
open Go.Fw
variable [Gl]
set_option maxRecDepth 20000
set_option maxHeartbeats 4000000
end Go.Proofs.YtmohgegpcfkooaaGreatDoor
end

section
namespace Go.Proofs.YtmohgegpcfkooaaGreatDoor
open Go.Fw
variable [Gl]
set_option maxRecDepth 20000
set_option maxHeartbeats 4000000
end Go.Proofs.YtmohgegpcfkooaaGreatDoor
end

section
namespace Go.Proofs.YtmohgegpcfkooaaGreatDoor
open Go.Fw
variable [Gl]
set_option maxRecDepth 20000
set_option maxHeartbeats 4000000
end Go.Proofs.YtmohgegpcfkooaaGreatDoor
end

section
namespace Go.Proofs.YtmohgegpcfkooaaGreatDoor
open Go.Fw
variable [Gl]
set_option maxRecDepth 20000
set_option maxHeartbeats 4000000
end Go.Proofs.YtmohgegpcfkooaaGreatDoor
end

section
namespace Go.Proofs.YtmohgegpcfkooaaGreatDoor
open Go.Fw
variable [Gl]
set_option maxRecDepth 20000
set_option maxHeartbeats 4000000
end Go.Proofs.YtmohgegpcfkooaaGreatDoor
end

section
namespace Go.Proofs.YtmohgegpcfkooaaGreatDoor
open Go.Fw
variable [Gl]
set_option maxRecDepth 20000
set_option maxHeartbeats 4000000
end Go.Proofs.YtmohgegpcfkooaaGreatDoor
end

section
namespace Go.Proofs.YtmohgegpcfkooaaGreatDoor
open Go.Fw
variable [Gl]
set_option maxRecDepth 20000
set_option maxHeartbeats 4000000
end Go.Proofs.YtmohgegpcfkooaaGreatDoor
end

section
namespace Go.Proofs.YtmohgegpcfkooaaGreatDoor
open Go.Fw
variable [Gl]
set_option maxRecDepth 20000
set_option maxHeartbeats 4000000
end Go.Proofs.YtmohgegpcfkooaaGreatDoor
end

section
namespace Go.Proofs.YtmohgegpcfkooaaGreatDoor
open Go.Fw
variable [Gl]
set_option maxRecDepth 20000
set_option maxHeartbeats 4000000
def strC (s : By) : List V := [.str s]
theorem ldStr {l : List By} {i : Nat} (hi : i < l.length) : ldAt Tryz.prog 9 (cat strC l) (i * 1) = some (.str l[i]) := ld_cat1 (enc := strC) 0 (fun _ => rfl) hi (by decide) (by kernel_rfl) rfl
def ixF (s : By) : Nat → List By → Int
  | _, [] => -1
  | i, a :: r => if a = s then (i : Int) else ixF s (i + 1) r
theorem ixF_mem (s : By) : ∀ (l : List By) (i : Nat), decide (0 ≤ ixF s i l) = l.contains s
  | [], i => by simp [ixF]
  | a :: r, i => by
    rw [List.contains_cons]
    by_cases h : a = s
    · have e : ixF s i (a :: r) = (i : Int) := by simp only [ixF, if_pos h]
      have h2 : (s == a) = true := by rw [h]; simp
      rw [h2, Bool.true_or, decide_eq_true (by rw [e]; omega)]
    · have e : ixF s i (a :: r) = ixF s (i + 1) r := by simp only [ixF, if_neg h]
      have h2 : (s == a) = false := by simpa using fun e => h e.symm
      rw [h2, Bool.false_or, ← ixF_mem s r (i + 1)]
      simp only [e]
theorem sl_index (l : List By) (s : By) (hl : l.length ≤ big) : PTri Tryz.prog 45 [slV strC l, .str s] (nI (ixF s 0 l)) := by
  simp only [big] at hl
  refine PTri.of_safe Tryz.func45 rfl Tryz.results45 Tryz.ntmps45 rfl ?_
  refine go 99 rfl ?_
  refine Safe.loop (α := Nat) (fun i => [(0, slV strC l), (1, .str s), (7, nI l.length), (8, nI i)]) (fun i => []) 0 (fun i => l.length - i) (fun i => i ≤ l.length ∧ ixF s 0 l = ixF s i (l.drop i)) 0 (sgI 0) ⟨⟨fit rfl, fit rfl, fit rfl, fit rfl, trivial⟩, ⟨_, .refl _, List.nil_sublist _⟩, rfl⟩ ⟨Nat.zero_le _, rfl⟩ ?_
  rintro i ⟨hi, ha⟩
  refine go 99 rfl ?_
  refine Safe.br rfl (fun c1 => ?_) (fun c1 => ?_)
  · have hi : i < l.length := ltc c1
    rw [List.drop_eq_getElem_cons hi] at ha
    refine go 99 rfl ?_
    refine Safe.idxF hi rfl rfl rfl ?_
    refine Safe.ldF (ldStr hi) rfl rfl rfl ?_
    refine go 99 rfl ?_
    refine Safe.br rfl (fun d => ?_) (fun d => ?_)
    · have d1 : l[i] = s := (by simpa using d : s = l[i]).symm
      simp only [ixF, if_pos d1] at ha
      refine go 99 rfl ?_
      exact ⟨.inr rfl, trivial, .done (nIeq ha.symm) rfl⟩
    · have d1 : ¬ l[i] = s := fun h => by have : ¬ s = l[i] := by simpa using d
                                          exact this h.symm
      simp only [ixF, if_neg d1] at ha
      refine go 99 rfl ?_
      exact ⟨sgI 0, i + 1, ⟨hi, ha⟩, mlt hi, rfl, rfl, ⟨fit rfl, fit rfl, fit rfl, fit (isucc (by omega)), trivial⟩, ⟨_, .refl _, List.nil_sublist _⟩, rfl⟩
  · have hi2 : i = l.length := Nat.le_antisymm hi (gec c1)
    subst hi2
    rw [List.drop_length] at ha
    refine go 99 rfl ?_
    exact ⟨.inr rfl, trivial, .done (nIeq ha.symm) rfl⟩
theorem sl_contains (l : List By) (s : By) (hl : l.length ≤ big) : PTri Tryz.prog 18 [slV strC l, .str s] (.bool (l.contains s)) := by
  refine PTri.of_safe Tryz.func18 rfl Tryz.results18 Tryz.ntmps18 rfl ?_
  refine go 99 rfl ?_
  refine Safe.call (sl_index l s hl) rfl rfl rfl ?_
  refine go 99 rfl ?_
  exact ⟨.inr rfl, trivial, .done (bIeq (ixF_mem s l 0)) rfl⟩
abbrev mkCap (l : List Lb) (ns : List By) : List V := [.fptr [slV lbC l] 0, .fptr [slV strC ns] 0]
theorem lb_marked (l : List Lb) (ns : List By) : PTri Tryz.prog 78 [slV lbC l, slV strC ns] (.clo 124 (mkCap l ns)) := by
  refine PTri.of_safe Tryz.func78 rfl Tryz.results78 Tryz.ntmps78 rfl ?_
  refine go 99 rfl ?_
  exact ⟨.inr rfl, trivial, .frz 0 rfl rfl (.frz 1 rfl rfl (.done rfl rfl))⟩
def mkX (l : List Lb) (ns : List By) : List (List V) := l.map fun x => [lbV' x, .bool (ns.contains x.name)]
theorem mkX_len (l : List Lb) (ns : List By) : (mkX l ns).length = l.length := by simp [mkX]
theorem mkX_at {l : List Lb} {ns : List By} {k : Nat} (hk : k < (mkX l ns).length) : (mkX l ns)[k] = [lbV' (l[k]'(by simpa [mkX] using hk)), .bool (ns.contains (l[k]'(by simpa [mkX] using hk)).name)] := by simp [mkX]
theorem mkX_ok (l : List Lb) (ns : List By) : ∀ a, a ∈ mkX l ns → a.length = 2 ∧ a.all dry = true := fun a ha => by
  obtain ⟨s, _, rfl⟩ := List.mem_map.1 ha
  exact ⟨rfl, rfl⟩
theorem it_marked (l : List Lb) (ns : List By) (hl : l.length ≤ big) (hn : ns.length ≤ big) : IterC Tryz.prog 124 (mkCap l ns) (mkX l ns) := by
  simp only [big] at hl
  intro lb J S hy h hJ
  refine Tri.of_safeY Tryz.func124 rfl Tryz.results124 Tryz.ntmps124 rfl ?_
  refine go 99 rfl ?_
  refine Safe.ldF ((rfl : ldAt Tryz.prog 33 [slV lbC l] 0 = some (slV lbC l))) rfl rfl rfl ?_
  refine go 99 rfl ?_
  refine Safe.loopH (α := Nat) (fun i => [(0, .yield lb), (2, .fptr [slV strC ns] 0), (6, slV lbC l), (7, nI l.length), (8, nI i)]) (fun i => []) 0 (fun i => l.length - i) (fun i => i ≤ l.length) (fun i hf dl => J i hf ∧ dl = []) 0 (sgI 0) ⟨⟨fit rfl, fit rfl, fit rfl, fit rfl, fit rfl, trivial⟩, ⟨_, .refl _, List.nil_sublist _⟩, rfl⟩ (Nat.zero_le _) ⟨hJ, rfl⟩ ?_
  rintro i hi hf dl ⟨hJi, rfl⟩
  refine go 99 rfl ?_
  refine Safe.br rfl (fun c => ?_) (fun c => ?_)
  · have hi : i < l.length := ltc c
    have hk : i < (mkX l ns).length := by rw [mkX_len]; exact hi
    have hyi := hy i hk hf hJi
    rw [mkX_at hk] at hyi
    refine go 99 rfl ?_
    refine Safe.idxF hi rfl rfl rfl ?_
    refine go 99 rfl ?_
    refine Safe.ldF (ldL hi) rfl rfl rfl ?_
    refine go 99 rfl ?_
    refine Safe.frzC 0 rfl rfl ?_
    refine Safe.drawP mixed [0, 1, 2, 3, 4, 5, 6, 7] [(true, false), (true, false), (true, true), (true, true), (true, true), (true, true), (true, true), (true, true)] (by kernel_rfl) ?_
    refine go 99 rfl ?_
    refine Safe.ldF (rfl) rfl rfl rfl ?_
    refine go 99 rfl ?_
    refine Safe.ldF ((rfl : ldAt Tryz.prog 25 [slV strC ns] 0 = some (slV strC ns))) rfl rfl rfl ?_
    refine go 99 rfl ?_
    refine Safe.ldF (rfl) rfl rfl rfl ?_
    refine go 99 rfl ?_
    refine Safe.call (sl_contains ns l[i].name hn) rfl rfl rfl ?_
    refine Safe.tail (by kernel_rfl) ?_
    refine go 99 rfl ?_
    refine Safe.yield (hyi) rfl rfl rfl (fun v hf1 hv => ?_)
    rcases hv with ⟨rfl, hJ2⟩ | ⟨rfl, hS⟩
    · refine ⟨rfl, ?_⟩
      refine go 99 rfl ?_
      refine Safe.brF rfl rfl ?_
      refine go 99 rfl ?_
      exact ⟨sgI 0, i + 1, hi, mlt hi, ⟨hJ2, rfl⟩, ⟨fit rfl, fit rfl, fit rfl, fit rfl, fit (isucc (by omega)), trivial⟩, ⟨_, .refl _, List.nil_sublist _⟩, rfl⟩
    · refine ⟨rfl, ?_⟩
      refine go 99 rfl ?_
      refine Safe.brT rfl rfl ?_
      refine go 99 rfl ?_
      exact ⟨.inr rfl, rfl, _, .done rfl rfl, .inr hS⟩
  · have hi2 : i = l.length := Nat.le_antisymm hi (gec c)
    subst hi2
    rw [← mkX_len l ns] at hJi
    refine go 99 rfl ?_
    exact ⟨.inl rfl, rfl, _, .done rfl rfl, .inl hJi⟩
end Go.Proofs.YtmohgegpcfkooaaGreatDoor
end

section
namespace Go.Proofs.YtmohgegpcfkooaaGreatDoor
open Go.Fw
variable [Gl]
set_option maxRecDepth 20000
set_option maxHeartbeats 4000000
def okG (G : Option Nat) (n : Nat) : Prop := (G = none → n = 0) ∧ ∀ N, G = some N → n ≤ N
def rowΦ (xs : List Lb) (v : V) (h : Hp) (nx : Nat) : Prop := ∃ G, okG G xs.length ∧ v = gV 0 xs.length G ∧ h = gH 64 2 0 (cat lbC xs) G ∧ nx = 1
def selL (ns : List By) (b : Bool) (l : List Lb) : List Lb := l.filter fun x => ns.contains x.name == b
theorem take_succ_get {α : Type} {l : List α} {i : Nat} (hi : i < l.length) : l.take (i + 1) = l.take i ++ [l[i]] := List.take_succ_eq_append_getElem hi
theorem selL_s {ns : List By} {b : Bool} {l : List Lb} {i : Nat} (hi : i < l.length) : selL ns b (l.take (i + 1)) = selL ns b (l.take i) ++ if (ns.contains l[i].name == b) = true then [l[i]] else [] := by
  rw [selL, take_succ_get hi, List.filter_append]
  congr 1
  rw [List.filter_cons]; rfl
theorem catLb_len (l : List Lb) : (cat lbC l).length = l.length * 2 := cat_length (k := 2) (fun _ => rfl) l
theorem catLb_dry (l : List Lb) : (cat lbC l).all dryV1 = true := by
  induction l with
  | nil => rfl
  | cons a r ih => rw [cat_cons, List.all_append, ih]; rfl
theorem catLb_d (l : List Lb) : (cat lbC l).all dry = true := dryL1_dry (catLb_dry l)
theorem catLb_app (l : List Lb) (x : Lb) : cat lbC l ++ lbC x = cat lbC (l ++ [x]) := by rw [cat_append]; simp [cat]
theorem subGb {sg : Sg} {e : TypeId} {kk k j : Nat} {l : List Lb} {G : Option Nat} (h : sgF sg k = some j) : (relH sg (gH e kk k (cat lbC l) G)).Sublist (gH e kk j (cat lbC l) G) := by
  cases G with
  | none => exact List.Sublist.refl _
  | some N => exact subK h (renO_dry (catLb_d l)) subN
theorem gV_ren {sg : Sg} {k j len : Nat} {G : Option Nat} (h : sgF sg k = some j) : gV j len G = renV (sgF sg) (gV k len G) := by
  cases G with
  | none => rfl
  | some N => simp only [gV, renV, h]
theorem perm1 {x : Nat × AObj} {l : Hp} : (l ++ [x]).Perm (x :: l) := List.perm_append_comm (l₁ := l) (l₂ := [x])
theorem lb_sel (l : List Lb) (ns : List By) (b : Bool) (hl : l.length ≤ 100000) (hn : ns.length ≤ big) : TriL Tryz.prog 148 [slV lbC l, slV strC ns, .bool b] [] 0 (rowΦ (selL ns b l)) := by
  have hl' : l.length ≤ big := by simp only [big]; omega
  refine TriL.of_safeN Tryz.func148 rfl Tryz.results148 Tryz.ntmps148 rfl ?_
  refine go 99 rfl ?_
  refine Safe.call (lb_marked l ns) rfl rfl rfl ?_
  refine go 99 rfl ?_
  refine Safe.rangeC (α := (List Lb × Option Nat)) 3 (fun a => ((1, .cells 33 [gV 2 a.1.length a.2] 1) :: (0, .cells 4 [.bool b] 1) :: gH 64 2 2 (cat lbC a.1) a.2)) (fun k a => a.1 = selL ns b (l.take k) ∧ okG a.2 a.1.length) (fun c a => False) ([], none) (it_marked l ns hl' hn) rfl rfl (mkX_ok l ns) rfl (⟨rfl, (fun _ => rfl), (fun N h => by cases h)⟩) ?_ ?_ ?_
  · rintro lb i hk ⟨acc, G⟩ ⟨hE, hG, hN⟩
    have hi : i < l.length := by rw [← mkX_len l ns]; exact hk
    dsimp only at hE hG hN
    have hT := selL_s (ns := ns) (b := b) hi
    have hlen : acc.length ≤ i := by
      rw [hE]; refine Nat.le_trans (List.length_filter_le _ _) ?_
      rw [List.length_take]; omega
    rw [mkX_at hk]
    refine go 99 rfl ?_
    refine Safe.toBody ?_
    refine go 99 rfl ?_
    refine Safe.br rfl (fun c => ?_) (fun c => ?_)
    · have c1 : (ns.contains l[i].name == b) = true := c
      rw [if_pos c1] at hT
      refine go 99 rfl ?_
      refine Safe.appH (k := 2) (G := G) (cs := cat lbC acc) (len := acc.length) (us := lbC l[i]) (mm := 1) (h1 := [(4, .cells 64 (lbC l[i]) 2), (3, .cells 64 (lbC l[i]) 2), (1, .cells 33 [gV 2 acc.length G] 1), (0, .cells 4 [.bool b] 1)]) (h2 := []) rfl (by simp [Hp.ns]) (fun h => ⟨by rw [List.length_eq_zero_iff.1 (hG h)]; rfl, hG h⟩) (by rw [List.append_nil]; rfl) rfl rfl rfl rfl rfl (by decide) rfl (catLb_len acc) rfl rfl (by omega) (fun N' hN' => ?_)
      refine go 99 rfl ?_
      exact ⟨rfl, (acc ++ [l[i]], some N'), [(0, 0), (1, 1), (2, 5)], ⟨by dsimp only; rw [hT, hE], (fun h => by cases h), (fun N h => by cases h; simp; omega)⟩, trivial, ⟨_, perm1, subD (subD (subK rfl (by rw [show (acc ++ [l[i]]).length = acc.length + 1 by simp]; rfl) (subK rfl rfl (subK rfl (by rw [renO_dry (catLb_d _), catLb_app]) subN))))⟩, rfl⟩
    · have c1 : ¬ (ns.contains l[i].name == b) = true := by simpa using c
      rw [if_neg c1, List.append_nil] at hT
      refine go 99 rfl ?_
      exact ⟨rfl, (acc, G), [(0, 0), (1, 1), (2, 2)], ⟨by dsimp only; rw [hT, hE], hG, hN⟩, trivial, ⟨_, .refl _, subD (subK rfl (by simp only [renO, renL]; rw [← gV_ren rfl]) (subK rfl rfl (subGb rfl)))⟩, (by cases G <;> rfl)⟩
  · rintro r ⟨acc, G⟩ ⟨hE, hG⟩
    dsimp only at hE hG
    rw [mkX_len, List.take_length] at hE
    refine go 99 rfl ?_
    exact ⟨.inr rfl, dlOk_1 trivial, .done rfl ⟨[(0, 2)], gV 0 acc.length G, gH 64 2 0 (cat lbC acc) G, 1, ⟨⟨fit (congrArg some (gV_ren rfl)), trivial⟩, ⟨_, .refl _, subD (subD (subGb rfl))⟩, by cases G <;> rfl⟩, G, by rw [← hE]; exact hG, by rw [← hE], by rw [← hE], rfl⟩⟩
  · rintro r b c h
    cases h
theorem lb_drop (l : List Lb) (ns : List By) (hl : l.length ≤ 100000) (hn : ns.length ≤ big) : TriL Tryz.prog 109 [slV lbC l, slV strC ns] [] 0 (rowΦ (selL ns false l)) := by
  refine TriL.of_safeN Tryz.func109 rfl Tryz.results109 Tryz.ntmps109 rfl ?_
  refine go 99 rfl ?_
  refine Safe.callL (rest := []) [] (lb_sel l ns false hl hn) rfl rfl rfl rfl (.refl _) (fun v h' nx' q => ?_)
  obtain ⟨G, hG, rfl, rfl, rfl⟩ := q
  cases G with
  | none =>
    refine go 99 rfl ?_
    exact ⟨.inr rfl, trivial, .done rfl ⟨[], .nilslice, [], 1, ⟨⟨fit rfl, trivial⟩, ⟨_, .refl _, List.nil_sublist _⟩, rfl⟩, none, hG, rfl, rfl, rfl⟩⟩
  | some N =>
    refine go 99 rfl ?_
    exact ⟨.inr rfl, trivial, .done rfl ⟨[(0, 0)], .slice 0 0 _ N, [(0, .cells 64 (cat lbC (selL ns false l)) (N * 2))], 1, ⟨⟨fit rfl, trivial⟩, ⟨_, .refl _, subK rfl (by rw [renO_dry (catLb_d _)]; exact (renO_dry (catLb_d _)).symm) subN⟩, rfl⟩, some N, hG, rfl, rfl, rfl⟩⟩
end Go.Proofs.YtmohgegpcfkooaaGreatDoor
end

section
namespace Go.Proofs.YtmohgegpcfkooaaGreatDoor
open Go.Fw
variable [Gl]
set_option maxRecDepth 20000
set_option maxHeartbeats 4000000
theorem lbC_len (x : Lb) : (lbC x).length = 2 := rfl
def insLb (l : List Lb) (i : Nat) (x : Lb) : List Lb := l.take i ++ x :: l.drop i
def insLbΦ (l : List Lb) (i : Nat) (x : Lb) (u : V) (h : Hp) (nx : Nat) : Prop :=
  ∃ N', l.length + 1 ≤ N' ∧ ((u = .slice 0 0 (l.length + 1) N' ∧ h = [(0, .cells 64 (cat lbC (insLb l i x)) (N' * 2))] ∧ nx = 2) ∨ (u = .slice 2 0 (l.length + 1) N' ∧ h = [(2, .cells 64 (cat lbC (insLb l i x)) (N' * 2))] ∧ nx = 3))
theorem ovl200 : IsOverlaps Tryz.prog 200 33 4 64 2 := ⟨⟨_, Tryz.func200, rfl, rfl, rfl, rfl⟩, rfl, rfl⟩
theorem putL_mid {A vs Z : List V} {o : Nat} (h : A.length = o) : putL (A ++ Z) o vs = A ++ vs ++ Z.drop vs.length := by
  subst h
  unfold putL
  rw [List.take_left' rfl, ← List.drop_drop, List.drop_left' rfl]
theorem lb_insert (l : List Lb) (x : Lb) (i N : Nat) (hi : i ≤ l.length) (hl : l.length ≤ 100000) (hN : l.length ≤ N) :
    TriL Tryz.prog 175 [.slice 0 0 l.length N, nI i, .slice 1 0 1 1] [(1, .cells 64 (lbC x) 2), (0, .cells 64 (cat lbC l) (N * 2))] 2 (insLbΦ l i x) := by
  have hins : cat lbC l ++ lbC x = cat lbC (insLb l l.length x) := by simp [insLb, cat]
  have w1 : IntKind.i64.wrap ((l.length : Int) + ((1 : Nat) : Int)) = (l.length : Int) + ((1 : Nat) : Int) := wrap64_fit (by omega) (by omega)
  have w2 : (some (IntKind.i64.wrap ((i : Int) + ((1 : Nat) : Int))) : Option Int).getD ((0 : Nat) : Int) = ((i + 1 : Nat) : Int) := by
    show IntKind.i64.wrap ((i : Int) + ((1 : Nat) : Int)) = _
    rw [wrap64_fit (by omega) (by omega)]; omega
  have w3 : (some (IntKind.i64.wrap ((l.length : Int) + ((1 : Nat) : Int))) : Option Int).getD (l.length : Int) = ((l.length + 1 : Nat) : Int) := by
    show IntKind.i64.wrap ((l.length : Int) + ((1 : Nat) : Int)) = _
    rw [w1]; omega
  have tk1 : ((cat lbC l).drop (i * 2)).take ((l.length - i) * 2) = cat lbC (l.drop i) := by
    rw [cat_drop lbC_len]
    exact List.take_of_length_le (by rw [cat_length lbC_len, List.length_drop]; exact Nat.le_refl _)
  have hxl : ∀ k, (((lbC x).drop 0).take k).all leafV = true := fun k => List.all_eq_true.2 fun v hv => List.all_eq_true.1 (show (lbC x).all leafV = true from rfl) v (List.mem_of_mem_take hv)
  have hll : ∀ j k, (((cat lbC l).drop j).take k).all leafV = true := fun j k => List.all_eq_true.2 fun v hv => List.all_eq_true.1 (dryL1_leaf (catLb_dry l)) v (List.mem_of_mem_drop (List.mem_of_mem_take hv))
  refine TriL.of_safeN Tryz.func175 rfl Tryz.results175 Tryz.ntmps175 rfl ?_
  refine go 99 rfl ?_
  refine Safe.slO i l.length hi hN rfl rfl rfl rfl ?_
  refine go 99 rfl ?_
  first | refine Safe.gsK true rfl rfl ?_ | refine Safe.gsK false rfl rfl ?_ | refine Safe.brT rfl rfl ?_ | refine Safe.brF rfl rfl ?_
  refine go 99 rfl ?_
  refine go 99 rfl ?_
  refine Safe.br rfl (fun c => ?_) (fun c => ?_)
  · have c1 : i = l.length := by have := (by simpa using c : (i : Int) = l.length); omega
    refine go 99 rfl ?_
    refine Safe.appS (us := (lbC x)) rfl rfl rfl rfl rfl rfl (rfl) rfl (hins) (rfl) (cat_length lbC_len l) (rfl) (rfl) (by omega) (fun N' hN' => ?_)
    refine go 99 rfl ?_
    exact ⟨.inr rfl, trivial, .done rfl ⟨sgI 3, .slice 2 0 (l.length + 1) N', [(2, .cells 64 (cat lbC (insLb l l.length x)) (N' * 2))], 3, ⟨⟨fit rfl, trivial⟩, ⟨_, .refl _, subK rfl (renO_dry (catLb_d _)) subN⟩, rfl⟩, N', hN', .inr ⟨rfl, by rw [c1], rfl⟩⟩⟩
  · have c1 : i < l.length := by
      have : ¬ (i : Int) = l.length := by simpa using c
      omega
    refine go 99 rfl ?_
    refine Safe.capO rfl rfl rfl rfl ?_
    refine go 99 rfl ?_
    refine Safe.br rfl (fun d => ?_) (fun d => ?_)
    · have d1 : N < l.length + 1 := by
        have := of_decide_eq_true d
        rw [wrap64_fit (by omega) (by omega)] at this; omega
      refine go 5 rfl ?_
      refine Safe.slO 0 i (Nat.zero_le _) (by omega) rfl rfl rfl rfl ?_
      refine Safe.eqv (v' := .slice 0 0 i N) (by rw [Nat.zero_mul, Nat.add_zero, ite_self]; rfl) ?_
      refine go 99 rfl ?_
      refine Safe.appZ (j := l.length + 1 - i) rfl rfl rfl rfl rfl (by rw [w1, wrap64_fit (by omega) (by omega)]; omega) rfl (by rw [cat_length lbC_len]; show 0 + i * 2 ≤ l.length * 2; omega) (by omega) (by omega) (by omega) rfl rfl (fun N2 hN2 => ?_)
      refine Safe.eqv (v' := .slice 2 0 (l.length + 1) N2) (by rw [show i + (l.length + 1 - i) = l.length + 1 by omega]) ?_
      generalize hZ0 : zcells _ ((l.length + 1 - i) * _) = Z
      have hN2' : l.length + 1 ≤ N2 := by omega
      have hZ : Z.length = (l.length + 1 - i) * 2 := by rw [← hZ0, zcells_length]; rfl
      have hZd : Z.all dry = true := by rw [← hZ0]; exact zcells_dry rfl _
      refine Safe.hpO (h' := [(2, .cells 64 (cat lbC (l.take i) ++ Z) (N2 * 2)), (1, .cells 64 (lbC x) 2), (0, .cells 64 (cat lbC l) (N * 2))]) (by rw [← cat_take lbC_len]; rfl) ?_
      refine go 99 rfl ?_
      refine Safe.slO i (l.length + 1) (by omega) hN2' rfl rfl rfl rfl ?_
      refine Safe.eqv (v' := .slice 2 (i * 2) (l.length + 1 - i) (N2 - i)) (by rw [if_neg (by omega), Nat.zero_add]; rfl) ?_
      refine go 99 rfl ?_
      have m1 : min 1 (l.length + 1 - i) = 1 := by omega
      have r1 : putL (cat lbC (l.take i) ++ Z) (i * 2) (((lbC x).drop 0).take (min 1 (l.length + 1 - i) * 2)) = cat lbC (l.take i ++ [x]) ++ Z.drop 2 := by
        rw [m1, putL_mid (by rw [cat_length lbC_len, List.length_take]; omega), cat_append]
        show cat lbC (l.take i) ++ lbC x ++ Z.drop 2 = cat lbC (l.take i) ++ cat lbC [x] ++ Z.drop 2
        simp [cat]
      refine Safe.cpS rfl rfl rfl rfl rfl rfl rfl rfl (by show 0 + min 1 (l.length + 1 - i) * 2 ≤ 2; omega) (by rw [List.length_append, cat_length lbC_len, List.length_take, hZ]; omega) (by show i * 2 + min 1 (l.length + 1 - i) * 2 ≤ N2 * 2; omega) (hxl _) ?_
      refine Safe.hpO (h' := [(2, .cells 64 (cat lbC (l.take i ++ [x]) ++ Z.drop 2) (N2 * 2)), (1, .cells 64 (lbC x) 2), (0, .cells 64 (cat lbC l) (N * 2))]) (congrArg (fun r => [(2, AObj.cells 64 r (N2 * 2)), (1, .cells 64 (lbC x) 2), (0, .cells 64 (cat lbC l) (N * 2))]) r1) ?_
      refine go 99 rfl ?_
      refine Safe.drawP mixed [0, 1, 2, 3, 4, 5, 6, 7, 8] [(true, true), (true, true), (true, true), (true, true), (true, true), (true, true), (true, true), (true, true), (true, true)] (by kernel_rfl) ?_
      refine go 99 rfl ?_
      refine Safe.slO (i + 1) (l.length + 1) (by omega) hN2' rfl w2 rfl rfl ?_
      refine Safe.eqv (v' := .slice 2 ((i + 1) * 2) (l.length + 1 - (i + 1)) (N2 - (i + 1))) (by rw [if_neg (by omega), Nat.zero_add]; rfl) ?_
      refine go 99 rfl ?_
      refine Safe.slO i l.length (by omega) hN rfl rfl rfl rfl ?_
      refine Safe.eqv (v' := .slice 0 (i * 2) (l.length - i) (N - i)) (by rw [if_neg (by omega), Nat.zero_add]; rfl) ?_
      refine Safe.tail (by kernel_rfl) ?_
      refine go 99 rfl ?_
      have m2 : min (l.length - i) (l.length + 1 - (i + 1)) = l.length - i := by omega
      have r2 : putL (cat lbC (l.take i ++ [x]) ++ Z.drop 2) ((i + 1) * 2) (((cat lbC l).drop (i * 2)).take (min (l.length - i) (l.length + 1 - (i + 1)) * 2)) = cat lbC (insLb l i x) := by
        have e2 : (Z.drop 2).drop (cat lbC (l.drop i)).length = [] := List.drop_eq_nil_of_le (by rw [List.length_drop, hZ, cat_length lbC_len, List.length_drop]; omega)
        rw [m2, tk1, putL_mid (by rw [cat_length lbC_len]; simp; omega), e2]
        simp [insLb, cat]
      refine Safe.cpS rfl rfl rfl rfl rfl rfl rfl rfl (by rw [cat_length lbC_len]; show i * 2 + min (l.length - i) (l.length + 1 - (i + 1)) * 2 ≤ l.length * 2; omega) (by rw [List.length_append, cat_length lbC_len, List.length_drop, hZ]; simp; omega) (by show (i + 1) * 2 + min (l.length - i) (l.length + 1 - (i + 1)) * 2 ≤ N2 * 2; omega) (hll _ _) ?_
      refine Safe.hpO (h' := [(2, .cells 64 (cat lbC (insLb l i x)) (N2 * 2)), (1, .cells 64 (lbC x) 2), (0, .cells 64 (cat lbC l) (N * 2))]) (congrArg (fun r => [(2, AObj.cells 64 r (N2 * 2)), (1, .cells 64 (lbC x) 2), (0, .cells 64 (cat lbC l) (N * 2))]) r2) ?_
      refine go 99 rfl ?_
      exact ⟨.inr rfl, trivial, .done rfl ⟨sgI 3, .slice 2 0 (l.length + 1) N2, [(2, .cells 64 (cat lbC (insLb l i x)) (N2 * 2))], 3, ⟨⟨fit rfl, trivial⟩, ⟨_, .refl _, subK rfl (renO_dry (catLb_d _)) subN⟩, rfl⟩, N2, hN2', .inr ⟨rfl, rfl, rfl⟩⟩⟩
    · have d1 : l.length + 1 ≤ N := by
        have := of_decide_eq_false d
        rw [wrap64_fit (by omega) (by omega)] at this; omega
      refine go 6 rfl ?_
      refine Safe.slO 0 (l.length + 1) (Nat.zero_le _) d1 rfl rfl w3 rfl ?_
      refine Safe.eqv (v' := .slice 0 0 (l.length + 1) N) (by rw [Nat.zero_mul, Nat.add_zero, ite_self]; rfl) ?_
      refine go 99 rfl ?_
      refine Safe.slO (i + 1) (l.length + 1) (by omega) d1 rfl w2 rfl rfl ?_
      refine Safe.eqv (v' := .slice 0 ((i + 1) * 2) (l.length + 1 - (i + 1)) (N - (i + 1))) (by rw [if_neg (by omega), Nat.zero_add]; rfl) ?_
      refine Safe.ovl ovl200 rfl rfl (fun ρ ht => ?_) rfl rfl (by decide) (by omega) (by omega) (by decide) ?_
      · obtain ⟨q1, h1⟩ := ht 61 _ rfl
        obtain ⟨q2, h2⟩ := ht 66 _ rfl
        exact ⟨q1, q2, h1, h2⟩
      refine go 99 rfl ?_
      first | refine Safe.gsK true rfl rfl ?_ | refine Safe.gsK false rfl rfl ?_ | refine Safe.brT rfl rfl ?_ | refine Safe.brF rfl rfl ?_
      refine go 99 rfl ?_
      refine go 99 rfl ?_
      refine Safe.drawP mixed [0, 1, 2, 3, 4, 5, 6, 7, 8] [(true, true), (true, true), (true, true), (true, true), (true, true), (true, true), (true, true), (true, true), (true, true)] (by kernel_rfl) ?_
      refine go 99 rfl ?_
      refine Safe.slO (i + 1) (l.length + 1) (by omega) d1 rfl w2 rfl rfl ?_
      refine Safe.eqv (v' := .slice 0 ((i + 1) * 2) (l.length + 1 - (i + 1)) (N - (i + 1))) (by rw [if_neg (by omega), Nat.zero_add]; rfl) ?_
      refine go 99 rfl ?_
      refine Safe.slO i (l.length + 1) (by omega) d1 rfl rfl rfl rfl ?_
      refine Safe.eqv (v' := .slice 0 (i * 2) (l.length + 1 - i) (N - i)) (by rw [if_neg (by omega), Nat.zero_add]; rfl) ?_
      refine Safe.tail (by kernel_rfl) ?_
      refine go 99 rfl ?_
      have m2 : min (l.length + 1 - i) (l.length + 1 - (i + 1)) = l.length - i := by omega
      have r3 : putL (cat lbC l) ((i + 1) * 2) (((cat lbC l).drop (i * 2)).take (min (l.length + 1 - i) (l.length + 1 - (i + 1)) * 2)) = cat lbC (l.take (i + 1) ++ l.drop i) := by
        have e0 : cat lbC l = cat lbC (l.take (i + 1)) ++ cat lbC (l.drop (i + 1)) := by rw [← cat_append, List.take_append_drop]
        have e2 : (cat lbC (l.drop (i + 1))).drop (cat lbC (l.drop i)).length = [] := List.drop_eq_nil_of_le (by rw [cat_length lbC_len, cat_length lbC_len, List.length_drop, List.length_drop]; omega)
        rw [m2, tk1, e0, putL_mid (by rw [cat_length lbC_len, List.length_take]; omega), e2, List.append_nil, cat_append]
      refine Safe.cpS rfl rfl rfl rfl rfl rfl rfl rfl (by rw [cat_length lbC_len]; show i * 2 + min (l.length + 1 - i) (l.length + 1 - (i + 1)) * 2 ≤ l.length * 2; omega) (by rw [cat_length lbC_len]; show (i + 1) * 2 ≤ l.length * 2; omega) (by show (i + 1) * 2 + min (l.length + 1 - i) (l.length + 1 - (i + 1)) * 2 ≤ N * 2; omega) (hll _ _) ?_
      refine Safe.hpO (h' := [(1, .cells 64 (lbC x) 2), (0, .cells 64 (cat lbC (l.take (i + 1) ++ l.drop i)) (N * 2))]) (congrArg (fun r => [(1, AObj.cells 64 (lbC x) 2), (0, .cells 64 r (N * 2))]) r3) ?_
      refine go 99 rfl ?_
      refine Safe.slO i (l.length + 1) (by omega) d1 rfl rfl rfl rfl ?_
      refine Safe.eqv (v' := .slice 0 (i * 2) (l.length + 1 - i) (N - i)) (by rw [if_neg (by omega), Nat.zero_add]; rfl) ?_
      refine go 99 rfl ?_
      have m1 : min 1 (l.length + 1 - i) = 1 := by omega
      have hlt : i < (l.take (i + 1) ++ l.drop i).length := by simp; omega
      have r4 : putL (cat lbC (l.take (i + 1) ++ l.drop i)) (i * 2) (((lbC x).drop 0).take (min 1 (l.length + 1 - i) * 2)) = cat lbC (insLb l i x) := by
        rw [m1]
        show putL (cat lbC (l.take (i + 1) ++ l.drop i)) (i * 2) (lbC x) = _
        rw [cat_put lbC_len hlt]
        congr 1
        have e3 : (l.take (i + 1)).set i x = l.take i ++ [x] := by
          rw [List.take_succ_eq_append_getElem c1, List.set_append_right _ _ (by simp; omega)]
          have : i - (l.take i).length = 0 := by simp; omega
          rw [this]; rfl
        rw [List.set_append_left _ _ (by simp; omega), e3, insLb, List.append_assoc]; rfl
      refine Safe.cpS rfl rfl rfl rfl rfl rfl rfl rfl (by show 0 + min 1 (l.length + 1 - i) * 2 ≤ 2; omega) (by rw [cat_length lbC_len]; show i * 2 ≤ (l.take (i + 1) ++ l.drop i).length * 2; omega) (by show i * 2 + min 1 (l.length + 1 - i) * 2 ≤ N * 2; omega) (hxl _) ?_
      refine Safe.hpO (h' := [(1, .cells 64 (lbC x) 2), (0, .cells 64 (cat lbC (insLb l i x)) (N * 2))]) (congrArg (fun r => [(1, AObj.cells 64 (lbC x) 2), (0, .cells 64 r (N * 2))]) r4) ?_
      refine go 99 rfl ?_
      exact ⟨.inr rfl, trivial, .done rfl ⟨sgI 2, .slice 0 0 (l.length + 1) N, [(0, .cells 64 (cat lbC (insLb l i x)) (N * 2))], 2, ⟨⟨fit rfl, trivial⟩, ⟨_, .refl _, subD (subK rfl (renO_dry (catLb_d _)) subN)⟩, rfl⟩, N, d1, .inl ⟨rfl, rfl, rfl⟩⟩⟩
end Go.Proofs.YtmohgegpcfkooaaGreatDoor
end

section
namespace Go.Proofs.YtmohgegpcfkooaaGreatDoor
open Go.Fw
variable [Gl]
set_option maxRecDepth 20000
set_option maxHeartbeats 4000000
def gtS (a b : By) : Bool := !(Op.bytesLess a b || a == b)
theorem lb_gt (x : Lb) (k : By) : PTri Tryz.prog 174 [lbV' x, .fptr [.str k] 0] (.bool (gtS x.name k)) := by
  refine PTri.of_safe Tryz.func174 rfl Tryz.results174 Tryz.ntmps174 rfl ?_
  refine go 99 rfl ?_
  refine Safe.ldF (rfl) rfl rfl rfl ?_
  refine go 99 rfl ?_
  exact ⟨.inr rfl, trivial, .done (rfl) rfl⟩
def ixG (k : By) : List Lb → Nat → Int
  | [], _ => -1
  | a :: r, i => if gtS a.name k = true then (i : Int) else ixG k r (i + 1)
theorem lb_index (l : List Lb) (k : By) (hl : l.length ≤ big) : PTri Tryz.prog 173 [slV lbC l, .clo 174 [.fptr [.str k] 0]] (nI (ixG k l 0)) := by
  simp only [big] at hl
  refine PTri.of_safe Tryz.func173 rfl Tryz.results173 Tryz.ntmps173 rfl ?_
  refine go 99 rfl ?_
  refine Safe.loop (α := Nat) (fun i => [(0, slV lbC l), (1, .clo 174 [.fptr [.str k] 0]), (7, nI l.length), (8, nI i)]) (fun i => []) 0 (fun i => l.length - i) (fun i => i ≤ l.length ∧ ixG k l 0 = ixG k (l.drop i) i) 0 (sgI 0) ⟨⟨fit rfl, fit rfl, fit rfl, fit rfl, trivial⟩, ⟨_, .refl _, List.nil_sublist _⟩, rfl⟩ ⟨Nat.zero_le _, rfl⟩ ?_
  rintro i ⟨hi, ha⟩
  refine go 99 rfl ?_
  refine Safe.br rfl (fun c => ?_) (fun c => ?_)
  · have hi : i < l.length := ltc c
    rw [List.drop_eq_getElem_cons hi, ixG] at ha
    refine go 99 rfl ?_
    refine Safe.idxF hi rfl rfl rfl ?_
    refine go 99 rfl ?_
    refine Safe.ldF (ldL hi) rfl rfl rfl ?_
    refine go 99 rfl ?_
    refine Safe.call (lb_gt l[i] k) rfl rfl rfl ?_
    refine go 99 rfl ?_
    refine Safe.br rfl (fun d => ?_) (fun d => ?_)
    · refine go 99 rfl ?_
      exact ⟨.inr rfl, trivial, .done (nIeq (by rw [ha, if_pos d])) rfl⟩
    · refine go 99 rfl ?_
      exact ⟨sgI 0, i + 1, ⟨hi, by rw [ha, if_neg (by rw [d]; simp)]⟩, mlt hi, rfl, rfl, ⟨fit rfl, fit rfl, fit rfl, fit (isucc (by omega)), trivial⟩, ⟨_, .refl _, List.nil_sublist _⟩, rfl⟩
  · have hi2 : i = l.length := Nat.le_antisymm hi (gec c)
    subst hi2
    rw [List.drop_length] at ha
    refine go 99 rfl ?_
    exact ⟨.inr rfl, trivial, .done (nIeq (by rw [ha]; rfl)) rfl⟩
theorem ixG_neg (k : By) : ∀ (l : List Lb) (i : Nat), (ixG k l i < 0 → l.all (fun x => !gtS x.name k) = true) ∧ (0 ≤ ixG k l i → ∃ j, ixG k l i = ((i + j : Nat) : Int) ∧ j < l.length ∧ (l.take j).all (fun x => !gtS x.name k) = true ∧ ∃ h : j < l.length, gtS l[j].name k = true)
  | [], i => ⟨fun _ => rfl, fun h => by simp [ixG] at h⟩
  | a :: r, i => by
    rw [ixG]
    by_cases e : gtS a.name k = true
    · rw [if_pos e]
      exact ⟨fun h => by omega, fun _ => ⟨0, by simp, by simp, rfl, by simp, e⟩⟩
    · rw [if_neg e]
      obtain ⟨h1, h2⟩ := ixG_neg k r (i + 1)
      rw [Bool.not_eq_true] at e
      refine ⟨fun h => by rw [List.all_cons, e, h1 h]; rfl, fun h => ?_⟩
      obtain ⟨j, e1, e2, e3, e4, e5⟩ := h2 h
      exact ⟨j + 1, by rw [e1]; congr 1; omega, by simp; omega, by rw [List.take_succ_cons, List.all_cons, e, e3]; rfl, by simp; omega, by simpa using e5⟩
def posLb (k : By) (l : List Lb) : Nat := if ixG k l 0 < 0 then l.length else (ixG k l 0).toNat
theorem posLb_le (k : By) (l : List Lb) : posLb k l ≤ l.length := by
  unfold posLb
  by_cases h : ixG k l 0 < 0
  · rw [if_pos h]; exact Nat.le_refl _
  · rw [if_neg h]
    obtain ⟨j, e1, e2, _⟩ := (ixG_neg k l 0).2 (by omega)
    rw [e1]; simp; omega
def withLb (l : List Lb) (k v : By) : List Lb := if v = [] then selL [k] false l else insLb (selL [k] false l) (posLb k (selL [k] false l)) ⟨k, v⟩
theorem selL_le (ns : List By) (b : Bool) (l : List Lb) : (selL ns b l).length ≤ l.length := List.length_filter_le _ _
theorem lb_insNil (x : Lb) : TriL Tryz.prog 175 [.nilslice, nI 0, .slice 0 0 1 1] [(0, .cells 64 (lbC x) 2)] 1 (fun v h nx => ∃ N, 1 ≤ N ∧ v = .slice 1 0 1 N ∧ h = [(1, .cells 64 (lbC x) (N * 2))] ∧ nx = 2) := by
  refine TriL.of_safeN Tryz.func175 rfl Tryz.results175 Tryz.ntmps175 rfl ?_
  refine go 99 rfl ?_
  refine Safe.slN rfl rfl rfl rfl rfl rfl rfl ?_
  refine go 99 rfl ?_
  first | refine Safe.gsK true rfl rfl ?_ | refine Safe.gsK false rfl rfl ?_ | refine Safe.brT rfl rfl ?_ | refine Safe.brF rfl rfl ?_
  refine go 99 rfl ?_
  first | refine Safe.gsK true rfl rfl ?_ | refine Safe.gsK false rfl rfl ?_ | refine Safe.brT rfl rfl ?_ | refine Safe.brF rfl rfl ?_
  refine go 99 rfl ?_
  refine Safe.appN (us := lbC x) rfl rfl rfl rfl rfl (rfl) rfl (by omega) (rfl) (by decide) (fun N' hN' => ?_)
  refine go 99 rfl ?_
  exact ⟨.inr rfl, trivial, .done rfl ⟨[(0, 0), (1, 1)], .slice 1 0 1 N', [(1, .cells 64 (lbC x) (N' * 2))], 2, ⟨⟨fit rfl, trivial⟩, ⟨_, .refl _, subK rfl rfl subN⟩, rfl⟩, N', by omega, rfl, rfl, rfl⟩⟩
theorem lb_indexNil (k : By) : PTri Tryz.prog 173 [.nilslice, .clo 174 [.fptr [.str k] 0]] (nI (-1)) :=
  Tri.weak (lb_index [] k (Nat.zero_le _)) rfl fun i u u' h h' => by
    match i, h, h' with
    | 0, h, h' => simp at h h'; subst h h'; exact VLe.nils
    | 1, h, h' => simp at h h'; subst h h'; exact VLe.refl _
    | i + 2, h, _ => simp at h
theorem renH1 {s : Nat → Option Nat} {k j nn : Nat} {T : TypeId} {cs : List V} (hd : cs.all dry = true) (hk : s k = some j) : renH s [(k, .cells T cs nn)] ++ [] = [(j, AObj.cells T cs nn)] := by
  show [(ky s k, renO s (.cells T cs nn))] ++ [] = _
  rw [renO_dry hd, ky_eq hk]; rfl
theorem finLb {l : List Lb} {i : Nat} {x : Lb} (hi : i ≤ l.length) : V.fslice (cat lbC (insLb l i x)) (l.length + 1) = slV lbC (insLb l i x) := by
  have e : (insLb l i x).length = l.length + 1 := by simp [insLb]; omega
  rw [slV, e]
theorem relH2 {sg : Sg} {a b i j : Nat} {A B : AObj} (ha : sgF sg a = some i) (hb : sgF sg b = some j) (h1 : renO (sgF sg) A = A) (h2 : renO (sgF sg) B = B) : relH sg [(a, A), (b, B)] ++ [] = [(i, A), (j, B)] := by
  simp only [relH, ha, hb, h1, h2, List.append_nil]
theorem lb_with (l : List Lb) (k v : By) (hl : l.length ≤ 100000) : PTri Tryz.prog 145 [slV lbC l, .str k, .str v] (slV lbC (withLb l k v)) := by
  have hle := selL_le [k] false l
  have hW := withLb.eq_1 l k v
  refine PTri.of_safe Tryz.func145 rfl Tryz.results145 Tryz.ntmps145 rfl ?_
  refine go 99 rfl ?_
  refine Safe.frzO 1 rfl rfl ?_
  refine Safe.frzO 0 rfl rfl ?_
  refine Safe.callL (rest := []) [] (lb_drop l [k] hl (show 1 ≤ big by decide)) rfl rfl rfl rfl (.refl _) (fun v' h' nx' q => ?_)
  obtain ⟨G, ⟨hG, hN⟩, rfl, rfl, rfl⟩ := q
  generalize hr : selL [k] false l = rest at *
  cases G with
  | none =>
    obtain rfl : rest = [] := List.length_eq_zero_iff.1 (hG rfl)
    refine go 99 rfl ?_
    refine Safe.br rfl (fun c => ?_) (fun c => ?_)
    · have c1 : v = [] := by simpa using c
      rw [if_pos c1] at hW
      rw [hW]
      refine go 99 rfl ?_
      exact ⟨.inr rfl, trivial, .weak rfl rfl (wkE rfl)⟩
    · have c1 : ¬ v = [] := by simpa using c
      rw [if_neg c1] at hW
      rw [hW]
      refine go 99 rfl ?_
      refine Safe.call (lb_indexNil k) rfl rfl rfl ?_
      refine go 99 rfl ?_
      first | refine Safe.gsK true rfl rfl ?_ | refine Safe.gsK false rfl rfl ?_ | refine Safe.brT rfl rfl ?_ | refine Safe.brF rfl rfl ?_
      refine go 99 rfl ?_
      refine Safe.ldF (rfl) rfl rfl rfl ?_
      refine go 99 rfl ?_
      refine Safe.callL (rest := []) [(0, 3)] (lb_insNil ⟨k, v⟩) rfl rfl rfl rfl (.refl _) (fun v' h' nx' q => ?_)
      obtain ⟨N, hN1, rfl, rfl, rfl⟩ := q
      refine go 99 rfl ?_
      exact ⟨.inr rfl, trivial, .frz 4 rfl rfl (.done rfl rfl)⟩
  | some N =>
    have hlN := hN N rfl
    refine Safe.hpO (h' := [(2, .cells 64 (cat lbC rest) (N * 2))]) (renH1 (catLb_d _) rfl) ?_
    refine go 99 rfl ?_
    refine Safe.br rfl (fun c => ?_) (fun c => ?_)
    · have c1 : v = [] := by simpa using c
      rw [if_pos c1] at hW
      rw [hW]
      refine go 99 rfl ?_
      exact ⟨.inr rfl, trivial, .frz 2 rfl (catLb_dry rest) (.done rfl rfl)⟩
    · have c1 : ¬ v = [] := by simpa using c
      rw [if_neg c1] at hW
      rw [hW]
      have hp := posLb.eq_1 k rest
      have hple := posLb_le k rest
      refine go 99 rfl ?_
      refine Safe.callF 2 (lb_index rest k (by simp only [big]; omega)) rfl rfl rfl rfl ?_ rfl ?_
      · exact catLb_d rest
      refine go 99 rfl ?_
      refine Safe.br rfl (fun d => ?_) (fun d => ?_)
      · have d1 : ixG k rest 0 < 0 := of_decide_eq_true d
        rw [if_pos d1] at hp
        refine go 99 rfl ?_
        refine Safe.ldF (rfl) rfl rfl rfl ?_
        refine go 99 rfl ?_
        refine Safe.callL (rest := []) [(0, 2), (1, 3)] (lb_insert rest ⟨k, v⟩ rest.length N (Nat.le_refl _) (by omega) hlN) rfl rfl rfl rfl (List.Perm.of_eq (relH2 rfl rfl rfl (renO_dry (catLb_d rest)))) (fun v' h' nx' q => ?_)
        rw [hp]
        obtain ⟨N', hN', ⟨rfl, rfl, rfl⟩ | ⟨rfl, rfl, rfl⟩⟩ := q
        · refine Safe.hpO (h' := [(2, .cells 64 (cat lbC (insLb rest rest.length ⟨k, v⟩)) (N' * 2))]) (renH1 (catLb_d _) rfl) ?_
          refine go 99 rfl ?_
          exact ⟨.inr rfl, trivial, .frz 2 rfl (catLb_dry _) (.done (congrArg some (finLb (Nat.le_refl _))) rfl)⟩
        · refine Safe.hpO (h' := [(4, .cells 64 (cat lbC (insLb rest rest.length ⟨k, v⟩)) (N' * 2))]) (renH1 (catLb_d _) rfl) ?_
          refine go 99 rfl ?_
          exact ⟨.inr rfl, trivial, .frz 4 rfl (catLb_dry _) (.done (congrArg some (finLb (Nat.le_refl _))) rfl)⟩
      · have d1 : ¬ ixG k rest 0 < 0 := of_decide_eq_false d
        rw [if_neg d1] at hp
        refine go 99 rfl ?_
        refine Safe.ldF (rfl) rfl rfl rfl ?_
        refine go 99 rfl ?_
        obtain ⟨j, hj⟩ : ∃ j : Nat, ixG k rest 0 = (j : Int) := ⟨_, (Int.toNat_of_nonneg (by omega)).symm⟩
        rw [hj, Int.toNat_natCast] at hp
        rw [hj]
        subst hp
        refine Safe.callL (rest := []) [(0, 2), (1, 3)] (lb_insert rest ⟨k, v⟩ (posLb k rest) N hple (by omega) hlN) rfl rfl rfl rfl (List.Perm.of_eq (relH2 rfl rfl rfl (renO_dry (catLb_d rest)))) (fun v' h' nx' q => ?_)
        obtain ⟨N', hN', ⟨rfl, rfl, rfl⟩ | ⟨rfl, rfl, rfl⟩⟩ := q
        · refine Safe.hpO (h' := [(2, .cells 64 (cat lbC (insLb rest (posLb k rest) ⟨k, v⟩)) (N' * 2))]) (renH1 (catLb_d _) rfl) ?_
          refine go 99 rfl ?_
          exact ⟨.inr rfl, trivial, .frz 2 rfl (catLb_dry _) (.done (congrArg some (finLb hple)) rfl)⟩
        · refine Safe.hpO (h' := [(4, .cells 64 (cat lbC (insLb rest (posLb k rest) ⟨k, v⟩)) (N' * 2))]) (renH1 (catLb_d _) rfl) ?_
          refine go 99 rfl ?_
          exact ⟨.inr rfl, trivial, .frz 4 rfl (catLb_dry _) (.done (congrArg some (finLb hple)) rfl)⟩
end Go.Proofs.YtmohgegpcfkooaaGreatDoor
end

section
namespace Go.Proofs.YtmohgegpcfkooaaGreatDoor
open Go.Deep Go.ChangeShapes Go.WideShapes Go.ChangeAt Go.RowKit Go.Fw Go.ChangeMaps
section
variable {H : Type} {enc : TypeId × Value → H} {W : World} {base : Nat} {sp : Nat → Bool} {held : Bool}
abbrev strK (s : By) : List V := [.str s]
def RcAt (W : World) (vs : List V) (cs : List Value) (off : Nat) : Prop := ∀ i v, vs[i]? = some v → ∃ x, cs[off + i]? = some x ∧ VR (fun b => W.heap[b]?) v x
def Rc (W : World) (vs : List V) (cs : List Value) : Prop := cs.length = vs.length ∧ RcAt W vs cs 0
theorem RcAt.app {a b : List V} {cs : List Value} {off : Nat} (h1 : RcAt W a cs off) (h2 : RcAt W b cs (off + a.length)) : RcAt W (a ++ b) cs off := fun i v hv => by
  by_cases hi : i < a.length
  · rw [List.getElem?_append_left hi] at hv
    exact h1 i v hv
  · rw [List.getElem?_append_right (by omega)] at hv
    obtain ⟨x, hx, r⟩ := h2 _ v hv
    exact ⟨x, by rw [← hx]; congr 1; omega, r⟩
theorem RcAt.of {a : List V} {cs : List Value} {off n : Nat} (h : Rc W a ((cs.drop off).take n)) : RcAt W a cs off := fun i v hv => by
  obtain ⟨x, hx, r⟩ := h.2 i v hv
  rw [Nat.zero_add] at hx
  have hn : i < n := by
    have := (List.getElem?_eq_some_iff.1 hx).1
    simp at this; omega
  rw [List.getElem?_take_of_lt hn, List.getElem?_drop] at hx
  exact ⟨x, hx, r⟩
def RdT {H : Type} (enc : TypeId × Value → H) (W : World) (base : Nat) (sp : Nat → Bool) (held : Bool) (T : TypeId) (n : Nat) {α : Type} (e : α → List V) (ok : α → Prop) : Prop :=
  ∀ cs (x : DataW H × List MemPlace), DataW.trod enc Tryz.prog W base sp held n T cs = some x → Rows.uptoBulk x.1 ≤ 1048576 → ∃ a, Rc W (e a) cs ∧ ok a
theorem rc_one {v : V} {x : Value} (h : VR (fun b => W.heap[b]?) v x) : Rc W [v] [x] := ⟨rfl, fun i u hu => by
  cases i with
  | zero => simp at hu; subst hu; exact ⟨x, rfl, h⟩
  | succ i => simp at hu⟩
theorem rd_str {T n : Nat} (hT : Tryz.prog.underlying T = some .string) : RdT enc W base sp held T n strK (fun s => s.length ≤ big) := fun cs x h hb => by
  obtain ⟨s, rfl, rfl, _⟩ := DataW.trod_string hT h
  refine ⟨s.data.toList, rc_one (.str _), ?_⟩
  simp only [Rows.uptoBulk] at hb
  simp only [big]; omega
theorem rd_int {T n : Nat} {k : IntKind} (hT : Tryz.prog.underlying T = some (.int k)) : RdT enc W base sp held T n (fun z : Int => [V.int k z]) (fun _ => True) := fun cs x h hb => by
  obtain ⟨z, rfl, rfl, _⟩ := DataW.trod_int hT h
  exact ⟨z, rc_one (.int _ _), trivial⟩
theorem bulk_part {d : DataW H} : ∀ {l : List (DataW H)}, d ∈ l → Rows.uptoBulk d ≤ Rows.uptoBulkAll l
  | x :: r, h => by
    simp only [Rows.uptoBulkAll]
    rcases List.mem_cons.1 h with rfl | h
    · omega
    · have := bulk_part h; omega
theorem bulk_pos (d : DataW H) : 1 ≤ Rows.uptoBulk d := by
  cases d with
  | lit y => cases y <;> simp [Rows.uptoBulk]
  | _ => simp [Rows.uptoBulk]
theorem bulk_len : ∀ ls : List (DataW H), ls.length ≤ Rows.uptoBulkAll ls
  | [] => by simp [Rows.uptoBulkAll]
  | d :: r => by
    have := bulk_pos d
    have := bulk_len r
    simp only [Rows.uptoBulkAll, List.length_cons]; omega
theorem list_choose {α : Type} {p : Nat → α → Prop} : ∀ (n : Nat), (∀ i, i < n → ∃ a, p i a) → ∃ l : List α, l.length = n ∧ ∀ i (h : i < l.length), p i l[i]
  | 0, _ => ⟨[], rfl, fun i h => by simp at h⟩
  | n + 1, hp => by
    obtain ⟨l, hl, hi⟩ := list_choose n fun i h => hp i (by omega)
    obtain ⟨a, ha⟩ := hp n (by omega)
    refine ⟨l ++ [a], by simp [hl], fun i h => ?_⟩
    by_cases hil : i < l.length
    · rw [List.getElem_append_left hil]; exact hi i hil
    · have : i = l.length := by simp at h; omega
      subst this
      simp only [List.getElem_concat_length]
      rw [hl]; exact ha
theorem rd_slice {α : Type} {T e k n : Nat} {en : α → List V} {ok : α → Prop} (hT : Tryz.prog.underlying T = some (.slice e)) (hk : Tryz.prog.cellsOf e = k) (hlen : ∀ a, (en a).length = k) (he : ∀ m, m < n → RdT enc W base sp held e m en ok) :
    RdT enc W base sp held T n (fun l : List α => [slV en l]) (fun l => l.length ≤ big ∧ ∀ a ∈ l, ok a) := fun cs x h hb => by
  letI := glOf W
  rcases DataW.trod_slice hT h with ⟨rfl, rfl⟩ | ⟨a, len, cap, elems, rest, m, rfl, rfl, rfl, hbs, hl, hm, hlen', hel, -, -⟩
  · exact ⟨[], rc_one .fnil, by simp, fun a ha => by simp at ha⟩
  · simp only [Rows.uptoBulk] at hb
    obtain ⟨l, hll, hi⟩ := list_choose (α := α) (p := fun i x => ∃ cs', W.cells? base (a.add (i * k)) k = some cs' ∧ Rc W (en x) cs' ∧ ok x) len fun i hil => by
      have h1 := hel i hil
      rw [hk, List.getElem?_eq_getElem (by omega)] at h1
      obtain ⟨cs', h2, h3⟩ := Option.bind_eq_some_iff.1 h1
      have h4 := bulk_part (d := elems[i].1) (l := elems.map (·.1)) (List.mem_map_of_mem (List.getElem_mem _))
      obtain ⟨x, h5, h6⟩ := he m (by omega) cs' _ h3 (by omega)
      exact ⟨x, cs', h2, h5, h6⟩
    refine ⟨l, rc_one ?_, ?_, fun x hx => ?_⟩
    · have hcell : ∀ j r (hj : j < l.length), r < k → ∃ u, W.cell? (a.add (j * k + r)) = some u ∧ ∀ v, (en l[j])[r]? = some v → VR (fun b => W.heap[b]?) v u := fun j r hj hr => by
        obtain ⟨cs', h2, h5, _⟩ := hi j hj
        obtain ⟨_, hlc, hc⟩ := World.cells?_some h2
        have h7 := hc r hr
        rw [List.getElem?_eq_getElem (by omega), Go.Deep.add_add] at h7
        refine ⟨_, h7, fun v hv => ?_⟩
        obtain ⟨u, hu, q⟩ := h5.2 r v hv
        rw [Nat.zero_add, List.getElem?_eq_getElem (by omega), Option.some.injEq] at hu
        rw [hu]; exact q
      have := VR.fslice (F := fun b => W.heap[b]?) (cat en l) l.length a cap (fun i => (W.cell? (a.add i)).getD undef) (by omega) (fun i hil => ?_) (fun i v hv => ?_)
      · unfold slV; rw [← hll]; exact this
      · rw [cat_length hlen] at hil
        have hkp : 0 < k := Nat.pos_of_ne_zero fun e => by subst e; simp at hil
        have hj : i / k < l.length := Nat.div_lt_of_lt_mul (by rw [Nat.mul_comm]; exact hil)
        obtain ⟨u, hu, _⟩ := hcell (i / k) (i % k) hj (Nat.mod_lt _ hkp)
        have e1 : i / k * k + i % k = i := by rw [Nat.mul_comm]; exact Nat.div_add_mod i k
        rw [e1] at hu
        show W.cell? (a.add i) = _
        rw [hu]; rfl
      · have hil := (List.getElem?_eq_some_iff.1 hv).1
        rw [cat_length hlen] at hil
        have hkp : 0 < k := Nat.pos_of_ne_zero fun e => by subst e; simp at hil
        have hj : i / k < l.length := Nat.div_lt_of_lt_mul (by rw [Nat.mul_comm]; exact hil)
        obtain ⟨u, hu, hq⟩ := hcell (i / k) (i % k) hj (Nat.mod_lt _ hkp)
        have e1 : i / k * k + i % k = i := by rw [Nat.mul_comm]; exact Nat.div_add_mod i k
        rw [e1] at hu
        rw [hu]
        refine hq v ?_
        rw [← cat_get hlen hj (Nat.mod_lt _ hkp), e1, hv]
    · have := bulk_len (elems.map (·.1))
      rw [List.length_map] at this
      simp only [big]; omega
    · obtain ⟨i, hil, rfl⟩ := List.getElem_of_mem hx
      obtain ⟨_, _, _, h6⟩ := hi i hil
      exact h6
theorem rd_field {n i : Nat} {f : Field} {fs : Array Field} {xs : List (DataW H × List MemPlace)} {cs : List Value} {α : Type} {e : α → List V} {ok : α → Prop} (hf : ∀ (i : Nat) (f : Field), fs[i]? = some f → DataW.trod enc Tryz.prog W base sp held n f.type ((cs.drop f.offset).take (Tryz.prog.cellsOf f.type)) = xs[i]?) (hlen : xs.length = fs.size)
    (hb : Rows.uptoBulk (.agg (xs.map (·.1))) ≤ 1048576) (hi : fs[i]? = some f) (hr : RdT enc W base sp held f.type n e ok) : ∃ a, RcAt W (e a) cs f.offset ∧ ok a := by
  have h1 := hf i f hi
  have hlt : i < xs.length := by rw [hlen]; exact (Array.getElem?_eq_some_iff.1 hi).1
  rw [List.getElem?_eq_getElem hlt] at h1
  have h2 := bulk_part (d := xs[i].1) (l := xs.map (·.1)) (List.mem_map_of_mem (List.getElem_mem _))
  simp only [Rows.uptoBulk] at hb
  obtain ⟨a, ha, hok⟩ := hr _ _ h1 (by omega)
  exact ⟨a, .of ha, hok⟩
theorem band {a b : Bool} (h : a = true) (h2 : b = true) : (a && b) = true := by rw [h, h2]; rfl
end
end Go.Proofs.YtmohgegpcfkooaaGreatDoor
end

section
namespace Go.Proofs.YtmohgegpcfkooaaGreatDoor
open Go.Fw
variable [Gl]
set_option maxRecDepth 20000
set_option maxHeartbeats 4000000
def decLb : List V → Option (List Lb)
  | [] => some []
  | .str a :: .str b :: r => match decLb r with
    | some l => some (⟨a, b⟩ :: l)
    | none => none
  | _ => none
theorem decLb_ok : ∀ {cs : List V} {l : List Lb}, decLb cs = some l → cs = cat lbC l
  | [], l, h => by simp only [decLb, Option.some.injEq] at h; subst h; rfl
  | [_], l, h => by simp [decLb] at h
  | x :: y :: r, l, h => by
    unfold decLb at h
    split at h
    · rename_i e; cases e
    · rename_i a b r' e
      simp only [List.cons.injEq] at e
      obtain ⟨rfl, rfl, rfl⟩ := e
      split at h
      · rename_i l' hl
        simp only [Option.some.injEq] at h
        subst h
        rw [decLb_ok hl, cat_cons]; rfl
      · simp at h
    · simp at h
def withO (cs : List V) (n : Nat) (k v : By) : Option V := match decLb cs with
  | some l => match Nat.beq l.length n && Nat.ble l.length 1000 with
    | true => some (slV lbC (withLb l k v))
    | false => none
  | none => none
def oL : Orc := fun f us => match f, us with
  | 113, [.str s, .int .u8 c] => some (.int .i64 (Lib.indexByte s c.toNat.toUInt8))
  | 145, [.fslice cs n, .str k, .str v] => withO cs n k v
  | 145, [.nilslice, .str k, .str v] => withO [] 0 k v
  | _, _ => none
def hzL : FuncId → Nat → Bool := fun f r => match f, r with
  | 13, 8 => true
  | 54, 999999 => true
  | 168, 999999 => true
  | 103, 9 => true
  | _, _ => false
end Go.Proofs.YtmohgegpcfkooaaGreatDoor
end

section
namespace Go.Proofs.YtmohgegpcfkooaaGreatDoor
open Go.Fw
variable [Gl]
set_option maxRecDepth 20000
set_option maxHeartbeats 4000000
theorem aw_run : eF Tryz.prog oL hzL 100000 30 13 [] [] 0 = some (.bool true, [], 37) := by kernel_rfl
end Go.Proofs.YtmohgegpcfkooaaGreatDoor
end

section
namespace Go.Proofs.YtmohgegpcfkooaaGreatDoor
open Go.Fw
variable [Gl]
set_option maxRecDepth 20000
set_option maxHeartbeats 4000000
theorem vrs_str8 {s : List UInt8} {c : Int} (F : Froz) (av : Array Value) (h : VRs F [.str s, .int .u8 c] av) : av = #[.string ⟨s.toArray⟩, .int .u8 c] := by
  have h0 := (h.2 0 _ rfl).str_inv
  have h1 := (h.2 1 _ rfl).int_inv
  have hs := h.1
  simp at hs
  obtain ⟨L⟩ := av
  match L, hs with
  | [x, y], _ => simp at h0 h1; rw [h0, h1]
theorem ix_byte (s : By) (c : Int) : PTri Tryz.prog 113 [.str s, .int .u8 c] (.int .i64 (Lib.indexByte s c.toNat.toUInt8)) :=
  PTri.of_same _ _ (fun F av h => vrs_str8 F av h) (fun w => Tryz.stringslite_IndexByte _ _ w) (fun F => .int _ _)
theorem with_nil (k v : By) : PTri Tryz.prog 145 [.nilslice, .str k, .str v] (slV lbC (withLb [] k v)) :=
  Tri.weak (lb_with [] k v (Nat.zero_le _)) rfl fun i u u' h h' => by
    match i, h, h' with
    | 0, h, h' => simp at h h'; subst h h'; exact VLe.nils
    | 1, h, h' => simp at h h'; subst h h'; exact VLe.refl _
    | 2, h, h' => simp at h h'; subst h h'; exact VLe.refl _
    | i + 3, h, _ => simp at h
theorem withO_ok {cs : List V} {n : Nat} {k v : By} {r : V} (h : withO cs n k v = some r) : ∃ l : List Lb, cs = cat lbC l ∧ l.length = n ∧ l.length ≤ 1000 ∧ r = slV lbC (withLb l k v) := by
  unfold withO at h
  split at h
  · rename_i l hl
    split at h
    · rename_i hc
      simp only [Bool.and_eq_true] at hc
      simp only [Option.some.injEq] at h
      exact ⟨l, decLb_ok hl, Nat.eq_of_beq_eq_true hc.1, Nat.le_of_ble_eq_true hc.2, h.symm⟩
    · simp at h
  · simp at h
theorem oL_ok : OrcOk Tryz.prog oL := by
  intro f us v h
  unfold oL at h
  split at h
  · obtain rfl := Option.some.inj h
    exact ⟨by kernel_rfl, rfl, rfl, ix_byte _ _⟩
  · obtain ⟨l, rfl, rfl, hl, rfl⟩ := withO_ok h
    exact ⟨by kernel_rfl, rfl, rfl, lb_with l _ _ (by omega)⟩
  · obtain ⟨l, hc, h0, hl, rfl⟩ := withO_ok h
    obtain rfl : l = [] := List.length_eq_zero_iff.1 h0
    exact ⟨by kernel_rfl, rfl, rfl, with_nil _ _⟩
  · cases h
theorem l_awake : PTri Tryz.prog 13 [] (.bool true) := PTri.closed oL_ok mixed hzL 100000 30 aw_run rfl rfl
end Go.Proofs.YtmohgegpcfkooaaGreatDoor
end

section
namespace Go.Proofs.YtmohgegpcfkooaaGreatDoor
open Go.Fw
variable [Gl]
set_option maxRecDepth 20000
set_option maxHeartbeats 4000000
end Go.Proofs.YtmohgegpcfkooaaGreatDoor
end

section
namespace Go.Proofs.YtmohgegpcfkooaaGreatDoor
open Go.Fw
variable [Gl]
def GInt : Prop := ∃ m : Int, fcell Gl.g ⟨0, 0, none⟩ = some (.int .i64 m)
end Go.Proofs.YtmohgegpcfkooaaGreatDoor
end

section
namespace Go.Proofs.YtmohgegpcfkooaaGreatDoor
open Go.Deep Go.ChangeShapes Go.WideShapes Go.ChangeAt Go.RowKit Go.Fw Go.ChangeMaps
theorem laidOut : laidOutB Tryz.prog = true := by kernel_rfl
theorem own : ownKnob Tryz.prog.godebug = none := by kernel_rfl
theorem gint_start {W : World} (h : W.ShapedOpen Tryz.prog) : @GInt (glOf W) := by
  obtain ⟨m, hm⟩ := Tryz.laysM219.s1_3 W h
  exact ⟨m, fcell_start hm rfl⟩
noncomputable def laidWorld (os : Os) : World :=
  let w0 := World.holding Tryz.prog os ⟨#[], #[], []⟩
  let put (h : Array Obj) (g : Nat) (cs : Array Value) : Array Obj := h.modify g fun
    | .cells _ t frozen => .cells cs t frozen
    | o => o
  let h1 := put w0.heap 6 (Go.Pinned.utf8FirstZ.map fun (z : Nat) => Value.int .u8 (z : Int)).toArray
  let h2 := put h1 7 #[.int .u8 128, .int .u8 191, .int .u8 160, .int .u8 191, .int .u8 128, .int .u8 159, .int .u8 144, .int .u8 191, .int .u8 128, .int .u8 143, .int .u8 0, .int .u8 0, .int .u8 0, .int .u8 0, .int .u8 0, .int .u8 0, .int .u8 0, .int .u8 0, .int .u8 0, .int .u8 0, .int .u8 0, .int .u8 0, .int .u8 0, .int .u8 0, .int .u8 0, .int .u8 0, .int .u8 0, .int .u8 0, .int .u8 0, .int .u8 0, .int .u8 0, .int .u8 0]
  { w0 with heap := h2 }
abbrev laidL : List (String × DataW Unit) := [("unicode/utf8.acceptRanges", Rows.laid_unicode_utf8_acceptRanges), ("unicode/utf8.first", Rows.laid_unicode_utf8_first)]
theorem laid_met (os : Os) (args : Array Value) : laidMet Tryz.prog laidL ((laidWorld os).forCall (fun _ _ => 0) ⟨#[], args, []⟩).memory :=
  laidMet_of_run' 8 (by kernel_rfl) (by kernel_rfl)
section
variable {H : Type} {enc : TypeId × Value → H} {W : World} {base b0 : Nat} {r : Reach} {sp : Nat → Bool} {held : Bool} {v : Value} {d : DataW H} {p : List MemPlace}
end
end Go.Proofs.YtmohgegpcfkooaaGreatDoor
end

section
namespace Go.Proofs.YtmohgegpcfkooaaGreatDoor.Al
open Go.Fw
variable [Gl]
abbrev By := List UInt8
structure Mat where
  kind : Int
  name : By
  value : By
structure Stg where
  kind : Int
  text : By
  ms : List Mat
  names : List By
def strC (s : By) : List V := [.str s]
def matC (x : Mat) : List V := [.int .i64 x.kind, .str x.name, .str x.value]
def stgC (x : Stg) : List V := [.int .i64 x.kind, .str x.text, slV matC x.ms, slV strC x.names]
abbrev nI (n : Int) : V := .int .i64 n
theorem ldStr {l : List By} {i : Nat} (hi : i < l.length) : ldAt Tryz.prog 9 (cat strC l) (i * 1) = some (.str l[i]) := by
  have := ld_cat1 (P := Tryz.prog) (T := 9) (enc := strC) 0 (fun _ => rfl) hi (by decide) (by kernel_rfl) rfl
  simpa using this
end Go.Proofs.YtmohgegpcfkooaaGreatDoor.Al
end

section
namespace Go.Proofs.YtmohgegpcfkooaaGreatDoor.Al
open Go.Fw
variable [Gl]
theorem mlt {n i : Nat} (h : i < n) : n - (i + 1) < n - i := by omega
def big : Nat := 4194304
def okN (l : List By) : Prop := l.length ≤ big ∧ ∀ s ∈ l, s.length ≤ big
def okM (x : Mat) : Prop := x.name.length ≤ big ∧ x.value.length ≤ big
def okMs (l : List Mat) : Prop := l.length ≤ big ∧ ∀ x ∈ l, okM x
def okS (x : Stg) : Prop := x.text.length ≤ big ∧ okMs x.ms ∧ okN x.names
def okSs (l : List Stg) : Prop := l.length ≤ big ∧ ∀ x ∈ l, okS x
theorem isucc {i : Nat} (h : i < 4611686018427387904) : some (V.int .i64 (IntKind.i64.wrap ((i : Int) + 1))) = some (V.int .i64 ((i + 1 : Nat) : Int)) := int_fit (by omega) (by omega) (by omega)
theorem ltc {i n : Nat} (c : decide ((i : Int) < (n : Int)) = true) : i < n := by simpa using c
theorem gec {i n : Nat} (c : decide ((i : Int) < (n : Int)) = false) : n ≤ i := by simpa using c
set_option maxRecDepth 20000
theorem nIeq {a b : Int} (h : a = b) : some (V.int .i64 a) = some (V.int .i64 b) := by rw [h]
theorem mixed : Tryz.prog.follows .mixedOrders = true := by kernel_rfl
theorem lec {i n : Nat} (c : decide ((i : Int) ≤ (n : Int)) = true) : i ≤ n := by simpa using c
theorem gtc {i n : Nat} (c : decide ((i : Int) ≤ (n : Int)) = false) : n < i := by simpa using c
end Go.Proofs.YtmohgegpcfkooaaGreatDoor.Al
end

section
namespace Go.Proofs.YtmohgegpcfkooaaGreatDoor
open Go.Deep Go.ChangeShapes Go.WideShapes Go.ChangeAt Go.RowKit Go.Fw Go.ChangeMaps
section
variable {H : Type} {enc : TypeId × Value → H} {W : World} {base b0 : Nat} {r : Reach} {sp : Nat → Bool} {held : Bool} {v : Value} {d : DataW H} {p : List MemPlace}
theorem rd_strs {n : Nat} : RdT enc W base sp held 25 n (fun l : List By => [slV Al.strC l]) Al.okN := rd_slice (k := 1) Tryz.underlying25 (by kernel_rfl) (fun _ => rfl) fun m _ => rd_str Tryz.underlying9
theorem rd_mat {n : Nat} : RdT enc W base sp held 88 n Al.matC Al.okM := fun cs x h hb => by
  obtain ⟨xs, m, rfl, rfl, hl, hlen, hf⟩ := DataW.trod_struct Tryz.underlying88 h
  obtain ⟨a0, r0, o0⟩ := rd_field (i := 0) hf hlen hb rfl (rd_int Tryz.underlying3)
  obtain ⟨a1, r1, o1⟩ := rd_field (i := 1) hf hlen hb rfl (rd_str Tryz.underlying9)
  obtain ⟨a2, r2, o2⟩ := rd_field (i := 2) hf hlen hb rfl (rd_str Tryz.underlying9)
  exact ⟨⟨a0, a1, a2⟩, ⟨hl.trans (by kernel_rfl), r0.app (r1.app r2)⟩, o1, o2⟩
theorem rd_mats {n : Nat} : RdT enc W base sp held 45 n (fun l : List Al.Mat => [slV Al.matC l]) Al.okMs := rd_slice (k := 3) Tryz.underlying45 (by kernel_rfl) (fun _ => rfl) fun m _ => rd_mat
theorem rd_stg {n : Nat} : RdT enc W base sp held 47 n Al.stgC Al.okS := fun cs x h hb => by
  obtain ⟨xs, m, rfl, rfl, hl, hlen, hf⟩ := DataW.trod_struct Tryz.underlying47 h
  obtain ⟨a0, r0, o0⟩ := rd_field (i := 0) hf hlen hb rfl (rd_int Tryz.underlying3)
  obtain ⟨a1, r1, o1⟩ := rd_field (i := 1) hf hlen hb rfl (rd_str Tryz.underlying9)
  obtain ⟨a2, r2, o2⟩ := rd_field (i := 2) hf hlen hb rfl rd_mats
  obtain ⟨a3, r3, o3⟩ := rd_field (i := 3) hf hlen hb rfl rd_strs
  exact ⟨⟨a0, a1, a2, a3⟩, ⟨hl.trans (by kernel_rfl), r0.app (r1.app (r2.app r3))⟩, o1, o2, o3⟩
theorem rd_stgs {n : Nat} : RdT enc W base sp held 22 n (fun l : List Al.Stg => [slV Al.stgC l]) Al.okSs := rd_slice (k := 4) Tryz.underlying22 (by kernel_rfl) (fun _ => rfl) fun m _ => rd_stg
set_option maxRecDepth 100000 in
theorem open_stgs (hval : Value.okWide Tryz.prog W r b0 22 v) (hd : DataW.Trod enc Tryz.prog W base sp held 22 v d p) (hb : Rows.uptoBulk d ≤ 1048576) : ∃ e : List Al.Stg, VR (fun b => W.heap[b]?) (slV Al.stgC e) v ∧ Al.okSs e := by
  obtain ⟨a, len, cap, rfl⟩ := okWide_slice Tryz.underlying22 hval
  obtain ⟨fuel, hf⟩ := hd
  obtain ⟨l, hl, ho⟩ := rd_stgs (n := fuel) _ (d, p) hf hb
  obtain ⟨x, hx, q⟩ := hl.2 0 _ rfl
  have : x = .slice a len cap := by simpa [Value.cells] using hx.symm
  rw [this] at q
  exact ⟨l, q, ho⟩
end
end Go.Proofs.YtmohgegpcfkooaaGreatDoor
end

section
namespace Go.Proofs.YtmohgegpcfkooaaGreatDoor.Al
open Go.Fw
variable [Gl]
set_option maxRecDepth 20000
set_option maxHeartbeats 2000000
variable {rx : By → Int}
end Go.Proofs.YtmohgegpcfkooaaGreatDoor.Al
end

section
namespace Go.Proofs.YtmohgegpcfkooaaGreatDoor.Al
open Go.Fw
variable [Gl]
set_option maxRecDepth 20000
set_option maxHeartbeats 4000000
def nxt (s : By) (i : Nat) (c : UInt8) : Bool := s[i]? == some c
abbrev prs (s : By) (i : Nat) : Hp := [(0, .cells 183 [.str s, nI i] 2)]
theorem hpEq {s : By} {i j : Nat} {v : V} (h : v = nI j) (hij : i = j) : [(0, AObj.cells 183 [.str s, v] 2)] = prs s i := by rw [h, hij]
theorem rx_skip (s : By) (i : Nat) (q : UInt8) (hs : s.length ≤ 200) (hi : i ≤ s.length) : TriL Tryz.prog 191 [.ptr 0 0, .int .u8 q.toNat] (prs s i) 1 (fun v h nx => v = .bool (nxt s i q) ∧ h = prs s (if nxt s i q = true then i + 1 else i) ∧ nx = 1) := by
  refine TriL.of_safe Tryz.func191 rfl Tryz.results191 Tryz.ntmps191 rfl ?_
  refine go 99 rfl ?_
  refine Safe.draw mixed ?_
  refine DS.go [0,1,2,3,4,5,6,7,8,9,10] rfl rfl (by kernel_rfl) ?_
  refine DS.gs 11 rfl rfl (fun c => ?_) (fun c => ?_)
  · have h0 : i = s.length := by simp at c; omega
    have hn : nxt s i q = false := by simp [nxt, h0]
    refine DS.go [11,12,13,14,15,16,17,18,19,20,21,22] rfl rfl (by kernel_rfl) ?_
    refine DS.fin (by kernel_rfl) rfl ?_
    refine go 99 rfl ?_
    exact ⟨.inr rfl, rfl, rfl, .done rfl ⟨by rw [hn], by rw [hn]; rfl, rfl⟩⟩
  · have h0 : i < s.length := by simp at c; omega
    refine DS.go [11,12,13,14,15,16,17,18] rfl rfl (by kernel_rfl) ?_
    refine DS.val (i := 19) (ev_idxS h0 rfl rfl).ev rfl rfl rfl rfl (by kernel_rfl) ?_
    refine DS.go [20,21,22] rfl rfl (by kernel_rfl) ?_
    refine DS.fin (by kernel_rfl) rfl ?_
    refine go 99 rfl ?_
    refine Safe.br rfl (fun d => ?_) (fun d => ?_)
    · have hn : nxt s i q = false := by
        simp only [nxt, List.getElem?_eq_getElem h0]
        simp at d
        simp [← UInt8.toNat_inj]
        omega
      refine go 99 rfl ?_
      exact ⟨.inr rfl, rfl, rfl, .done rfl ⟨by rw [hn], by rw [hn]; rfl, rfl⟩⟩
    · have hn : nxt s i q = true := by
        simp only [nxt, List.getElem?_eq_getElem h0]
        simp at d
        simp [← UInt8.toNat_inj]
        omega
      refine go 99 rfl ?_
      exact ⟨.inr rfl, rfl, rfl, .done rfl ⟨by rw [hn], by rw [hn, if_pos rfl]; exact hpEq (congrArg (V.int .i64) (wrap64_fit (by omega) (by omega))) rfl, rfl⟩⟩
end Go.Proofs.YtmohgegpcfkooaaGreatDoor.Al
end

section
namespace Go.Proofs.YtmohgegpcfkooaaGreatDoor.Al
open Go.Fw
variable [Gl]
set_option maxRecDepth 20000
theorem bIeq {a b : Bool} (h : a = b) : some (V.bool a) = some (V.bool b) := by rw [h]
end Go.Proofs.YtmohgegpcfkooaaGreatDoor.Al
end

section
namespace Go.Proofs.YtmohgegpcfkooaaGreatDoor.Al
open Go.Fw
variable [Gl]
set_option maxRecDepth 20000
set_option maxHeartbeats 4000000
def pkV (s : By) (i : Nat) : V := match s[i]? with
  | some c => .tup [.int .u8 c.toNat, .bool true]
  | none => .tup [.int .u8 0, .bool false]
theorem rx_peek (s : By) (i : Nat) (hi : i ≤ s.length) : TriL Tryz.prog 204 [.ptr 0 0] (prs s i) 1 (fun v h nx => v = pkV s i ∧ h = prs s i ∧ nx = 1) := by
  refine TriL.of_safe Tryz.func204 rfl Tryz.results204 Tryz.ntmps204 rfl ?_
  refine go 99 rfl ?_
  refine Safe.draw mixed ?_
  refine DS.go [0,1,2,3,4,5,6,7,8,9] rfl rfl (by kernel_rfl) ?_
  refine DS.fin (by kernel_rfl) rfl ?_
  refine go 99 rfl ?_
  refine Safe.br rfl (fun c => ?_) (fun c => ?_)
  · have h0 : i = s.length := by simp at c; omega
    refine go 99 rfl ?_
    exact ⟨.inr rfl, rfl, rfl, .done rfl ⟨by simp [pkV, h0], rfl, rfl⟩⟩
  · have h0 : i < s.length := by simp at c; omega
    refine go 99 rfl ?_
    refine Safe.draw mixed ?_
    refine DS.go [0,1,2,3,4,5,6,7] rfl rfl (by kernel_rfl) ?_
    refine DS.val (i := 8) (ev_idxS h0 rfl rfl).ev rfl rfl rfl rfl (by kernel_rfl) ?_
    refine DS.go [9,10] rfl rfl (by kernel_rfl) ?_
    refine DS.fin (by kernel_rfl) rfl ?_
    refine go 99 rfl ?_
    exact ⟨.inr rfl, rfl, rfl, .done rfl ⟨by simp [pkV, h0], rfl, rfl⟩⟩
def isDg (c : Int) : Bool := decide (48 ≤ c) && decide (c ≤ 57)
def isLt (c : Int) : Bool := (decide (97 ≤ c) && decide (c ≤ 122)) || (decide (65 ≤ c) && decide (c ≤ 90))
theorem rx_digit (c : Int) : PTri Tryz.prog 254 [.int .u8 c] (.bool (isDg c)) := by
  refine PTri.of_safe Tryz.func254 rfl Tryz.results254 Tryz.ntmps254 rfl ?_
  refine go 99 rfl ?_
  repeat' (first | (refine Safe.gs rfl (fun a => ?_) (fun a => ?_) <;> refine go 99 rfl ?_) | (refine Safe.br rfl (fun a => ?_) (fun a => ?_) <;> refine go 99 rfl ?_))
  all_goals exact ⟨.inr rfl, trivial, .done (bIeq (by simp_all [isDg] <;> omega)) rfl⟩
theorem rx_letter (c : Int) : PTri Tryz.prog 256 [.int .u8 c] (.bool (isLt c)) := by
  refine PTri.of_safe Tryz.func256 rfl Tryz.results256 Tryz.ntmps256 rfl ?_
  refine go 99 rfl ?_
  repeat' (first | (refine Safe.gs rfl (fun a => ?_) (fun a => ?_) <;> refine go 99 rfl ?_) | (refine Safe.br rfl (fun a => ?_) (fun a => ?_) <;> refine go 99 rfl ?_))
  all_goals exact ⟨.inr rfl, trivial, .done (bIeq (by simp_all [isLt] <;> omega)) rfl⟩
end Go.Proofs.YtmohgegpcfkooaaGreatDoor.Al
end

section
namespace Go.Proofs.YtmohgegpcfkooaaGreatDoor.Al
open Go.Fw
variable [Gl]
set_option maxRecDepth 20000
set_option maxHeartbeats 4000000
def rngB (s : By) (i : Nat) : Bool := decide (i + 1 < s.length) && s[i]? == some 45 && !(s[i + 1]? == some 93)
theorem u8eqZ {a b : UInt8} : ((a.toNat : Int) == b.toNat) = (a == b) := by
  rw [Bool.eq_iff_iff]; simp [← UInt8.toNat_inj]; omega
theorem rx_range (s : By) (i : Nat) (hs : s.length ≤ 200) (hi : i ≤ s.length) : TriL Tryz.prog 252 [.ptr 0 0] (prs s i) 1 (fun v h nx => v = .bool (rngB s i) ∧ h = prs s i ∧ nx = 1) := by
  have hw : IntKind.i64.wrap ((i : Int) + 1) = ((i + 1 : Nat) : Int) := by rw [wrap64_fit (by omega) (by omega)]; rfl
  refine TriL.of_safe Tryz.func252 rfl Tryz.results252 Tryz.ntmps252 rfl ?_
  refine go 99 rfl ?_
  refine Safe.draw mixed ?_
  refine DS.go [0,1,2,3,4,5,6,7,8,9,10,11] rfl rfl (by kernel_rfl) ?_
  refine DS.gs 12 rfl rfl (fun c => ?_) (fun c => ?_)
  · have h1 : i + 1 < s.length := ltc (by rw [← hw]; exact c)
    have h0 : i < s.length := by omega
    refine DS.go [12,13,14,15,16,17,18,19] rfl rfl (by kernel_rfl) ?_
    refine DS.val (i := 20) (ev_idxS h0 rfl rfl).ev rfl rfl rfl rfl (by kernel_rfl) ?_
    refine DS.go [21,22,23] rfl rfl (by kernel_rfl) ?_
    refine DS.gs 24 rfl rfl (fun c => ?_) (fun c => ?_)
    · have h2 : s[i] = 45 := by
        have c2 : ((s[i].toNat : Int) == 45) = true := c
        rw [show (45 : Int) = ((45 : UInt8).toNat : Int) from rfl, u8eqZ] at c2
        simpa using c2
      refine DS.go [24,25,26,27,28,29,30,31,32] rfl rfl (by kernel_rfl) ?_
      refine DS.val (i := 33) (ev_idxS (i := i + 1) h1 hw rfl).ev rfl rfl rfl rfl (by kernel_rfl) ?_
      refine DS.go [34,35,36] rfl rfl (by kernel_rfl) ?_
      refine DS.fin (by kernel_rfl) rfl ?_
      refine go 99 rfl ?_
      refine ⟨.inr rfl, rfl, rfl, .done rfl ⟨congrArg V.bool ?_, rfl, rfl⟩⟩
      have e1 : (((s[i + 1].toNat : Int)) == 93) = (s[i + 1] == 93) := by rw [show (93 : Int) = ((93 : UInt8).toNat : Int) from rfl, u8eqZ]
      simp only [rngB, bne, List.getElem?_eq_getElem h0, List.getElem?_eq_getElem h1, h2, e1, decide_eq_true h1]
      simp
    · have c2 : ((s[i].toNat : Int) == 45) = false := c
      rw [show (45 : Int) = ((45 : UInt8).toNat : Int) from rfl, u8eqZ] at c2
      refine DS.go [24,25,26,27,28,29,30,31,32,33,34,35,36] rfl rfl (by kernel_rfl) ?_
      refine DS.fin (by kernel_rfl) rfl ?_
      refine go 99 rfl ?_
      refine ⟨.inr rfl, rfl, rfl, .done rfl ⟨congrArg V.bool ?_, rfl, rfl⟩⟩
      have e2 : (((s[i].toNat : Int)) == 45) = (s[i] == 45) := by rw [show (45 : Int) = ((45 : UInt8).toNat : Int) from rfl, u8eqZ]
      simp only [rngB, List.getElem?_eq_getElem h0, e2]
      simp at c2
      simp [c2]
  · have h1 : ¬ i + 1 < s.length := fun h => by have := gec (i := i + 1) (n := s.length) (by rw [← hw]; exact c); omega
    refine DS.go [12,13,14,15,16,17,18,19,20,21,22,23,24,25,26,27,28,29,30,31,32,33,34,35,36] rfl rfl (by kernel_rfl) ?_
    refine DS.fin (by kernel_rfl) rfl ?_
    refine go 99 rfl ?_
    exact ⟨.inr rfl, rfl, rfl, .done rfl ⟨by simp only [rngB]; rw [decide_eq_false h1]; rfl, rfl, rfl⟩⟩
end Go.Proofs.YtmohgegpcfkooaaGreatDoor.Al
end

section
namespace Go.Proofs.YtmohgegpcfkooaaGreatDoor.Al
open Go.Fw
variable [Gl]
set_option maxRecDepth 20000
set_option maxHeartbeats 4000000
def isWd (c : Int) : Bool := isLt c || isDg c || c == 95
theorem rx_word (c : Int) : PTri Tryz.prog 255 [.int .u8 c] (.bool (isWd c)) := by
  refine PTri.of_safe Tryz.func255 rfl Tryz.results255 Tryz.ntmps255 rfl ?_
  refine go 99 rfl ?_
  refine Safe.call (rx_letter c) rfl rfl rfl ?_
  refine go 99 rfl ?_
  repeat' (first | (refine Safe.call (rx_digit c) rfl rfl rfl ?_; refine go 99 rfl ?_) | (refine Safe.gs rfl (fun a => ?_) (fun a => ?_) <;> refine go 99 rfl ?_) | (refine Safe.br rfl (fun a => ?_) (fun a => ?_) <;> refine go 99 rfl ?_))
  all_goals first
    | (exfalso; simp_all; done)
    | (refine ⟨.inr rfl, trivial, .done (bIeq ?_) rfl⟩; simp_all [isWd]; done)
theorem rx_any (c : Int) : PTri Tryz.prog 244 [.int .u8 c] (.bool true) := by
  refine PTri.of_safe Tryz.func244 rfl Tryz.results244 Tryz.ntmps244 rfl ?_
  refine go 99 rfl ?_
  exact ⟨.inr rfl, trivial, .done (bIeq rfl) rfl⟩
end Go.Proofs.YtmohgegpcfkooaaGreatDoor.Al
end

section
namespace Go.Proofs.YtmohgegpcfkooaaGreatDoor.Al
open Go.Fw
variable [Gl]
set_option maxRecDepth 20000
def isNB (c : Int) : Bool := (decide (97 ≤ c) && decide (c ≤ 122)) || (decide (65 ≤ c) && decide (c ≤ 90)) || (decide (48 ≤ c) && decide (c ≤ 57)) || c == 95
theorem ref_letter (c : Int) : PTri Tryz.prog 112 [.int .u8 c] (.bool (isNB c)) := by
  refine PTri.of_safe Tryz.func112 rfl Tryz.results112 Tryz.ntmps112 rfl ?_
  refine go 99 rfl ?_
  repeat' (first | (refine Safe.gs rfl (fun a => ?_) (fun a => ?_) <;> refine go 99 rfl ?_) | (refine Safe.br rfl (fun a => ?_) (fun a => ?_) <;> refine go 99 rfl ?_))
  all_goals exact ⟨.inr rfl, trivial, .done (bIeq (by simp_all [isNB] <;> omega)) rfl⟩
theorem lab_nb (c : Int) : PTri Tryz.prog 111 [.int .u8 c] (.bool (isNB c)) := by
  refine PTri.of_safe Tryz.func111 rfl Tryz.results111 Tryz.ntmps111 rfl ?_
  refine go 99 rfl ?_
  repeat' (first | (refine Safe.gs rfl (fun a => ?_) (fun a => ?_) <;> refine go 99 rfl ?_) | (refine Safe.br rfl (fun a => ?_) (fun a => ?_) <;> refine go 99 rfl ?_))
  all_goals exact ⟨.inr rfl, trivial, .done (bIeq (by simp_all [isNB] <;> omega)) rfl⟩
def dig0 : By → Bool
  | [] => false
  | c :: _ => decide (48 ≤ (c.toNat : Int)) && decide ((c.toNat : Int) ≤ 57)
def isNm (s : By) : Bool := decide (1 ≤ s.length) && decide (s.length ≤ 60) && !dig0 s && s.all fun c => isNB c.toNat
theorem all_drop {f : UInt8 → Bool} {s : By} {i : Nat} (hi : i < s.length) : (s.drop i).all f = (f s[i] && (s.drop (i + 1)).all f) := by rw [List.drop_eq_getElem_cons hi, List.all_cons]
theorem ref_name (s : By) (hl : s.length ≤ big) : PTri Tryz.prog 75 [.str s] (.bool (isNm s)) := by
  simp only [big] at hl
  refine PTri.of_safe Tryz.func75 rfl Tryz.results75 Tryz.ntmps75 rfl ?_
  refine go 99 rfl ?_
  refine Safe.loop (α := Nat) (fun i => [(0, .str s), (3, nI i)]) (fun i => []) 0 (fun i => s.length - i) (fun i => i ≤ s.length ∧ s.all (fun c => isNB c.toNat) = (s.drop i).all (fun c => isNB c.toNat)) 0 (sgI 0) ⟨⟨fit rfl, fit rfl, trivial⟩, ⟨_, .refl _, List.nil_sublist _⟩, rfl⟩ ⟨Nat.zero_le _, rfl⟩ ?_
  rintro i ⟨hi, ha⟩
  refine go 99 rfl ?_
  refine Safe.br rfl (fun c => ?_) (fun c => ?_)
  · have hi : i < s.length := ltc c
    rw [all_drop hi] at ha
    refine go 99 rfl ?_
    refine Safe.idxS hi rfl rfl rfl ?_
    refine Safe.call (ref_letter _) rfl rfl rfl ?_
    refine go 99 rfl ?_
    refine Safe.br rfl (fun d => ?_) (fun d => ?_)
    · refine go 99 rfl ?_
      exact ⟨.inr rfl, trivial, .done (bIeq (by first | (simp_all [isNm]; done) | (simp_all [isNm]; omega) | (simp_all [isNm]; intros; omega) | (rw [Bool.eq_iff_iff]; simp_all [isNm]; omega))) rfl⟩
    · refine go 99 rfl ?_
      exact ⟨sgI 0, i + 1, ⟨hi, by simp_all⟩, mlt hi, rfl, rfl, ⟨fit rfl, fit (isucc (by omega)), trivial⟩, ⟨_, .refl _, List.nil_sublist _⟩, rfl⟩
  · have hi2 : i = s.length := Nat.le_antisymm hi (gec c)
    subst hi2
    rw [List.drop_length] at ha
    refine go 99 rfl ?_
    refine Safe.gs rfl (fun d => ?_) (fun d => ?_)
    · have h0 : 0 < s.length := ltc d
      obtain ⟨c0, r, rfl⟩ : ∃ c r, s = c :: r := by cases s with | nil => simp at h0 | cons x r' => exact ⟨x, r', rfl⟩
      refine go 99 rfl ?_
      refine Safe.gs rfl (fun e => ?_) (fun e => ?_)
      · refine go 99 rfl ?_
        refine Safe.idxS (i := 0) h0 rfl rfl rfl ?_
        refine go 99 rfl ?_
        refine Safe.gs rfl (fun f => ?_) (fun f => ?_)
        · have f' : (c0.toNat : Int) < 48 := of_decide_eq_true f
          clear f
          refine go 99 rfl ?_
          exact ⟨.inr rfl, trivial, .done (bIeq (by first | (simp_all [isNm, dig0]; done) | (simp_all [isNm, dig0]; omega) | (simp_all [isNm, dig0]; intros; omega) | (rw [Bool.eq_iff_iff]; simp_all [isNm, dig0]; omega))) rfl⟩
        · refine go 99 rfl ?_
          refine Safe.idxS (i := 0) h0 rfl rfl rfl ?_
          refine go 99 rfl ?_
          exact ⟨.inr rfl, trivial, .done (bIeq (by first | (simp_all [isNm, dig0]; done) | (simp_all [isNm, dig0]; omega) | (simp_all [isNm, dig0]; intros; omega) | (rw [Bool.eq_iff_iff]; simp_all [isNm, dig0]; omega))) rfl⟩
      · refine go 99 rfl ?_
        exact ⟨.inr rfl, trivial, .done (bIeq (by first | (simp_all [isNm]; done) | (simp_all [isNm]; omega) | (simp_all [isNm]; intros; omega) | (rw [Bool.eq_iff_iff]; simp_all [isNm]; omega))) rfl⟩
    · refine go 99 rfl ?_
      exact ⟨.inr rfl, trivial, .done (bIeq (by first | (simp_all [isNm]; done) | (simp_all [isNm]; omega) | (simp_all [isNm]; intros; omega) | (rw [Bool.eq_iff_iff]; simp_all [isNm]; omega))) rfl⟩
theorem lab_name (s : By) (hl : s.length ≤ big) : PTri Tryz.prog 69 [.str s] (.bool (isNm s)) := by
  simp only [big] at hl
  refine PTri.of_safe Tryz.func69 rfl Tryz.results69 Tryz.ntmps69 rfl ?_
  refine go 99 rfl ?_
  refine Safe.cut1 (α := Unit) (fun _ => [(0, .str s)]) (fun _ => []) 0 (fun _ => 1 ≤ s.length ∧ s.length ≤ 60 ∧ dig0 s = false) ?_ ?_
  · refine Safe.gs rfl (fun a => ?_) (fun a => ?_)
    · refine go 99 rfl ?_
      exact ⟨.inr rfl, trivial, .done (bIeq (by first | (simp_all [isNm]; done) | (simp_all [isNm]; omega) | (simp_all [isNm]; intros; omega) | (rw [Bool.eq_iff_iff]; simp_all [isNm]; omega))) rfl⟩
    · refine go 99 rfl ?_
      refine Safe.gs rfl (fun b => ?_) (fun b => ?_)
      · refine go 99 rfl ?_
        exact ⟨.inr rfl, trivial, .done (bIeq (by first | (simp_all [isNm]; done) | (simp_all [isNm]; omega) | (simp_all [isNm]; intros; omega) | (rw [Bool.eq_iff_iff]; simp_all [isNm]; omega))) rfl⟩
      · have h0 : 0 < s.length := by simp at a; omega
        obtain ⟨c0, r, rfl⟩ : ∃ c r, s = c :: r := by cases s with | nil => simp at h0 | cons x r' => exact ⟨x, r', rfl⟩
        refine go 99 rfl ?_
        refine Safe.idxS (i := 0) h0 rfl rfl rfl ?_
        refine go 99 rfl ?_
        refine Safe.gs rfl (fun e => ?_) (fun e => ?_)
        · refine go 99 rfl ?_
          refine Safe.idxS (i := 0) h0 rfl rfl rfl ?_
          refine go 99 rfl ?_
          refine Safe.br rfl (fun f => ?_) (fun f => ?_)
          · refine go 99 rfl ?_
            exact ⟨.inr rfl, trivial, .done (bIeq (by first | (simp_all [isNm, dig0]; done) | (simp_all [isNm, dig0]; omega) | (simp_all [isNm, dig0]; intros; omega) | (rw [Bool.eq_iff_iff]; simp_all [isNm, dig0]; omega))) rfl⟩
          · refine go 99 rfl ?_
            exact ⟨sgI 0, (), ⟨by simp, by simp at b; simp; omega, (by first | (simp_all [dig0]; done) | (simp_all [dig0]; omega) | (simp_all [dig0]; intros; omega) | (rw [Bool.eq_iff_iff]; simp_all [dig0]; omega))⟩, rfl, rfl, ⟨fit rfl, trivial⟩, ⟨_, .refl _, List.nil_sublist _⟩, rfl⟩
        · refine go 99 rfl ?_
          exact ⟨sgI 0, (), ⟨by simp, by simp at b; simp; omega, (by first | (simp_all [dig0]; done) | (simp_all [dig0]; omega) | (simp_all [dig0]; intros; omega) | (rw [Bool.eq_iff_iff]; simp_all [dig0]; omega))⟩, rfl, rfl, ⟨fit rfl, trivial⟩, ⟨_, .refl _, List.nil_sublist _⟩, rfl⟩
  · rintro ⟨⟩ ⟨h1, h2, h3⟩
    refine go 99 rfl ?_
    refine Safe.loop (α := Nat) (fun i => [(0, .str s), (3, nI i)]) (fun i => []) 0 (fun i => s.length - i) (fun i => i ≤ s.length ∧ s.all (fun c => isNB c.toNat) = (s.drop i).all (fun c => isNB c.toNat)) 0 (sgI 0) ⟨⟨fit rfl, fit rfl, trivial⟩, ⟨_, .refl _, List.nil_sublist _⟩, rfl⟩ ⟨Nat.zero_le _, rfl⟩ ?_
    rintro i ⟨hi, ha⟩
    refine go 99 rfl ?_
    refine Safe.br rfl (fun c => ?_) (fun c => ?_)
    · have hi : i < s.length := ltc c
      rw [all_drop hi] at ha
      refine go 99 rfl ?_
      refine Safe.idxS hi rfl rfl rfl ?_
      refine Safe.call (lab_nb _) rfl rfl rfl ?_
      refine go 99 rfl ?_
      refine Safe.br rfl (fun d => ?_) (fun d => ?_)
      · refine go 99 rfl ?_
        exact ⟨.inr rfl, trivial, .done (bIeq (by first | (simp_all [isNm]; done) | (simp_all [isNm]; omega) | (simp_all [isNm]; intros; omega) | (rw [Bool.eq_iff_iff]; simp_all [isNm]; omega))) rfl⟩
      · refine go 99 rfl ?_
        exact ⟨sgI 0, i + 1, ⟨hi, by simp_all⟩, mlt hi, rfl, rfl, ⟨fit rfl, fit (isucc (by omega)), trivial⟩, ⟨_, .refl _, List.nil_sublist _⟩, rfl⟩
    · have hi2 : i = s.length := Nat.le_antisymm hi (gec c)
      subst hi2
      rw [List.drop_length] at ha
      refine go 99 rfl ?_
      exact ⟨.inr rfl, trivial, .done (bIeq (by first | (simp_all [isNm]; done) | (simp_all [isNm]; omega) | (simp_all [isNm]; intros; omega) | (rw [Bool.eq_iff_iff]; simp_all [isNm]; omega))) rfl⟩
end Go.Proofs.YtmohgegpcfkooaaGreatDoor.Al
end

section
namespace Go.Proofs.YtmohgegpcfkooaaGreatDoor.Al
open Go.Fw
variable [Gl]
theorem le_anti {a b : By} (h : a ≤ b) (h' : b ≤ a) : a = b := List.le_antisymm h h'
theorem lt_le {a b : By} (h : a < b) : a ≤ b := List.le_of_lt h
theorem lt_ne {a b : By} (h : a ≤ b) (hn : a ≠ b) : a < b := Classical.byContradiction fun h1 => hn (le_anti h (by simpa using h1))
theorem bl_iff (x y : By) : Op.bytesLess x y = true ↔ x < y := by rw [Go.Proofs.bytesLess_eq]; simp
theorem bl_no (x y : By) : Op.bytesLess x y = false ↔ y ≤ x := by
  rw [← Bool.not_eq_true, bl_iff]
  exact List.not_lt
theorem le_nl (x p : By) : (Op.bytesLess x p || x == p) = !Op.bytesLess p x := by
  rw [Bool.eq_iff_iff]
  simp only [Bool.or_eq_true, bl_iff, beq_iff_eq, Bool.not_eq_true', bl_no]
  constructor
  · rintro (h | rfl)
    · exact lt_le h
    · exact List.le_refl _
  · intro h
    by_cases e : x = p
    · exact .inr e
    · exact .inl (lt_ne h e)
set_option maxRecDepth 20000
def lateN : Option By → By → Bool
  | none, _ => false
  | some p, s => !Op.bytesLess p s
def prvN (l : List By) (i : Nat) : Option By := if i = 0 then none else l[i - 1]?
def chkN (ok : By → Bool) : Option By → List By → Int
  | _, [] => 0
  | prev, s :: r => if ok s = false then 5 else if lateN prev s = true then 9 else chkN ok (some s) r
def namesE (ok : By → Bool) (l : List By) : Int := if 16 < l.length then 4 else chkN ok none l
theorem chkN_step {ok : By → Bool} {l : List By} {i : Nat} (h : i < l.length) : chkN ok (prvN l i) (l.drop i) = if ok l[i] = false then 5 else if lateN (prvN l i) l[i] = true then 9 else chkN ok (prvN l (i + 1)) (l.drop (i + 1)) := by
  have e : prvN l (i + 1) = some l[i] := by simp [prvN, h]
  rw [List.drop_eq_getElem_cons h, e]
  rfl
theorem prvN_pos {l : List By} {i : Nat} (h0 : 0 < i) (h : i < l.length) : prvN l i = some (l[i - 1]'(by omega)) := by
  simp [prvN, Nat.ne_of_gt h0, show i - 1 < l.length by omega]
theorem isub {i : Nat} (h : 0 < i) (h2 : i < 4611686018427387904) : IntKind.i64.wrap ((i : Int) - 1) = ((i - 1 : Nat) : Int) := by rw [wrap64_fit (by omega) (by omega)]; omega
theorem okN_get {l : List By} (h : okN l) {i : Nat} (hi : i < l.length) : l[i].length ≤ big := h.2 _ (List.getElem_mem hi)
theorem ref_names (l : List By) (hl : okN l) : PTri Tryz.prog 98 [slV strC l] (nI (namesE isNm l)) := by
  have hb := hl.1
  simp only [big] at hb
  refine PTri.of_safe Tryz.func98 rfl Tryz.results98 Tryz.ntmps98 rfl ?_
  refine go 99 rfl ?_
  refine Safe.br rfl (fun c => ?_) (fun c => ?_)
  · have hc := ltc c
    refine go 99 rfl ?_
    exact ⟨.inr rfl, trivial, .done (nIeq (by simp only [namesE]; rw [if_pos hc])) rfl⟩
  · have hc := gec c
    have hc : l.length ≤ 16 := hc
    have hE : namesE isNm l = chkN isNm none l := by simp only [namesE]; rw [if_neg (by omega)]
    refine go 99 rfl ?_
    refine Safe.loop (α := Nat) (fun i => [(0, slV strC l), (3, nI i)]) (fun i => []) 0 (fun i => l.length - i) (fun i => i ≤ l.length ∧ namesE isNm l = chkN isNm (prvN l i) (l.drop i)) 0 (sgI 0) ⟨⟨fit rfl, fit rfl, trivial⟩, ⟨_, .refl _, List.nil_sublist _⟩, rfl⟩ ⟨Nat.zero_le _, hE⟩ ?_
    rintro i ⟨hi, ha⟩
    refine go 99 rfl ?_
    refine Safe.br rfl (fun c1 => ?_) (fun c1 => ?_)
    · have hi : i < l.length := ltc c1
      rw [chkN_step hi] at ha
      refine go 99 rfl ?_
      refine Safe.idxF hi rfl rfl rfl ?_
      refine Safe.ldF (ldStr hi) rfl rfl rfl ?_
      refine Safe.call (ref_name l[i] (okN_get hl hi)) rfl rfl rfl ?_
      refine go 99 rfl ?_
      refine Safe.br rfl (fun d => ?_) (fun d => ?_)
      · rw [if_pos (by simpa using d)] at ha
        refine go 99 rfl ?_
        exact ⟨.inr rfl, trivial, .done (nIeq ha.symm) rfl⟩
      · rw [if_neg (by simp at d; simp [d])] at ha
        refine go 99 rfl ?_
        refine Safe.draw mixed ?_
        refine DS.go [0,1,2] rfl rfl (by kernel_rfl) ?_
        refine DS.gs 3 rfl rfl (fun c => ?_) (fun c => ?_)
        · have h0 : 0 < i := by have := of_decide_eq_true c; omega
          rw [prvN_pos h0 hi] at ha
          refine DS.go [3,4,5,8,9] rfl rfl (by kernel_rfl) ?_
          refine DS.val (i := 6) (ev_idxF (i := i - 1) (by omega) (isub h0 (by omega)) rfl).ev rfl rfl rfl rfl (by kernel_rfl) ?_
          refine DS.val (i := 7) (ev_ldF (ldStr (by omega)) rfl rfl).ev rfl rfl rfl rfl (by kernel_rfl) ?_
          refine DS.val (i := 10) (ev_idxF hi rfl rfl).ev rfl rfl rfl rfl (by kernel_rfl) ?_
          refine DS.val (i := 11) (ev_ldF (ldStr hi) rfl rfl).ev rfl rfl rfl rfl (by kernel_rfl) ?_
          refine DS.go [12,13] rfl rfl (by kernel_rfl) ?_
          refine DS.fin (by kernel_rfl) rfl ?_
          refine go 99 rfl ?_
          refine Safe.br rfl (fun e => ?_) (fun e => ?_)
          · rw [if_pos (by simpa [lateN] using e)] at ha
            refine go 99 rfl ?_
            exact ⟨.inr rfl, trivial, .done (nIeq ha.symm) rfl⟩
          · rw [if_neg (by simp at e; simp [lateN, e])] at ha
            refine go 99 rfl ?_
            exact ⟨sgI 0, i + 1, ⟨hi, ha⟩, mlt hi, rfl, rfl, ⟨fit rfl, fit (isucc (by omega)), trivial⟩, ⟨_, .refl _, List.nil_sublist _⟩, rfl⟩
        · have h0 : i = 0 := by have := of_decide_eq_false c; omega
          rw [if_neg (by simp [prvN, h0, lateN])] at ha
          refine DS.go [3,4,5,6,7,8,9,10,11,12,13] rfl rfl (by kernel_rfl) ?_
          refine DS.fin (by kernel_rfl) rfl ?_
          refine go 99 rfl ?_
          exact ⟨sgI 0, i + 1, ⟨hi, ha⟩, mlt hi, rfl, rfl, ⟨fit rfl, fit (isucc (by omega)), trivial⟩, ⟨_, .refl _, List.nil_sublist _⟩, rfl⟩
    · have hi2 : i = l.length := Nat.le_antisymm hi (gec c1)
      subst hi2
      rw [List.drop_length] at ha
      refine go 99 rfl ?_
      exact ⟨.inr rfl, trivial, .done (nIeq ha.symm) rfl⟩
end Go.Proofs.YtmohgegpcfkooaaGreatDoor.Al
end

section
namespace Go.Proofs.YtmohgegpcfkooaaGreatDoor.Al
open Go.Fw
variable [Gl]
set_option maxRecDepth 20000
set_option maxHeartbeats 4000000
def alnI (c : Int) : Bool := (decide (97 ≤ c) && decide (c ≤ 122)) || ((decide (65 ≤ c) && decide (c ≤ 90)) || (decide (48 ≤ c) && decide (c ≤ 57)))
def spcI (c : Int) : Bool := c == 46 || c == 91 || c == 93 || c == 40 || c == 41 || c == 124 || c == 42 || c == 43 || c == 63 || c == 92
theorem rr_alnum (c : Int) : PTri Tryz.prog 231 [.int .u8 c] (.bool (alnI c)) := by
  refine PTri.of_safe Tryz.func231 rfl Tryz.results231 Tryz.ntmps231 rfl ?_
  refine go 99 rfl ?_
  repeat' (first | (refine Safe.gs rfl (fun a => ?_) (fun a => ?_) <;> refine go 99 rfl ?_) | (refine Safe.br rfl (fun a => ?_) (fun a => ?_) <;> refine go 99 rfl ?_))
  all_goals exact ⟨.inr rfl, trivial, .done (bIeq (by first | (simp_all [alnI]; done) | (simp_all [alnI]; omega) | (simp_all [alnI]; intros; omega) | (rw [Bool.eq_iff_iff]; simp_all [alnI]; omega))) rfl⟩
theorem rr_special (c : Int) : PTri Tryz.prog 206 [.int .u8 c] (.bool (spcI c)) := by
  refine PTri.of_safe Tryz.func206 rfl Tryz.results206 Tryz.ntmps206 rfl ?_
  refine go 99 rfl ?_
  repeat' (first | (refine Safe.gs rfl (fun a => ?_) (fun a => ?_) <;> refine go 99 rfl ?_) | (refine Safe.br rfl (fun a => ?_) (fun a => ?_) <;> refine go 99 rfl ?_))
  all_goals exact ⟨.inr rfl, trivial, .done (bIeq (by simp_all [spcI])) rfl⟩
def escI (c : Int) : Int := if c = 110 then 10 else if c = 116 then 9 else c
def escK (c : Int) : Bool := c == 110 || c == 116 || !alnI c
theorem rr_escaped (c : Int) : PTri Tryz.prog 230 [.int .u8 c] (.tup [.int .u8 (escI c), .bool (escK c)]) := by
  refine PTri.of_safe Tryz.func230 rfl Tryz.results230 Tryz.ntmps230 rfl ?_
  refine go 99 rfl ?_
  refine Safe.br rfl (fun a => ?_) (fun a => ?_)
  · have a1 : c = 110 := by simpa using a
    subst a1
    refine go 99 rfl ?_
    exact ⟨.inr rfl, trivial, .done (rfl) rfl⟩
  · have a1 : ¬ c = 110 := by simpa using a
    refine go 99 rfl ?_
    refine Safe.br rfl (fun b => ?_) (fun b => ?_)
    · have b1 : c = 116 := by simpa using b
      subst b1
      refine go 99 rfl ?_
      exact ⟨.inr rfl, trivial, .done (rfl) rfl⟩
    · have b1 : ¬ c = 116 := by simpa using b
      refine go 99 rfl ?_
      refine Safe.call (rr_alnum c) rfl rfl rfl ?_
      refine go 99 rfl ?_
      exact ⟨.inr rfl, trivial, .done ((by simp only [escI, escK]; rw [if_neg a1, if_neg b1, show (c == 110) = false by simpa using a1, show (c == 116) = false by simpa using b1]; rfl)) rfl⟩
theorem u8eqR {c d : UInt8} (h : ((c.toNat : Int) == (d.toNat : Int)) = true) : c = d := by
  have := of_decide_eq_true (p := (c.toNat : Int) = d.toNat) (by simpa using h)
  exact UInt8.toNat_inj.1 (by omega)
theorem u8neR {c d : UInt8} (h : ((c.toNat : Int) == (d.toNat : Int)) = false) : c ≠ d := fun e => by subst e; simp at h
def itR (s : By) (i : Nat) : Int × Nat × Bool := match s[i]? with
  | none => (0, i, false)
  | some c => if c = 93 then (0, i, false) else if c ≠ 92 then (c.toNat, i + 1, true) else match s[i + 1]? with
    | none => (0, i, false)
    | some d => (escI d.toNat, i + 2, escK d.toNat)
theorem itEq {a a' : Int} {b b' : Int} {c c' : Bool} (h1 : a = a') (h2 : b = b') (h3 : c = c') : some (V.tup [.int .u8 a, nI b, .bool c]) = some (V.tup [.int .u8 a', nI b', .bool c']) := by rw [h1, h2, h3]
theorem w1 {i : Nat} (h : i < 4611686018427387904) : IntKind.i64.wrap ((i : Int) + 1) = ((i + 1 : Nat) : Int) := by rw [wrap64_fit (by omega) (by omega)]; rfl
theorem w2 {i : Nat} (h : i < 4611686018427387904) : IntKind.i64.wrap ((i : Int) + 2) = ((i + 2 : Nat) : Int) := by rw [wrap64_fit (by omega) (by omega)]; rfl
theorem rr_item (s : By) (i : Nat) (hs : s.length ≤ 200) (hi : i ≤ 1000) : PTri Tryz.prog 232 [.str s, nI i] (.tup [.int .u8 (itR s i).1, nI (itR s i).2.1, .bool (itR s i).2.2]) := by
  have hE := itR.eq_1 s i
  refine PTri.of_safe Tryz.func232 rfl Tryz.results232 Tryz.ntmps232 rfl ?_
  refine go 99 rfl ?_
  refine Safe.gs rfl (fun a => ?_) (fun a => ?_)
  · have h0 : s.length ≤ i := by simpa using a
    rw [List.getElem?_eq_none h0] at hE
    refine go 99 rfl ?_
    exact ⟨.inr rfl, trivial, .done (itEq (by rw [hE]) (by rw [hE]) (by rw [hE])) rfl⟩
  · have h0 : i < s.length := by simpa using a
    rw [List.getElem?_eq_getElem h0] at hE
    simp only at hE
    refine go 99 rfl ?_
    refine Safe.idxS h0 rfl rfl rfl ?_
    refine go 99 rfl ?_
    refine Safe.br rfl (fun b => ?_) (fun b => ?_)
    · have b1 : s[i] = 93 := u8eqR (d := 93) b
      rw [if_pos b1] at hE
      refine go 99 rfl ?_
      exact ⟨.inr rfl, trivial, .done (itEq (by rw [hE]) (by rw [hE]) (by rw [hE])) rfl⟩
    · have b1 : s[i] ≠ 93 := u8neR (d := 93) b
      rw [if_neg b1] at hE
      refine go 99 rfl ?_
      refine Safe.idxS h0 rfl rfl rfl ?_
      refine go 99 rfl ?_
      refine Safe.br rfl (fun c => ?_) (fun c => ?_)
      · have c1 : s[i] ≠ 92 := u8neR (d := 92) (by simpa using c)
        rw [if_pos c1] at hE
        refine go 99 rfl ?_
        refine Safe.idxS h0 rfl rfl rfl ?_
        refine go 99 rfl ?_
        exact ⟨.inr rfl, trivial, .done (itEq (by rw [hE]) (by rw [hE]; exact w1 (by omega)) (by rw [hE])) rfl⟩
      · have c1 : ¬ s[i] ≠ 92 := fun h => h (u8eqR (d := 92) (by simpa using c))
        rw [if_neg c1] at hE
        refine go 99 rfl ?_
        refine Safe.br rfl (fun d => ?_) (fun d => ?_)
        · have d1 : s.length ≤ i + 1 := by simp only [w1 (show i < 4611686018427387904 by omega)] at d; have := of_decide_eq_true d; omega
          rw [List.getElem?_eq_none d1] at hE
          refine go 99 rfl ?_
          exact ⟨.inr rfl, trivial, .done (itEq (by rw [hE]) (by rw [hE]) (by rw [hE])) rfl⟩
        · have d1 : i + 1 < s.length := by simp only [w1 (show i < 4611686018427387904 by omega)] at d; have := of_decide_eq_false d; omega
          rw [List.getElem?_eq_getElem d1] at hE
          simp only at hE
          refine go 99 rfl ?_
          refine Safe.idxS d1 (w1 (by omega)) rfl rfl ?_
          refine go 99 rfl ?_
          refine Safe.call (rr_escaped s[i + 1].toNat) rfl rfl rfl ?_
          refine go 99 rfl ?_
          exact ⟨.inr rfl, trivial, .done (itEq (by rw [hE]) (by rw [hE]; exact w2 (by omega)) (by rw [hE])) rfl⟩
def ndk (cs : List V) : Prop := cs.length = 259 ∧ cs.all dryV1 = true
theorem tz230 : tzL Tryz.prog 157 259 = true := by kernel_rfl
theorem sz230 : tsz Tryz.prog 157 = some 259 := by kernel_rfl
theorem ag230 : tagg Tryz.prog 157 = some true := by kernel_rfl
theorem ndk.leaf {cs : List V} (h : ndk cs) : cs.all leafV = true := dryL1_leaf h.2
theorem rr_single (c : Nat) (hc : c < 256) : ETri Tryz.prog 207 [.int .u8 c] (fun v => ∃ cs, v = .agg cs ∧ ndk cs) := by
  refine ETri.of_safe Tryz.func207 rfl Tryz.results207 Tryz.ntmps207 rfl ?_
  refine go 99 rfl ?_
  refine Safe.allocB tz230 rfl rfl (fun A hAl hAd => ?_)
  refine go 99 rfl ?_
  refine Safe.buildB (k := 259) (by kernel_rfl) rfl (fun B hBl hBd => ?_)
  refine go 99 rfl ?_
  refine Safe.allocB tz230 rfl rfl (fun C hCl hCd => ?_)
  refine go 99 rfl ?_
  refine Safe.storeB sz230 hBl hCl (dryL1_leaf hBd) rfl rfl rfl rfl rfl ?_
  refine go 99 rfl ?_
  refine Safe.idxO hc rfl rfl rfl ?_
  refine Safe.stB (off := 0 + 1 + c * 1) (by rw [hBl]; omega) hBd rfl rfl rfl rfl rfl rfl rfl (fun D hDl hDd => ?_)
  replace hDl := hDl.trans hBl
  refine go 99 rfl ?_
  refine Safe.ldO (ldAll ag230 sz230 hDl) rfl rfl ?_
  refine go 99 rfl ?_
  refine Safe.storeB sz230 hDl hAl (dryL1_leaf hDd) rfl rfl rfl rfl rfl ?_
  refine go 99 rfl ?_
  exact ⟨.inr rfl, trivial, .done (r := .agg D) (resA_c1 (ldAll ag230 sz230 hDl) rfl rfl) hDd ⟨D, rfl, hDl, hDd⟩⟩
theorem rr_repeated (c : Int) (X : List V) (hcs : ndk X) : ETri Tryz.prog 193 [.agg X, .int .u8 c] (fun v => ∃ cs', v = .agg cs' ∧ ndk cs') := by
  obtain ⟨hXl, hXd⟩ := hcs
  refine ETri.of_safe Tryz.func193 rfl Tryz.results193 Tryz.ntmps193 (by simp [dry, hXd]) ?_
  refine go 99 rfl ?_
  refine Safe.allocB tz230 rfl rfl (fun A hAl hAd => ?_)
  refine go 99 rfl ?_
  refine Safe.br rfl (fun a => ?_) (fun a => ?_)
  · refine go 99 rfl ?_
    refine Safe.ldO (ldAll ag230 sz230 hXl) rfl rfl ?_
    refine go 99 rfl ?_
    refine Safe.bsB1 tz230 sz230 ⟨by decide, by decide⟩ hXl hXd rfl rfl rfl rfl ?_
    refine go 99 rfl ?_
    refine Safe.buildB (k := 259) (by kernel_rfl) rfl (fun B hBl hBd => ?_)
    refine go 99 rfl ?_
    refine Safe.storeB sz230 hBl hAl (dryL1_leaf hBd) rfl rfl rfl rfl rfl ?_
    refine go 99 rfl ?_
    exact ⟨.inr rfl, trivial, .done (r := .agg B) (resA_c1 (ldAll ag230 sz230 hBl) rfl rfl) hBd ⟨B, rfl, hBl, hBd⟩⟩
  · refine go 99 rfl ?_
    refine Safe.br rfl (fun b => ?_) (fun b => ?_)
    · refine go 99 rfl ?_
      refine Safe.ldO (ldAll ag230 sz230 hXl) rfl rfl ?_
      refine go 99 rfl ?_
      refine Safe.bsB1 tz230 sz230 ⟨by decide, by decide⟩ hXl hXd rfl rfl rfl rfl ?_
      refine go 99 rfl ?_
      refine Safe.buildB (k := 259) (by kernel_rfl) rfl (fun B hBl hBd => ?_)
      refine go 99 rfl ?_
      refine Safe.storeB sz230 hBl hAl (dryL1_leaf hBd) rfl rfl rfl rfl rfl ?_
      refine go 99 rfl ?_
      exact ⟨.inr rfl, trivial, .done (r := .agg B) (resA_c1 (ldAll ag230 sz230 hBl) rfl rfl) hBd ⟨B, rfl, hBl, hBd⟩⟩
    · refine go 99 rfl ?_
      refine Safe.buildB (k := 259) (by kernel_rfl) rfl (fun C hCl hCd => ?_)
      refine go 99 rfl ?_
      refine Safe.ldO (ldAll ag230 sz230 hXl) rfl rfl ?_
      refine go 99 rfl ?_
      refine Safe.bsB2 tz230 sz230 ⟨by decide, by decide⟩ hCl hCd hXl hXd rfl rfl rfl rfl ?_
      refine go 99 rfl ?_
      refine Safe.buildB (k := 259) (by kernel_rfl) rfl (fun B hBl hBd => ?_)
      refine go 99 rfl ?_
      refine Safe.storeB sz230 hBl hAl (dryL1_leaf hBd) rfl rfl rfl rfl rfl ?_
      refine go 99 rfl ?_
      exact ⟨.inr rfl, trivial, .done (r := .agg B) (resA_c1 (ldAll ag230 sz230 hBl) rfl rfl) hBd ⟨B, rfl, hBl, hBd⟩⟩
def escO (c : Int) : Bool := if c ≠ 100 ∧ c ≠ 119 then escK c else true
theorem escI_nat (c : Nat) : ∃ d : Nat, escI (c : Int) = (d : Int) ∧ (c < 256 → d < 256) := by
  unfold escI
  split
  · exact ⟨10, rfl, fun _ => by omega⟩
  · split
    · exact ⟨9, rfl, fun _ => by omega⟩
    · exact ⟨c, rfl, id⟩
theorem rr_escape (c : Nat) (hc : c < 256) : ETri Tryz.prog 208 [.int .u8 c] (fun v => ∃ cs, v = .tup [.agg cs, .bool (escO c)] ∧ ndk cs) := by
  have hE := escO.eq_1 c
  obtain ⟨d, hd, hd2⟩ := escI_nat c
  have hd2 := hd2 hc
  refine ETri.of_safe Tryz.func208 rfl Tryz.results208 Tryz.ntmps208 rfl ?_
  refine go 99 rfl ?_
  refine Safe.allocB tz230 rfl rfl (fun A hAl hAd => ?_)
  refine go 99 rfl ?_
  refine Safe.buildB (k := 259) (by kernel_rfl) rfl (fun B hBl hBd => ?_)
  refine go 99 rfl ?_
  refine Safe.allocB tz230 rfl rfl (fun C hCl hCd => ?_)
  refine go 99 rfl ?_
  refine Safe.storeB sz230 hBl hCl (dryL1_leaf hBd) rfl rfl rfl rfl rfl ?_
  refine go 99 rfl ?_
  refine Safe.cut1 (α := Unit) (fun _ => [(0, .int .u8 c), (2, .ptr 0 0), (4, .ptr 1 0)]) (fun _ => [(1, .cells 157 B 259), (0, .cells 157 A 259)]) 2 (fun _ => ¬ ((c : Int) ≠ 100 ∧ (c : Int) ≠ 119)) ?_ ?_
  · refine Safe.gs rfl (fun a => ?_) (fun a => ?_)
    · have a1 : (c : Int) ≠ 100 := by simpa using a
      refine go 99 rfl ?_
      refine Safe.br rfl (fun b => ?_) (fun b => ?_)
      · have b1 : (c : Int) ≠ 119 := by simpa using b
        rw [if_pos ⟨a1, b1⟩] at hE
        refine go 99 rfl ?_
        refine Safe.call (rr_escaped c) rfl rfl rfl ?_
        refine go 99 rfl ?_
        simp only [hd]
        refine Safe.callE (rr_single d hd2) rfl rfl rfl ?_
        rintro v hv ⟨cs, rfl, hcsl, hcsd⟩
        refine go 99 rfl ?_
        refine Safe.storeB sz230 hcsl hAl (dryL1_leaf hcsd) rfl rfl rfl rfl rfl ?_
        refine go 99 rfl ?_
        exact ⟨.inr rfl, trivial, .done (r := .tup [.agg cs, .bool (escO c)]) (resA_c2 (ldAll ag230 sz230 hcsl) rfl rfl (by rw [hE]; rfl)) (by simp [dry, hcsd, dryV1]) ⟨cs, rfl, hcsl, hcsd⟩⟩
      · have b1 : (c : Int) = 119 := by simpa using b
        refine go 99 rfl ?_
        exact ⟨sgI 2, (), fun h => h.2 b1, rfl, rfl, ⟨fit rfl, fit rfl, fit rfl, trivial⟩, ⟨_, .refl _, subK rfl (renO_dry (dryL1_dry hBd)) (subK rfl (renO_dry (dryL1_dry hAd)) subN)⟩, rfl⟩
    · have a1 : (c : Int) = 100 := by simpa using a
      refine go 99 rfl ?_
      exact ⟨sgI 2, (), fun h => h.1 a1, rfl, rfl, ⟨fit rfl, fit rfl, fit rfl, trivial⟩, ⟨_, .refl _, subK rfl (renO_dry (dryL1_dry hBd)) (subK rfl (renO_dry (dryL1_dry hAd)) subN)⟩, rfl⟩
  · rintro - h1
    rw [if_neg h1] at hE
    refine go 99 rfl ?_
    refine Safe.loop (α := (Nat × List V)) (fun a => [(0, .int .u8 c), (2, .ptr 0 0), (4, .ptr 1 0), (7, nI a.1)]) (fun a => [(1, .cells 157 a.2 259), (0, .cells 157 A 259)]) 2 (fun a => 256 - a.1) (fun a => a.1 ≤ 256 ∧ a.2.length = 259 ∧ a.2.all dryV1 = true) (0, B) (sgI 2) ⟨⟨fit rfl, fit rfl, fit rfl, fit rfl, trivial⟩, ⟨_, .refl _, subK rfl (renO_dry (dryL1_dry hBd)) (subK rfl (renO_dry (dryL1_dry hAd)) subN)⟩, rfl⟩ ⟨Nat.zero_le _, hBl, hBd⟩ ?_
    rintro ⟨i, X⟩ ⟨hi, hXl, hXd⟩
    dsimp only at hi hXl hXd
    refine go 99 rfl ?_
    refine Safe.br rfl (fun t => ?_) (fun t => ?_)
    · have hi : i < 256 := ltc t
      refine go 99 rfl ?_
      repeat' (first | (refine Safe.call (rr_alnum _) rfl rfl rfl ?_; refine go 99 rfl ?_) | (refine Safe.gs rfl (fun a => ?_) (fun a => ?_) <;> refine go 99 rfl ?_) | (refine Safe.br rfl (fun a => ?_) (fun a => ?_) <;> refine go 99 rfl ?_))
      all_goals (refine Safe.idxO hi rfl rfl rfl ?_)
      all_goals (refine Safe.stB (off := 0 + 1 + i * 1) (by rw [hXl]; omega) hXd rfl rfl rfl rfl rfl rfl rfl (fun X2 hX2l hX2d => ?_); replace hX2l := hX2l.trans hXl; refine go 99 rfl ?_)
      all_goals exact ⟨sgI 2, (i + 1, X2), ⟨hi, hX2l, hX2d⟩, mlt hi, rfl, rfl, ⟨fit rfl, fit rfl, fit rfl, fit (isucc (by first | omega | (dsimp only; omega))), trivial⟩, ⟨_, .refl _, subK rfl (renO_dry (dryL1_dry hX2d)) (subK rfl (renO_dry (dryL1_dry hAd)) subN)⟩, rfl⟩
    · refine go 99 rfl ?_
      refine Safe.ldO (ldAll ag230 sz230 hXl) rfl rfl ?_
      refine go 99 rfl ?_
      refine Safe.storeB sz230 hXl hAl (dryL1_leaf hXd) rfl rfl rfl rfl rfl ?_
      refine go 99 rfl ?_
      exact ⟨.inr rfl, trivial, .done (r := .tup [.agg X, .bool (escO c)]) (resA_c2 (ldAll ag230 sz230 hXl) rfl rfl (by rw [hE]; rfl)) (by simp [dry, hXd, dryV1]) ⟨X, rfl, hXl, hXd⟩⟩
end Go.Proofs.YtmohgegpcfkooaaGreatDoor.Al
end

section
namespace Go.Proofs.YtmohgegpcfkooaaGreatDoor.Al
open Go.Fw
variable [Gl]
set_option maxRecDepth 20000
set_option maxHeartbeats 4000000
def brI (s : By) (i : Nat) : Option Nat :=
  if (itR s i).2.2 = true then
    if rngB s (itR s i).2.1 = true then
      if (itR s ((itR s i).2.1 + 1)).2.2 = true ∧ ¬ (itR s ((itR s i).2.1 + 1)).1 < (itR s i).1 then some (itR s ((itR s i).2.1 + 1)).2.1 else none
    else some (itR s i).2.1
  else none
def brL (s : By) (st : Nat) : Nat → Nat → Option Nat
  | 0, _ => none
  | f + 1, i => match s[i]? with
    | none => none
    | some c => if c = 93 then (if i = st then none else some (i + 1)) else match brI s i with
      | none => none
      | some j => brL s st f j
def brk (s : By) (i : Nat) : Option Nat := brL s i (s.length + 1 - i) i
theorem itR_le {s : By} {i : Nat} (h : (itR s i).2.2 = true) : i < (itR s i).2.1 ∧ (itR s i).2.1 ≤ s.length := by
  unfold itR at h ⊢
  cases hc : s[i]? with
  | none => simp [hc] at h
  | some c =>
    have h1 := List.getElem?_eq_some_iff.1 hc
    obtain ⟨h1, _⟩ := h1
    simp only [hc] at h ⊢
    split
    · rename_i h93; simp [h93] at h
    · rename_i h93
      rw [if_neg h93] at h
      split
      · simp only; omega
      · rename_i h92
        rw [if_neg h92] at h
        cases hd : s[i + 1]? with
        | none => simp [hd] at h
        | some d =>
          have h2 := List.getElem?_eq_some_iff.1 hd
          obtain ⟨h2, _⟩ := h2
          simp only; omega
theorem brI_le {s : By} {i j : Nat} (h : brI s i = some j) : i < j ∧ j ≤ s.length := by
  unfold brI at h
  split at h
  · rename_i h1
    have := itR_le h1
    split at h
    · split at h
      · rename_i h2
        have h3 := itR_le h2.1
        injection h with h; omega
      · cases h
    · injection h with h; omega
  · cases h
theorem brL_le {s : By} {st : Nat} : ∀ {f i j : Nat}, brL s st f i = some j → i < j ∧ j ≤ s.length
  | 0, _, _, h => by cases h
  | f + 1, i, j, h => by
    simp only [brL] at h
    split at h
    · cases h
    · rename_i c hc
      obtain ⟨h1, _⟩ := List.getElem?_eq_some_iff.1 hc
      split at h
      · split at h
        · cases h
        · injection h with h; omega
      · split at h
        · cases h
        · rename_i k hk
          have := brI_le hk
          have := brL_le h
          omega
def Ans (r : Option Nat) (j : Nat) (o : Bool) : Prop := o = r.isSome ∧ ∀ k, r = some k → j = k
def AnsV (r : Option Nat) (v : V) : Prop := ∃ (cs : List V) (j : Nat) (o : Bool), v = .tup [.agg cs, nI j, .bool o] ∧ ndk cs ∧ Ans r j o
def RRb (s : By) (i : Nat) (neg : Bool) : Prop := ETri Tryz.prog 209 [.str s, nI i, .bool neg] (AnsV (brk s i))
theorem itR_1 (s : By) (i : Nat) : 0 ≤ (itR s i).1 ∧ (itR s i).1 ≤ 255 := by
  have hb : ∀ c : UInt8, (0 : Int) ≤ c.toNat ∧ (c.toNat : Int) ≤ 255 := fun c => by have := c.toNat_lt; omega
  unfold itR
  split
  · simp
  · split
    · simp
    · split
      · exact hb _
      · split
        · simp
        · rename_i d _
          have := hb d
          simp only [escI]
          split
          · omega
          · split <;> omega
theorem itR_b (s : By) (i : Nat) (hi : i ≤ s.length) : i ≤ (itR s i).2.1 ∧ (itR s i).2.1 ≤ s.length := by
  unfold itR
  split
  · exact ⟨Nat.le_refl _, hi⟩
  · rename_i c hc
    obtain ⟨h1, _⟩ := List.getElem?_eq_some_iff.1 hc
    split
    · exact ⟨Nat.le_refl _, hi⟩
    · split
      · simp only; omega
      · split
        · exact ⟨Nat.le_refl _, hi⟩
        · rename_i d hd
          obtain ⟨h2, _⟩ := List.getElem?_eq_some_iff.1 hd
          simp only; omega
theorem AnsV.no {cs : List V} (j : Nat) (h : ndk cs) : AnsV none (.tup [.agg cs, nI j, .bool false]) := ⟨cs, j, false, rfl, h, rfl, fun _ h => by cases h⟩
theorem AnsV.ok {cs : List V} {j : Nat} (h : ndk cs) : AnsV (some j) (.tup [.agg cs, nI j, .bool true]) := ⟨cs, j, true, rfl, h, rfl, fun _ h => by injection h⟩
theorem brL_end {s : By} {st f i : Nat} (h : s.length ≤ i) (hf : 0 < f) : brL s st f i = none := by
  match f with
  | 0 => omega
  | f + 1 => simp only [brL, List.getElem?_eq_none h]
theorem brL_93 {s : By} {st f i : Nat} (h : i < s.length) (h2 : s[i] = 93) (hf : 0 < f) : brL s st f i = if i = st then none else some (i + 1) := by
  match f with
  | 0 => omega
  | f + 1 => simp only [brL, List.getElem?_eq_getElem h]; rw [if_pos h2]
theorem brL_go {s : By} {st f i : Nat} (h : i < s.length) (h2 : s[i] ≠ 93) : brL s st (f + 1) i = match brI s i with
      | none => none
      | some j => brL s st f j := by simp only [brL, List.getElem?_eq_getElem h]; rw [if_neg h2]
theorem d3d {X : List V} {j : Nat} {o : Bool} (h : X.all dryV1 = true) : dry (.tup [.agg X, nI j, .bool o]) = true := by simp [dry, h, dryV1]
def isBl : V → Bool
  | .bool _ => true
  | _ => false
def bls (cs : List V) : Bool := ((cs.drop 1).take 256).all isBl
theorem bls_at {cs : List V} {k : Nat} (h : bls cs = true) (hl : cs.length = 259) (hk : k < 256) : ∃ b, cs[0 + 1 + k * 1]? = some (.bool b) := by
  have h1 : 0 + 1 + k * 1 < cs.length := by omega
  have h2 := List.all_eq_true.1 h (cs[0 + 1 + k * 1]) (by
    refine List.mem_of_getElem? (i := k) ?_
    rw [List.getElem?_take_of_lt hk, List.getElem?_drop, List.getElem?_eq_getElem (by omega)]
    congr 2
    omega)
  rw [List.getElem?_eq_getElem h1]
  generalize cs[0 + 1 + k * 1] = v at h2 ⊢
  match v, h2 with
  | .bool b, _ => exact ⟨b, rfl⟩
theorem bls_set {cs : List V} {k : Nat} {b : Bool} (h : bls cs = true) : bls (cs.set k (.bool b)) = true := by
  refine List.all_eq_true.2 fun v hv => ?_
  have hv2 := List.mem_of_mem_take hv
  match k with
  | 0 =>
    have e : (cs.set 0 (.bool b)).drop 1 = cs.drop 1 := by cases cs <;> simp
    rw [e] at hv
    exact List.all_eq_true.1 h v hv
  | k + 1 =>
    have e : (cs.set (k + 1) (.bool b)).drop 1 = (cs.drop 1).set k (.bool b) := by cases cs <;> simp
    rw [e, List.take_set] at hv
    rcases List.mem_or_eq_of_mem_set hv with h1 | h1
    · exact List.all_eq_true.1 h v h1
    · rw [h1]; rfl
theorem ld_bool {cs : List V} {k : Nat} {b : Bool} (h : cs[k]? = some (.bool b)) : ldAt Tryz.prog 4 cs k = some (.bool b) := by
  unfold ldAt
  simp only [show tagg Tryz.prog 4 = some false from by kernel_rfl]
  exact h
theorem iw {x : Int} (h1 : 0 ≤ x) (h2 : x ≤ 9223372036854775807) : some (V.int .i64 (IntKind.i64.wrap x)) = some (V.int .i64 x) := by rw [wrap64_fit h1 h2]
theorem rr_brackets (s : By) (st : Nat) (neg : Bool) (hs : s.length ≤ 200) (hi : st ≤ s.length) : RRb s st neg := by
  unfold RRb
  refine ETri.of_safe Tryz.func209 rfl Tryz.results209 Tryz.ntmps209 rfl ?_
  refine go 99 rfl ?_
  refine Safe.allocB tz230 rfl rfl (fun A hAl hAd => ?_)
  refine go 99 rfl ?_
  refine Safe.buildBp (k := 259) (p := bls) (by kernel_rfl) rfl (fun B hBl hBd hBb => ?_)
  refine go 99 rfl ?_
  refine Safe.allocB tz230 rfl rfl (fun C hCl hCd => ?_)
  refine go 99 rfl ?_
  refine Safe.storeB sz230 hBl hCl (dryL1_leaf hBd) rfl rfl rfl rfl rfl ?_
  refine go 99 rfl ?_
  refine Safe.loop (α := (Nat × List V)) (fun a => [(0, .str s), (1, nI a.1), (2, .bool neg), (6, .ptr 0 0), (9, .ptr 1 0), (10, nI st)]) (fun a => [(1, .cells 157 a.2 259), (0, .cells 157 A 259)]) 2 (fun a => s.length - a.1) (fun a => st ≤ a.1 ∧ a.1 ≤ s.length ∧ (∃ f, s.length - a.1 < f ∧ brk s st = brL s st f a.1) ∧ a.2.length = 259 ∧ a.2.all dryV1 = true ∧ bls a.2 = true) (st, B) (sgI 2) ⟨⟨fit rfl, fit rfl, fit rfl, fit rfl, fit rfl, fit rfl, trivial⟩, ⟨_, .refl _, subK rfl (renO_dry (dryL1_dry hBd)) (subK rfl (renO_dry (dryL1_dry hAd)) subN)⟩, rfl⟩ ⟨Nat.le_refl _, hi, ⟨_, by dsimp only; omega, rfl⟩, hBl, hBd, hBb⟩ ?_
  rintro ⟨i, X⟩ ⟨hi1, hi2, ⟨f, hf, hE⟩, hXl, hXd, hXb⟩
  dsimp only at hi1 hi2 hf hE hXl hXd hXb
  refine go 99 rfl ?_
  refine Safe.gs rfl (fun a => ?_) (fun a => ?_)
  · have h0 : i < s.length := by simpa using a
    refine go 99 rfl ?_
    refine Safe.idxS h0 rfl rfl rfl ?_
    refine go 99 rfl ?_
    refine Safe.br rfl (fun b => ?_) (fun b => ?_)
    · have b1 : s[i] ≠ 93 := u8neR (d := 93) (by simpa using b)
      match f, hf, hE with
      | 0, hf, _ => exact absurd hf (by omega)
      | f + 1, hf, hE =>
      rw [brL_go h0 b1] at hE
      obtain ⟨l1, l2⟩ := itR_1 s i
      obtain ⟨p1, p2⟩ := itR_b s i hi2
      have hB := brI.eq_1 s i
      refine go 99 rfl ?_
      refine Safe.call (rr_item s i hs (by omega)) rfl rfl rfl ?_
      refine go 99 rfl ?_
      generalize hr : itR s i = r at *
      obtain ⟨lo, j, ok⟩ := r
      dsimp only at l1 l2 p1 p2 hB ⊢
      refine Safe.cut1 (α := (Int × Nat × Bool)) (fun b => [(0, .str s), (1, nI i), (2, .bool neg), (6, .ptr 0 0), (9, .ptr 1 0), (10, nI st), (11, .int .u8 lo), (12, nI b.2.1), (13, .bool b.2.2), (14, .int .u8 b.1)]) (fun b => [(1, .cells 157 X 259), (0, .cells 157 A 259)]) 2 (fun b => 0 ≤ b.1 ∧ b.1 ≤ 255 ∧ brI s i = if b.2.2 = true ∧ ¬ b.1 < lo then some b.2.1 else none) ?_ ?_
      · refine Safe.gs rfl (fun a2 => ?_) (fun a2 => ?_)
        · have a3 : ok = true := a2
          subst a3
          refine go 99 rfl ?_
          refine Safe.gs rfl (fun a4 => ?_) (fun a4 => ?_)
          · have hj : j + 1 < s.length := by have := of_decide_eq_true a4; rw [w1 (by omega)] at this; omega
            refine go 99 rfl ?_
            refine Safe.idxS (show j < s.length by omega) rfl rfl rfl ?_
            refine go 99 rfl ?_
            refine Safe.gs rfl (fun a5 => ?_) (fun a5 => ?_)
            · have h45 : s[j] = 45 := u8eqR (d := 45) a5
              refine go 99 rfl ?_
              refine Safe.idxS hj (w1 (by omega)) rfl rfl ?_
              refine go 99 rfl ?_
              refine Safe.br rfl (fun a6 => ?_) (fun a6 => ?_)
              · have hn : s[j + 1] ≠ 93 := u8neR (d := 93) (by simpa using a6)
                have hR : rngB s j = true := by
                  unfold rngB
                  rw [List.getElem?_eq_getElem hj, List.getElem?_eq_getElem (show j < s.length by omega), h45, decide_eq_true hj]
                  simp [hn]
                rw [if_pos rfl, if_pos hR] at hB
                refine go 99 rfl ?_
                refine Safe.eqv (congrArg (V.int .i64) (w1 (show j < 4611686018427387904 by omega))) ?_
                refine Safe.call (rr_item s (j + 1) hs (by omega)) rfl rfl rfl ?_
                refine go 99 rfl ?_
                obtain ⟨k1, k2⟩ := itR_1 s (j + 1)
                exact ⟨sgI 2, (_, _, _), ⟨k1, k2, hB⟩, rfl, rfl, ⟨fit rfl, fit rfl, fit rfl, fit rfl, fit rfl, fit rfl, fit rfl, fit rfl, fit rfl, fit rfl, trivial⟩, ⟨_, .refl _, subK rfl (renO_dry (dryL1_dry hXd)) (subK rfl (renO_dry (dryL1_dry hAd)) subN)⟩, rfl⟩
              · have hn : s[j + 1] = 93 := u8eqR (d := 93) (by simpa using a6)
                have hR : rngB s j = false := by
                  unfold rngB
                  rw [List.getElem?_eq_getElem hj, hn]
                  simp
                rw [if_pos rfl, hR, if_neg Bool.false_ne_true] at hB
                refine go 99 rfl ?_
                exact ⟨sgI 2, (lo, j, true), ⟨l1, l2, by rw [hB, if_pos ⟨rfl, Int.lt_irrefl _⟩]⟩, rfl, rfl, ⟨fit rfl, fit rfl, fit rfl, fit rfl, fit rfl, fit rfl, fit rfl, fit rfl, fit rfl, fit rfl, trivial⟩, ⟨_, .refl _, subK rfl (renO_dry (dryL1_dry hXd)) (subK rfl (renO_dry (dryL1_dry hAd)) subN)⟩, rfl⟩
            · have h45 : s[j] ≠ 45 := u8neR (d := 45) a5
              have hR : rngB s j = false := by
                unfold rngB
                rw [List.getElem?_eq_getElem (show j < s.length by omega)]
                simp [h45]
              rw [if_pos rfl, hR, if_neg Bool.false_ne_true] at hB
              refine go 99 rfl ?_
              exact ⟨sgI 2, (lo, j, true), ⟨l1, l2, by rw [hB, if_pos ⟨rfl, Int.lt_irrefl _⟩]⟩, rfl, rfl, ⟨fit rfl, fit rfl, fit rfl, fit rfl, fit rfl, fit rfl, fit rfl, fit rfl, fit rfl, fit rfl, trivial⟩, ⟨_, .refl _, subK rfl (renO_dry (dryL1_dry hXd)) (subK rfl (renO_dry (dryL1_dry hAd)) subN)⟩, rfl⟩
          · have hj : ¬ j + 1 < s.length := by have := of_decide_eq_false a4; rw [w1 (by omega)] at this; omega
            have hR : rngB s j = false := by
              unfold rngB
              rw [decide_eq_false hj]
              simp
            rw [if_pos rfl, hR, if_neg Bool.false_ne_true] at hB
            refine go 99 rfl ?_
            exact ⟨sgI 2, (lo, j, true), ⟨l1, l2, by rw [hB, if_pos ⟨rfl, Int.lt_irrefl _⟩]⟩, rfl, rfl, ⟨fit rfl, fit rfl, fit rfl, fit rfl, fit rfl, fit rfl, fit rfl, fit rfl, fit rfl, fit rfl, trivial⟩, ⟨_, .refl _, subK rfl (renO_dry (dryL1_dry hXd)) (subK rfl (renO_dry (dryL1_dry hAd)) subN)⟩, rfl⟩
        · have a3 : ok = false := a2
          subst a3
          rw [if_neg Bool.false_ne_true] at hB
          refine go 99 rfl ?_
          exact ⟨sgI 2, (lo, j, false), ⟨l1, l2, by rw [hB, if_neg (fun h => Bool.false_ne_true h.1)]⟩, rfl, rfl, ⟨fit rfl, fit rfl, fit rfl, fit rfl, fit rfl, fit rfl, fit rfl, fit rfl, fit rfl, fit rfl, trivial⟩, ⟨_, .refl _, subK rfl (renO_dry (dryL1_dry hXd)) (subK rfl (renO_dry (dryL1_dry hAd)) subN)⟩, rfl⟩
      · rintro ⟨hi', j', ok'⟩ ⟨q1, q2, hB'⟩
        dsimp only at q1 q2 hB'
        have hno : brI s i = none → brk s st = none := fun h => by rw [hE, h]
        refine go 99 rfl ?_
        refine Safe.gs rfl (fun e => ?_) (fun e => ?_)
        · have e1 : ok' = false := by simpa using e
          subst e1
          rw [if_neg (fun h => Bool.false_ne_true h.1)] at hB'
          refine go 99 rfl ?_
          refine Safe.ldO (ldAll ag230 sz230 hXl) rfl rfl ?_
          refine go 99 rfl ?_
          refine Safe.storeB sz230 hXl hAl (dryL1_leaf hXd) rfl rfl rfl rfl rfl ?_
          refine go 99 rfl ?_
          exact ⟨.inr rfl, trivial, .done (r := .tup [.agg X, nI i, .bool false]) (resA_c3 (ldAll ag230 sz230 hXl) rfl rfl rfl rfl) (d3d hXd) (by rw [hno hB']; exact AnsV.no _ ⟨hXl, hXd⟩)⟩
        · have e1 : ok' = true := by simpa using e
          subst e1
          refine go 99 rfl ?_
          refine Safe.br rfl (fun e2 => ?_) (fun e2 => ?_)
          · have e3 : hi' < lo := of_decide_eq_true e2
            rw [if_neg (fun h => h.2 e3)] at hB'
            refine go 99 rfl ?_
            refine Safe.ldO (ldAll ag230 sz230 hXl) rfl rfl ?_
            refine go 99 rfl ?_
            refine Safe.storeB sz230 hXl hAl (dryL1_leaf hXd) rfl rfl rfl rfl rfl ?_
            refine go 99 rfl ?_
            exact ⟨.inr rfl, trivial, .done (r := .tup [.agg X, nI i, .bool false]) (resA_c3 (ldAll ag230 sz230 hXl) rfl rfl rfl rfl) (d3d hXd) (by rw [hno hB']; exact AnsV.no _ ⟨hXl, hXd⟩)⟩
          · have e3 : ¬ hi' < lo := of_decide_eq_false e2
            rw [if_pos ⟨rfl, e3⟩] at hB'
            have hjl := brI_le hB'
            rw [hB'] at hE
            dsimp only at hE
            refine go 99 rfl ?_
            obtain ⟨ln, rfl⟩ := Int.eq_ofNat_of_zero_le l1
            obtain ⟨hn, rfl⟩ := Int.eq_ofNat_of_zero_le q1
            refine Safe.loop (α := (Nat × List V)) (fun a => [(0, .str s), (1, nI i), (2, .bool neg), (6, .ptr 0 0), (9, .ptr 1 0), (10, nI st), (12, nI j'), (14, .int .u8 hn), (15, nI a.1)]) (fun a => [(1, .cells 157 a.2 259), (0, .cells 157 A 259)]) 2 (fun a => 256 - a.1) (fun a => a.1 ≤ 256 ∧ a.2.length = 259 ∧ a.2.all dryV1 = true ∧ bls a.2 = true) (ln, X) (sgI 2) ⟨⟨fit rfl, fit rfl, fit rfl, fit rfl, fit rfl, fit rfl, fit rfl, fit rfl, fit (iw (by omega) (by omega)), trivial⟩, ⟨_, .refl _, subK rfl (renO_dry (dryL1_dry hXd)) (subK rfl (renO_dry (dryL1_dry hAd)) subN)⟩, rfl⟩ ⟨by dsimp only; omega, hXl, hXd, hXb⟩ ?_
            rintro ⟨k, Y⟩ ⟨hk, hYl, hYd, hYb⟩
            dsimp only at hk hYl hYd hYb
            refine go 99 rfl ?_
            refine Safe.br rfl (fun t => ?_) (fun t => ?_)
            · have hk2 : k < 256 := by have := of_decide_eq_true t; rw [wrap64_fit (by omega) (by omega)] at this; omega
              refine go 99 rfl ?_
              refine Safe.idxO hk2 rfl rfl rfl ?_
              refine Safe.stB2 (off := 0 + 1 + k * 1) (by rw [hYl]; omega) hYd rfl rfl rfl rfl rfl rfl rfl (fun Z hZ hZl hZd => ?_)
              have hZb : bls Z = true := by rw [hZ]; exact bls_set hYb
              replace hZl := hZl.trans hYl
              refine go 99 rfl ?_
              exact ⟨sgI 2, (k + 1, Z), ⟨hk2, hZl, hZd, hZb⟩, mlt hk2, rfl, rfl, ⟨fit rfl, fit rfl, fit rfl, fit rfl, fit rfl, fit rfl, fit rfl, fit rfl, fit (isucc (by first | omega | (dsimp only; omega))), trivial⟩, ⟨_, .refl _, subK rfl (renO_dry (dryL1_dry hZd)) (subK rfl (renO_dry (dryL1_dry hAd)) subN)⟩, rfl⟩
            · refine go 99 rfl ?_
              exact ⟨sgI 2, (j', Y), ⟨by dsimp only; omega, by dsimp only; omega, ⟨f, by dsimp only; omega, hE⟩, hYl, hYd, hYb⟩, by dsimp only; omega, rfl, rfl, ⟨fit rfl, fit rfl, fit rfl, fit rfl, fit rfl, fit rfl, trivial⟩, ⟨_, .refl _, subK rfl (renO_dry (dryL1_dry hYd)) (subK rfl (renO_dry (dryL1_dry hAd)) subN)⟩, rfl⟩
    · have b1 : s[i] = 93 := u8eqR (d := 93) (by simpa using b)
      rw [brL_93 h0 b1 (by omega)] at hE
      refine go 99 rfl ?_
      refine Safe.gs rfl (fun c => ?_) (fun c => ?_)
      · exact absurd (of_decide_eq_true c) (by dsimp only; omega)
      · refine go 99 rfl ?_
        refine Safe.br rfl (fun d => ?_) (fun d => ?_)
        · have d1 : i = st := by have := of_decide_eq_true (p := (i : Int) = st) (by simpa using d); omega
          rw [if_pos d1] at hE
          refine go 99 rfl ?_
          refine Safe.ldO (ldAll ag230 sz230 hXl) rfl rfl ?_
          refine go 99 rfl ?_
          refine Safe.storeB sz230 hXl hAl (dryL1_leaf hXd) rfl rfl rfl rfl rfl ?_
          refine go 99 rfl ?_
          exact ⟨.inr rfl, trivial, .done (r := .tup [.agg X, nI i, .bool false]) (resA_c3 (ldAll ag230 sz230 hXl) rfl rfl rfl rfl) (d3d hXd) (by rw [hE]; exact AnsV.no _ ⟨hXl, hXd⟩)⟩
        · have d1 : i ≠ st := fun h => by subst h; simp at d
          rw [if_neg d1] at hE
          refine go 99 rfl ?_
          refine Safe.loop (α := (Nat × List V)) (fun a => [(1, nI i), (2, .bool neg), (6, .ptr 0 0), (9, .ptr 1 0), (16, nI a.1)]) (fun a => [(1, .cells 157 a.2 259), (0, .cells 157 A 259)]) 2 (fun a => 256 - a.1) (fun a => a.1 ≤ 256 ∧ a.2.length = 259 ∧ a.2.all dryV1 = true ∧ bls a.2 = true) (0, X) (sgI 2) ⟨⟨fit rfl, fit rfl, fit rfl, fit rfl, fit rfl, trivial⟩, ⟨_, .refl _, subK rfl (renO_dry (dryL1_dry hXd)) (subK rfl (renO_dry (dryL1_dry hAd)) subN)⟩, rfl⟩ ⟨Nat.zero_le _, hXl, hXd, hXb⟩ ?_
          rintro ⟨k, Y⟩ ⟨hk, hYl, hYd, hYb⟩
          dsimp only at hk hYl hYd hYb
          refine go 99 rfl ?_
          refine Safe.br rfl (fun t => ?_) (fun t => ?_)
          · have hk2 : k < 256 := ltc t
            refine go 99 rfl ?_
            refine Safe.idxO hk2 rfl rfl rfl ?_
            obtain ⟨bb, hbb⟩ := bls_at hYb hYl hk2
            refine Safe.ldO (ld_bool hbb) rfl rfl ?_
            refine go 99 rfl ?_
            refine Safe.idxO hk2 rfl rfl rfl ?_
            refine Safe.stB2 (off := 0 + 1 + k * 1) (by rw [hYl]; omega) hYd rfl rfl rfl rfl rfl rfl rfl (fun Z hZ hZl hZd => ?_)
            have hZb : bls Z = true := by rw [hZ]; exact bls_set hYb
            replace hZl := hZl.trans hYl
            refine go 99 rfl ?_
            exact ⟨sgI 2, (k + 1, Z), ⟨hk2, hZl, hZd, hZb⟩, mlt hk2, rfl, rfl, ⟨fit rfl, fit rfl, fit rfl, fit rfl, fit (isucc (by first | omega | (dsimp only; omega))), trivial⟩, ⟨_, .refl _, subK rfl (renO_dry (dryL1_dry hZd)) (subK rfl (renO_dry (dryL1_dry hAd)) subN)⟩, rfl⟩
          · refine go 99 rfl ?_
            refine Safe.ldO (ldAll ag230 sz230 hYl) rfl rfl ?_
            refine go 99 rfl ?_
            refine Safe.storeB sz230 hYl hAl (dryL1_leaf hYd) rfl rfl rfl rfl rfl ?_
            refine go 99 rfl ?_
            exact ⟨.inr rfl, trivial, .done (r := .tup [.agg Y, nI (i + 1 : Nat), .bool true]) (resA_c3 (ldAll ag230 sz230 hYl) rfl rfl (iw (x := (i : Int) + 1) (by omega) (by omega)) rfl) (d3d hYd) (by rw [hE]; exact AnsV.ok ⟨hYl, hYd⟩)⟩
  · have h0 : s.length ≤ i := by simpa using a
    rw [brL_end h0 (by omega)] at hE
    refine go 99 rfl ?_
    refine Safe.gs rfl (fun c => ?_) (fun c => ?_)
    · refine go 99 rfl ?_
      refine Safe.ldO (ldAll ag230 sz230 hXl) rfl rfl ?_
      refine go 99 rfl ?_
      refine Safe.storeB sz230 hXl hAl (dryL1_leaf hXd) rfl rfl rfl rfl rfl ?_
      refine go 99 rfl ?_
      exact ⟨.inr rfl, trivial, .done (r := .tup [.agg X, nI i, .bool false]) (resA_c3 (ldAll ag230 sz230 hXl) rfl rfl rfl rfl) (d3d hXd) (by rw [hE]; exact AnsV.no _ ⟨hXl, hXd⟩)⟩
    · exact absurd (of_decide_eq_false c) (by dsimp only; omega)
end Go.Proofs.YtmohgegpcfkooaaGreatDoor.Al
end

section
namespace Go.Proofs.YtmohgegpcfkooaaGreatDoor.Al
open Go.Fw
variable [Gl]
set_option maxRecDepth 20000
set_option maxHeartbeats 4000000
def posB (s : By) (j : Nat) : Bool := match s[j]? with
  | some c => c == 42 || (c == 43 || c == 63)
  | none => false
def escP (s : By) (i : Nat) : Option Nat := match s[i]? with
  | none => none
  | some c => if escO c.toNat = true then some (i + 1) else none
mutual
def raA (s : By) : Nat → Nat → Option Nat
  | 0, _ => none
  | f + 1, i => match s[i]? with
    | none => none
    | some c =>
      if spcI c.toNat = false then some (i + 1) else if c = 46 then some (i + 1) else if c = 92 then escP s (i + 1)
      else if c = 91 then brk s (if s[i + 1]? = some 94 then i + 2 else i + 1)
      else if c = 40 then (match raE s f (i + 1) with
        | none => none
        | some j => if s[j]? = some 41 then some (j + 1) else none)
      else none
def raE (s : By) : Nat → Nat → Option Nat
  | 0, _ => none
  | f + 1, i => match s[i]? with
    | none => some i
    | some c => if c = 41 then some i else if c = 124 then raE s f (i + 1) else match raA s f i with
      | none => none
      | some j => raE s f (if posB s j = true then j + 1 else j)
end
def CA (s : By) (i : Nat) : Prop := ∀ f, 2 * (s.length - i) + 1 ≤ f → ETri Tryz.prog 192 [.str s, nI i] (AnsV (raA s f i))
def CE (s : By) (i : Nat) : Prop := ∀ f, 2 * (s.length - i) + 2 ≤ f → ETri Tryz.prog 164 [.str s, nI i] (AnsV (raE s f i))
theorem rr_atom (s : By) (i : Nat) (hs : s.length ≤ 200) (hi : i < s.length) (ih : CE s (i + 1)) : CA s i := by
  intro f hf
  match f, hf with
  | 0, hf => exact absurd hf (by omega)
  | f + 1, hf =>
  have hE := raA.eq_2 s i f
  rw [List.getElem?_eq_getElem hi] at hE
  simp only at hE
  have hc := s[i].toNat_lt
  generalize hcc : s[i] = c at *
  refine ETri.of_safe Tryz.func192 rfl Tryz.results192 Tryz.ntmps192 rfl ?_
  refine go 99 rfl ?_
  refine Safe.allocB tz230 rfl rfl (fun A hAl hAd => ?_)
  refine go 99 rfl ?_
  refine Safe.idxS hi rfl rfl rfl ?_
  refine go 99 rfl ?_
  rw [hcc]
  refine Safe.call (rr_special c.toNat) rfl rfl rfl ?_
  refine go 99 rfl ?_
  refine Safe.br rfl (fun a => ?_) (fun a => ?_)
  · have a1 : spcI c.toNat = false := by simpa using a
    rw [if_pos a1] at hE
    refine go 99 rfl ?_
    refine Safe.callE (rr_single c.toNat hc) rfl rfl rfl ?_
    rintro v hv ⟨cs, rfl, hcsl, hcsd⟩
    refine go 99 rfl ?_
    refine Safe.storeB sz230 hcsl hAl (dryL1_leaf hcsd) rfl rfl rfl rfl rfl ?_
    refine go 99 rfl ?_
    exact ⟨.inr rfl, trivial, .done (r := .tup [.agg cs, nI (i + 1 : Nat), .bool true]) (resA_c3 (ldAll ag230 sz230 hcsl) rfl rfl (iw (x := (i : Int) + 1) (by omega) (by omega)) rfl) (d3d hcsd) (by rw [hE]; exact AnsV.ok ⟨hcsl, hcsd⟩)⟩
  · have a1 : ¬ spcI c.toNat = false := by simpa using a
    rw [if_neg a1] at hE
    refine go 99 rfl ?_
    refine Safe.br rfl (fun b => ?_) (fun b => ?_)
    · have b1 : c = 46 := u8eqR (d := 46) b
      rw [if_pos b1] at hE
      refine go 99 rfl ?_
      refine Safe.buildB (k := 259) (by kernel_rfl) rfl (fun B hBl hBd => ?_)
      refine go 99 rfl ?_
      refine Safe.allocB tz230 rfl rfl (fun C hCl hCd => ?_)
      refine go 99 rfl ?_
      refine Safe.storeB sz230 hBl hCl (dryL1_leaf hBd) rfl rfl rfl rfl rfl ?_
      refine go 99 rfl ?_
      refine Safe.loop (α := (Nat × List V)) (fun a => [(0, .str s), (1, nI i), (4, .ptr 0 0), (8, .ptr 1 0), (9, nI a.1)]) (fun a => [(1, .cells 157 a.2 259), (0, .cells 157 A 259)]) 2 (fun a => 256 - a.1) (fun a => a.1 ≤ 256 ∧ a.2.length = 259 ∧ a.2.all dryV1 = true) (0, B) (sgI 2) ⟨⟨fit rfl, fit rfl, fit rfl, fit rfl, fit rfl, trivial⟩, ⟨_, .refl _, subK rfl (renO_dry (dryL1_dry hBd)) (subK rfl (renO_dry (dryL1_dry hAd)) subN)⟩, rfl⟩ ⟨Nat.zero_le _, hBl, hBd⟩ ?_
      rintro ⟨k, Y⟩ ⟨hk, hYl, hYd⟩
      dsimp only at hk hYl hYd
      refine go 99 rfl ?_
      refine Safe.br rfl (fun t => ?_) (fun t => ?_)
      · have hk2 : k < 256 := ltc t
        refine go 99 rfl ?_
        refine Safe.idxO hk2 rfl rfl rfl ?_
        refine Safe.stB (off := 0 + 1 + k * 1) (by rw [hYl]; omega) hYd rfl rfl rfl rfl rfl rfl rfl (fun Z hZl hZd => ?_)
        replace hZl := hZl.trans hYl
        refine go 99 rfl ?_
        exact ⟨sgI 2, (k + 1, Z), ⟨hk2, hZl, hZd⟩, mlt hk2, rfl, rfl, ⟨fit rfl, fit rfl, fit rfl, fit rfl, fit (isucc (by first | omega | (dsimp only; omega))), trivial⟩, ⟨_, .refl _, subK rfl (renO_dry (dryL1_dry hZd)) (subK rfl (renO_dry (dryL1_dry hAd)) subN)⟩, rfl⟩
      · refine go 99 rfl ?_
        refine Safe.ldO (ldAll ag230 sz230 hYl) rfl rfl ?_
        refine go 99 rfl ?_
        refine Safe.storeB sz230 hYl hAl (dryL1_leaf hYd) rfl rfl rfl rfl rfl ?_
        refine go 99 rfl ?_
        exact ⟨.inr rfl, trivial, .done (r := .tup [.agg Y, nI (i + 1 : Nat), .bool true]) (resA_c3 (ldAll ag230 sz230 hYl) rfl rfl (iw (x := (i : Int) + 1) (by omega) (by omega)) rfl) (d3d hYd) (by rw [hE]; exact AnsV.ok ⟨hYl, hYd⟩)⟩
    · have b1 : ¬ c = 46 := u8neR (d := 46) b
      rw [if_neg b1] at hE
      refine go 99 rfl ?_
      refine Safe.gs rfl (fun d => ?_) (fun d => ?_)
      · have d1 : c = 92 := u8eqR (d := 92) d
        rw [if_pos d1] at hE
        refine go 99 rfl ?_
        refine Safe.br rfl (fun e => ?_) (fun e => ?_)
        · have e1 : i + 1 < s.length := by have := of_decide_eq_true e; rw [w1 (by omega)] at this; omega
          simp only [escP, List.getElem?_eq_getElem e1] at hE
          refine go 99 rfl ?_
          refine Safe.idxS e1 (w1 (by omega)) rfl rfl ?_
          refine go 99 rfl ?_
          refine Safe.callE (rr_escape s[i + 1].toNat s[i + 1].toNat_lt) rfl rfl rfl ?_
          rintro v hv ⟨cs, rfl, hcsl, hcsd⟩
          refine go 99 rfl ?_
          refine Safe.allocB tz230 rfl rfl (fun G hGl hGd => ?_)
          refine go 99 rfl ?_
          refine Safe.storeB sz230 hcsl hGl (dryL1_leaf hcsd) rfl rfl rfl rfl rfl ?_
          refine go 99 rfl ?_
          refine Safe.ldO (ldAll ag230 sz230 hcsl) rfl rfl ?_
          refine go 99 rfl ?_
          refine Safe.storeB sz230 hcsl hAl (dryL1_leaf hcsd) rfl rfl rfl rfl rfl ?_
          refine go 99 rfl ?_
          exact ⟨.inr rfl, trivial, .done (r := .tup [.agg cs, nI (i + 2 : Nat), .bool (escO (s[i + 1].toNat : Nat))]) (resA_c3 (ldAll ag230 sz230 hcsl) rfl rfl (iw (x := (i : Int) + 2) (by omega) (by omega)) rfl) (d3d hcsd) (by rw [hE]; exact ⟨cs, i + 2, _, rfl, ⟨hcsl, hcsd⟩, by split <;> simp_all, fun k hk => by split at hk <;> simp_all⟩)⟩
        · have e1 : ¬ i + 1 < s.length := by have := of_decide_eq_false e; rw [w1 (by omega)] at this; omega
          simp only [escP, List.getElem?_eq_none (show s.length ≤ i + 1 by omega)] at hE
          subst d1
          refine go 99 rfl ?_
          refine Safe.gs rfl (fun x1 => ?_) (fun x1 => ?_)
          · exact absurd x1 (by decide)
          · refine go 99 rfl ?_
            refine Safe.br rfl (fun x2 => ?_) (fun x2 => ?_)
            · exact absurd x2 (by decide)
            · refine go 99 rfl ?_
              refine Safe.br rfl (fun x3 => ?_) (fun x3 => ?_)
              · refine go 99 rfl ?_
                refine Safe.buildB (k := 259) (by kernel_rfl) rfl (fun E hEl hEd => ?_)
                refine go 99 rfl ?_
                refine Safe.storeB sz230 hEl hAl (dryL1_leaf hEd) rfl rfl rfl rfl rfl ?_
                refine go 99 rfl ?_
                exact ⟨.inr rfl, trivial, .done (r := .tup [.agg E, nI i, .bool false]) (resA_c3 (ldAll ag230 sz230 hEl) rfl rfl rfl rfl) (d3d hEd) (by rw [hE]; exact AnsV.no _ ⟨hEl, hEd⟩)⟩
              · exact absurd x3 (by decide)
      · have d1 : ¬ c = 92 := u8neR (d := 92) d
        rw [if_neg d1] at hE
        refine go 99 rfl ?_
        refine Safe.gs rfl (fun e => ?_) (fun e => ?_)
        · have e1 : c = 91 := u8eqR (d := 91) e
          rw [if_pos e1] at hE
          refine go 99 rfl ?_
          refine Safe.gs rfl (fun x1 => ?_) (fun x1 => ?_)
          · have x2 : i + 1 < s.length := by have := of_decide_eq_true x1; rw [w1 (by omega)] at this; omega
            rw [List.getElem?_eq_getElem x2] at hE
            refine go 99 rfl ?_
            refine Safe.idxS x2 (w1 (by omega)) rfl rfl ?_
            refine go 99 rfl ?_
            refine Safe.br rfl (fun x3 => ?_) (fun x3 => ?_)
            · have x4 : s[i + 1] = 94 := u8eqR (d := 94) x3
              rw [if_pos (by rw [x4])] at hE
              refine go 99 rfl ?_
              refine Safe.eqv (congrArg (V.int .i64) (w2 (show i < 4611686018427387904 by omega))) ?_
              refine Safe.callE (rr_brackets s (i + 2) true hs (by omega)) rfl rfl rfl ?_
              rintro v hv ⟨cs, j, o, rfl, ⟨hcsl, hcsd⟩, hA⟩
              refine go 99 rfl ?_
              refine Safe.storeB sz230 hcsl hAl (dryL1_leaf hcsd) rfl rfl rfl rfl rfl ?_
              refine go 99 rfl ?_
              exact ⟨.inr rfl, trivial, .done (r := .tup [.agg cs, nI j, .bool o]) (resA_c3 (ldAll ag230 sz230 hcsl) rfl rfl rfl rfl) (d3d hcsd) (by rw [hE]; exact ⟨cs, j, o, rfl, ⟨hcsl, hcsd⟩, hA⟩)⟩
            · have x4 : s[i + 1] ≠ 94 := u8neR (d := 94) x3
              rw [if_neg (fun h => x4 (Option.some.inj h))] at hE
              refine go 99 rfl ?_
              refine Safe.br rfl (fun x5 => ?_) (fun x5 => ?_)
              · refine go 99 rfl ?_
                refine Safe.eqv (congrArg (V.int .i64) (w1 (show i < 4611686018427387904 by omega))) ?_
                refine Safe.callE (rr_brackets s (i + 1) false hs (by omega)) rfl rfl rfl ?_
                rintro v hv ⟨cs, j, o, rfl, ⟨hcsl, hcsd⟩, hA⟩
                refine go 99 rfl ?_
                refine Safe.storeB sz230 hcsl hAl (dryL1_leaf hcsd) rfl rfl rfl rfl rfl ?_
                refine go 99 rfl ?_
                exact ⟨.inr rfl, trivial, .done (r := .tup [.agg cs, nI j, .bool o]) (resA_c3 (ldAll ag230 sz230 hcsl) rfl rfl rfl rfl) (d3d hcsd) (by rw [hE]; exact ⟨cs, j, o, rfl, ⟨hcsl, hcsd⟩, hA⟩)⟩
              · exact absurd e1 (u8neR (d := 91) x5)
          · have x2 : ¬ i + 1 < s.length := by have := of_decide_eq_false x1; rw [w1 (by omega)] at this; omega
            rw [List.getElem?_eq_none (show s.length ≤ i + 1 by omega), if_neg (by simp)] at hE
            refine go 99 rfl ?_
            refine Safe.br rfl (fun x5 => ?_) (fun x5 => ?_)
            · refine go 99 rfl ?_
              refine Safe.eqv (congrArg (V.int .i64) (w1 (show i < 4611686018427387904 by omega))) ?_
              refine Safe.callE (rr_brackets s (i + 1) false hs (by omega)) rfl rfl rfl ?_
              rintro v hv ⟨cs, j, o, rfl, ⟨hcsl, hcsd⟩, hA⟩
              refine go 99 rfl ?_
              refine Safe.storeB sz230 hcsl hAl (dryL1_leaf hcsd) rfl rfl rfl rfl rfl ?_
              refine go 99 rfl ?_
              exact ⟨.inr rfl, trivial, .done (r := .tup [.agg cs, nI j, .bool o]) (resA_c3 (ldAll ag230 sz230 hcsl) rfl rfl rfl rfl) (d3d hcsd) (by rw [hE]; exact ⟨cs, j, o, rfl, ⟨hcsl, hcsd⟩, hA⟩)⟩
            · exact absurd e1 (u8neR (d := 91) x5)
        · have e1 : ¬ c = 91 := u8neR (d := 91) e
          rw [if_neg e1] at hE
          refine go 99 rfl ?_
          refine Safe.br rfl (fun x5 => ?_) (fun x5 => ?_)
          · exact absurd (u8eqR (d := 91) x5) e1
          · refine go 99 rfl ?_
            refine Safe.br rfl (fun x6 => ?_) (fun x6 => ?_)
            · have x7 : c ≠ 40 := u8neR (d := 40) (by simpa using x6)
              rw [if_neg x7] at hE
              refine go 99 rfl ?_
              refine Safe.buildB (k := 259) (by kernel_rfl) rfl (fun E hEl hEd => ?_)
              refine go 99 rfl ?_
              refine Safe.storeB sz230 hEl hAl (dryL1_leaf hEd) rfl rfl rfl rfl rfl ?_
              refine go 99 rfl ?_
              exact ⟨.inr rfl, trivial, .done (r := .tup [.agg E, nI i, .bool false]) (resA_c3 (ldAll ag230 sz230 hEl) rfl rfl rfl rfl) (d3d hEd) (by rw [hE]; exact AnsV.no _ ⟨hEl, hEd⟩)⟩
            · have x7 : c = 40 := u8eqR (d := 40) (by simpa using x6)
              rw [if_pos x7] at hE
              refine go 99 rfl ?_
              refine Safe.eqv (congrArg (V.int .i64) (w1 (show i < 4611686018427387904 by omega))) ?_
              refine Safe.callE (ih f (by omega)) rfl rfl rfl ?_
              rintro v hv ⟨cs, j, o, rfl, ⟨hcsl, hcsd⟩, hA1, hA2⟩
              refine go 99 rfl ?_
              refine Safe.allocB tz230 rfl rfl (fun G hGl hGd => ?_)
              refine go 99 rfl ?_
              refine Safe.storeB sz230 hcsl hGl (dryL1_leaf hcsd) rfl rfl rfl rfl rfl ?_
              refine go 99 rfl ?_
              refine Safe.gs rfl (fun y1 => ?_) (fun y1 => ?_)
              · have y2 : o = false := by simpa using y1
                rw [y2] at hA1
                have y3 : raE s f (i + 1) = none := by revert hA1; cases raE s f (i + 1) <;> simp
                rw [y3] at hE
                refine go 99 rfl ?_
                refine go 99 rfl ?_
                refine Safe.buildB (k := 259) (by kernel_rfl) rfl (fun E hEl hEd => ?_)
                refine go 99 rfl ?_
                refine Safe.storeB sz230 hEl hAl (dryL1_leaf hEd) rfl rfl rfl rfl rfl ?_
                refine go 99 rfl ?_
                exact ⟨.inr rfl, trivial, .done (r := .tup [.agg E, nI i, .bool false]) (resA_c3 (ldAll ag230 sz230 hEl) rfl rfl rfl rfl) (d3d hEd) (by rw [hE]; exact AnsV.no _ ⟨hEl, hEd⟩)⟩
              · have y2 : o = true := by simpa using y1
                rw [y2] at hA1
                obtain ⟨j', y3⟩ : ∃ j', raE s f (i + 1) = some j' := Option.isSome_iff_exists.1 hA1.symm
                have y4 := hA2 j' y3
                subst y4
                rw [y3] at hE
                dsimp only at hE
                refine go 99 rfl ?_
                refine Safe.gs rfl (fun z1 => ?_) (fun z1 => ?_)
                · have z2 : s.length ≤ j := by have := of_decide_eq_true z1; omega
                  rw [List.getElem?_eq_none z2, if_neg (by simp)] at hE
                  refine go 99 rfl ?_
                  refine Safe.buildB (k := 259) (by kernel_rfl) rfl (fun E hEl hEd => ?_)
                  refine go 99 rfl ?_
                  refine Safe.storeB sz230 hEl hAl (dryL1_leaf hEd) rfl rfl rfl rfl rfl ?_
                  refine go 99 rfl ?_
                  exact ⟨.inr rfl, trivial, .done (r := .tup [.agg E, nI i, .bool false]) (resA_c3 (ldAll ag230 sz230 hEl) rfl rfl rfl rfl) (d3d hEd) (by rw [hE]; exact AnsV.no _ ⟨hEl, hEd⟩)⟩
                · have z2 : j < s.length := by have := of_decide_eq_false z1; omega
                  rw [List.getElem?_eq_getElem z2] at hE
                  refine go 99 rfl ?_
                  refine Safe.idxS z2 rfl rfl rfl ?_
                  refine go 99 rfl ?_
                  refine Safe.br rfl (fun z3 => ?_) (fun z3 => ?_)
                  · have z4 : s[j] ≠ 41 := u8neR (d := 41) (by simpa using z3)
                    rw [if_neg (fun h => z4 (Option.some.inj h))] at hE
                    refine go 99 rfl ?_
                    refine Safe.buildB (k := 259) (by kernel_rfl) rfl (fun E hEl hEd => ?_)
                    refine go 99 rfl ?_
                    refine Safe.storeB sz230 hEl hAl (dryL1_leaf hEd) rfl rfl rfl rfl rfl ?_
                    refine go 99 rfl ?_
                    exact ⟨.inr rfl, trivial, .done (r := .tup [.agg E, nI i, .bool false]) (resA_c3 (ldAll ag230 sz230 hEl) rfl rfl rfl rfl) (d3d hEd) (by rw [hE]; exact AnsV.no _ ⟨hEl, hEd⟩)⟩
                  · have z4 : s[j] = 41 := u8eqR (d := 41) (by simpa using z3)
                    rw [if_pos (by rw [z4])] at hE
                    refine go 99 rfl ?_
                    refine Safe.ldO (ldAll ag230 sz230 hcsl) rfl rfl ?_
                    refine go 99 rfl ?_
                    refine Safe.storeB sz230 hcsl hAl (dryL1_leaf hcsd) rfl rfl rfl rfl rfl ?_
                    refine go 99 rfl ?_
                    exact ⟨.inr rfl, trivial, .done (r := .tup [.agg cs, nI (j + 1 : Nat), .bool true]) (resA_c3 (ldAll ag230 sz230 hcsl) rfl rfl (iw (x := (j : Int) + 1) (by omega) (by omega)) rfl) (d3d hcsd) (by rw [hE]; exact AnsV.ok ⟨hcsl, hcsd⟩)⟩
end Go.Proofs.YtmohgegpcfkooaaGreatDoor.Al
end

section
namespace Go.Proofs.YtmohgegpcfkooaaGreatDoor.Al
open Go.Fw
variable [Gl]
set_option maxRecDepth 20000
set_option maxHeartbeats 4000000
structure NdB where
  P : List V
  c : List V
  n : Nat
  G : Option Nat
def NdB.ok (x : NdB) (i : Nat) : Prop := x.P.length = 258 ∧ x.P.all dryV1 = true ∧ x.c.length = x.n * 259 ∧ x.c.all dryV1 = true ∧ (x.G = none → x.c = [] ∧ x.n = 0) ∧ x.n ≤ i
theorem ndN {P : List V} {v : V} (h1 : P.length = 258) (h2 : P.all dryV1 = true) (hv : dryV1 v = true) : ndk (P ++ [v]) := ⟨by simp [h1], by rw [List.all_append, h2]; simp [hv]⟩
theorem nd_frz {k n N : Nat} {P cs : List V} (h1 : P.length = 258) (h2 : P.all dryV1 = true) : ndk (frzX k cs (P ++ [.slice k 0 n N])) := by
  rw [frzX_app, frzX_d1 _ _ h2]
  refine ndN h1 h2 ?_
  simp only [frzW, Nat.beq_refl]; rfl
theorem el228 : ∃ by_ z, elemE Tryz.prog 155 = some (157, 259, by_, z) := elemK_ok (by kernel_rfl)
theorem NdB.ok.mono {x : NdB} {i j : Nat} (h : x.ok i) (hij : i ≤ j) : x.ok j := ⟨h.1, h.2.1, h.2.2.1, h.2.2.2.1, h.2.2.2.2.1, Nat.le_trans h.2.2.2.2.2 hij⟩
abbrev exHp (A : List V) (x y : NdB) : Hp := [(2, .cells 157 (x.P ++ [gV 4 x.n x.G]) 259), (1, .cells 157 (y.P ++ [gV 3 y.n y.G]) 259), (0, .cells 157 A 259)] ++ (gH 157 259 3 y.c y.G ++ gH 157 259 4 x.c x.G)
theorem gV_ren {sg : Sg} {k k' n : Nat} {G : Option Nat} (h : sgF sg k = some k') : renV (sgF sg) (gV k n G) = gV k' n G := by
  cases G with
  | none => rfl
  | some N => simp only [gV, renV, h, rex]
theorem subGH {sg : Sg} {e : TypeId} {kk k k' : Nat} {cs : List V} {G : Option Nat} {r h3 : Hp} (h : sgF sg k = some k') (hd : cs.all dryV1 = true) (hr : (relH sg r).Sublist h3) : (relH sg (gH e kk k cs G ++ r)).Sublist (gH e kk k' cs G ++ h3) := by
  cases G with
  | none => exact hr
  | some N => exact subK h (renO_dry (dryL1_dry hd)) hr
theorem renO_nd {sg : Sg} {k k' n : Nat} {G : Option Nat} {P : List V} (hP : P.all dryV1 = true) (h : sgF sg k = some k') : renO (sgF sg) (.cells 157 (P ++ [gV k n G]) 259) = .cells 157 (P ++ [gV k' n G]) 259 := by
  rw [renO, renL_append, dryL1_ren _ hP]
  simp only [renL, gV_ren h]
theorem sub_ex {A : List V} {x y : NdB} {i j : Nat} (hA : A.all dryV1 = true) (hx : x.ok i) (hy : y.ok j) {sg : Sg} {k0 k1 k2 k3 k4 : Nat} (h0 : sgF sg 0 = some k0) (h1 : sgF sg 1 = some k1) (h2 : sgF sg 2 = some k2) (h3 : sgF sg 3 = some k3) (h4 : sgF sg 4 = some k4) :
    (relH sg (exHp A x y)).Sublist ([(k2, .cells 157 (x.P ++ [gV k4 x.n x.G]) 259), (k1, .cells 157 (y.P ++ [gV k3 y.n y.G]) 259), (k0, .cells 157 A 259)] ++ (gH 157 259 k3 y.c y.G ++ gH 157 259 k4 x.c x.G)) := by
  refine subK h2 (renO_nd hx.2.1 h4) (subK h1 (renO_nd hy.2.1 h3) (subK h0 (renO_dry (dryL1_dry hA)) (subGH h3 hy.2.2.2.1 ?_)))
  have := subGH (G := x.G) (e := 157) (kk := 259) (r := []) (h3 := []) h4 hx.2.2.2.1 (List.Sublist.refl _)
  simpa using this
theorem sub_exN {A : List V} {B P1 c1 : List V} {n1 N1 i j k3 : Nat} (hA : A.all dryV1 = true) (hx : NdB.ok ⟨B, [], 0, none⟩ i) (hy : NdB.ok ⟨P1, c1, n1, some N1⟩ j) :
    (relH [(0, 0), (1, 1), (2, 2), (3, k3)] (exHp A ⟨B, [], 0, none⟩ ⟨P1, c1, n1, some N1⟩)).Sublist ([(2, .cells 157 (B ++ [.nilslice]) 259), (1, .cells 157 (P1 ++ [.slice k3 0 n1 N1]) 259), (0, .cells 157 A 259)] ++ [(k3, .cells 157 c1 (N1 * 259))]) :=
  subK rfl (renO_dry (dryL1_dry (ndN hx.1 hx.2.1 rfl).2)) (subK rfl (renO_nd hy.2.1 rfl) (subK rfl (renO_dry (dryL1_dry hA)) (subK rfl (renO_dry (dryL1_dry hy.2.2.2.1)) subN)))
theorem escP_le {s : By} {i j : Nat} (h : escP s i = some j) : i < j ∧ j ≤ s.length := by
  unfold escP at h
  split at h
  · cases h
  · rename_i c hc
    obtain ⟨h1, _⟩ := List.getElem?_eq_some_iff.1 hc
    split at h
    · injection h with h; omega
    · cases h
theorem posB_lt {s : By} {j : Nat} (h : posB s j = true) : j < s.length := by
  unfold posB at h
  split at h
  · rename_i c hc
    exact (List.getElem?_eq_some_iff.1 hc).1
  · cases h
mutual
theorem raA_le {s : By} : ∀ {f i j : Nat}, raA s f i = some j → i < j ∧ j ≤ s.length
  | 0, _, _, h => by simp [raA] at h
  | f + 1, i, j, h => by
    rw [raA.eq_2] at h
    split at h
    · cases h
    · rename_i c hc
      obtain ⟨h1, _⟩ := List.getElem?_eq_some_iff.1 hc
      split at h
      · injection h with h; omega
      split at h
      · injection h with h; omega
      split at h
      · have := escP_le h; omega
      split at h
      · have := brL_le h
        split at this <;> omega
      split at h
      · split at h
        · cases h
        · rename_i k hk
          have := raE_le (i := i + 1) (by omega) hk
          split at h
          · rename_i h41
            obtain ⟨h2, _⟩ := List.getElem?_eq_some_iff.1 h41
            injection h with h; omega
          · cases h
      · cases h
theorem raE_le {s : By} : ∀ {f i j : Nat}, i ≤ s.length → raE s f i = some j → i ≤ j ∧ j ≤ s.length
  | 0, _, _, _, h => by simp [raE] at h
  | f + 1, i, j, hi, h => by
    rw [raE.eq_2] at h
    split at h
    · injection h with h; omega
    · rename_i c hc
      obtain ⟨h1, _⟩ := List.getElem?_eq_some_iff.1 hc
      split at h
      · injection h with h; omega
      split at h
      · have := raE_le (i := i + 1) (by omega) h; omega
      split at h
      · cases h
      · rename_i k hk
        have h2 := raA_le hk
        split at h
        · rename_i hp
          have := posB_lt hp
          have := raE_le (i := k + 1) (by omega) h; omega
        · have := raE_le (i := k) (by omega) h; omega
end
theorem pos63 {c : UInt8} (h1 : c ≠ 42) (h2 : c ≠ 43) : ((c.toNat : Int) == 63) = (c == 42 || (c == 43 || c == 63)) := by
  rw [beq_eq_false_iff_ne.2 h1, beq_eq_false_iff_ne.2 h2, Bool.false_or, Bool.false_or]
  cases h : ((c.toNat : Int) == 63) with
  | true => rw [u8eqR (d := 63) h]; rfl
  | false => exact (beq_eq_false_iff_ne.2 (u8neR (d := 63) h)).symm
theorem perm_ex {z x : Nat × AObj} {rows g : Hp} : (z :: (rows ++ (g ++ [x]))).Perm (x :: ((z :: (rows ++ g)) ++ [])) := by
  have := List.perm_append_comm (l₁ := z :: (rows ++ g)) (l₂ := [x])
  simpa using this
theorem raE_pos {s : By} {f k : Nat} (h : posB s k = true) (hf : 1 ≤ f) : raE s f k = none := by
  match f, hf with
  | f + 1, _ =>
    rw [raE.eq_2]
    have hk := posB_lt h
    simp only [posB, List.getElem?_eq_getElem hk] at h
    rw [List.getElem?_eq_getElem hk]
    have h3 : s[k] = 42 ∨ s[k] = 43 ∨ s[k] = 63 := by simpa using h
    have e : raA s f k = none := by
      match f with
      | 0 => simp [raA]
      | f + 1 =>
        rw [raA.eq_2, List.getElem?_eq_getElem hk]
        rcases h3 with h3 | h3 | h3 <;> rw [h3] <;> rfl
    rcases h3 with h3 | h3 | h3 <;> simp [e, h3]
abbrev rwG (A P2 : List V) (n2 : Nat) (G2 : Option Nat) (P1 : List V) (n1 : Nat) (G1 : Option Nat) : Hp := [(2, .cells 157 (P2 ++ [gV 4 n2 G2]) 259), (1, .cells 157 (P1 ++ [gV 3 n1 G1]) 259), (0, .cells 157 A 259)]
abbrev rwX (A X P1 : List V) (n1 : Nat) (G1 : Option Nat) : Hp := [(2, .cells 157 X 259), (1, .cells 157 (P1 ++ [gV 3 n1 G1]) 259), (0, .cells 157 A 259)]
theorem frz_heap {A P2 c2 P1 c1 : List V} {n2 N2 n1 : Nat} {G1 : Option Nat} (hA : A.all dryV1 = true) (y2 : P1.all dryV1 = true) (y4 : c1.all dryV1 = true) :
    frzHp 4 c2 (hdel (exHp A ⟨P2, c2, n2, some N2⟩ ⟨P1, c1, n1, G1⟩) 4) = rwX A (frzX 4 c2 (P2 ++ [.slice 4 0 n2 N2])) P1 n1 G1 ++ gH 157 259 3 c1 G1 := by
  cases G1 <;> simp [exHp, gH, gV, hdel, frzHp, frzOb, frzX_app, frzX_d1, hA, y2, y4, frzX, frzW] <;> rfl
theorem frzN_C {P : Program} {ρr : Option Nat} {n nb : Nat} {Q : LPo} {κ : List Kt} {kn : Kn} {m : Fl} {h hf : Hp} {nx : Nat} {dl : List Nat} {c : Code} {A P2 c2 P1 c1 : List V} {n2 n1 : Nat} {G2 G1 : Option Nat} (x1 : P2.length = 258) (x2 : P2.all dryV1 = true) (x4 : c2.all dryV1 = true) (hA : A.all dryV1 = true) (y2 : P1.all dryV1 = true) (y4 : c1.all dryV1 = true) (hh : h = exHp A ⟨P2, c2, n2, G2⟩ ⟨P1, c1, n1, G1⟩) (hm : frzM 4 c2 m = m)
    (hs : ∀ X, ndk X → Go.Fw.Safe nb P ρr n Q (.code c κ kn m (rwX A X P1 n1 G1 ++ gH 157 259 3 c1 G1) nx hf dl)) : Go.Fw.Safe nb P ρr n Q (.code c κ kn m h nx hf dl) := by
  subst hh
  cases G2 with
  | none =>
    have := hs (P2 ++ [.nilslice]) (ndN x1 x2 rfl)
    have e : exHp A ⟨P2, c2, n2, none⟩ ⟨P1, c1, n1, G1⟩ = rwX A (P2 ++ [.nilslice]) P1 n1 G1 ++ gH 157 259 3 c1 G1 := by simp [exHp, gV, gH]
    rw [e]; exact this
  | some N2 =>
    refine Safe.frzC 4 (T := 157) (cs := c2) (nn := N2 * 259) ?_ x4 ?_
    · cases G1 <;> rfl
    · rw [hm, frz_heap hA y2 y4]
      exact hs _ (nd_frz x1 x2)
theorem rr_expr (s : By) (i0 : Nat) (hs : s.length ≤ 200) (hi0 : i0 ≤ s.length) (ih : ∀ k, i0 ≤ k → k < s.length → CA s k) : CE s i0 := by
  intro f0 hf0
  refine ETri.of_safe Tryz.func164 rfl Tryz.results164 Tryz.ntmps164 rfl ?_
  refine go 99 rfl ?_
  refine Safe.allocB tz230 rfl rfl (fun A hAl hAd => ?_)
  refine go 99 rfl ?_
  refine Safe.buildN (k := 258) (by kernel_rfl) rfl (fun B1 hB1l hB1d => ?_)
  refine go 99 rfl ?_
  refine Safe.allocB tz230 rfl rfl (fun C1 hC1l hC1d => ?_)
  refine go 99 rfl ?_
  refine Safe.storeB sz230 (ndN hB1l hB1d rfl).1 hC1l (ndN hB1l hB1d rfl).leaf rfl rfl rfl rfl rfl ?_
  refine go 99 rfl ?_
  refine Safe.buildN (k := 258) (by kernel_rfl) rfl (fun B2 hB2l hB2d => ?_)
  refine go 99 rfl ?_
  refine Safe.allocB tz230 rfl rfl (fun C2 hC2l hC2d => ?_)
  refine go 99 rfl ?_
  refine Safe.storeB sz230 (ndN hB2l hB2d rfl).1 hC2l (ndN hB2l hB2d rfl).leaf rfl rfl rfl rfl rfl ?_
  refine go 99 rfl ?_
  have hx0 : NdB.ok ⟨B2, [], 0, none⟩ i0 := ⟨hB2l, hB2d, rfl, rfl, fun _ => ⟨rfl, rfl⟩, Nat.zero_le _⟩
  have hy0 : NdB.ok ⟨B1, [], 0, none⟩ i0 := ⟨hB1l, hB1d, rfl, rfl, fun _ => ⟨rfl, rfl⟩, Nat.zero_le _⟩
  refine Safe.ccut1 (α := (Nat × NdB × NdB)) (fun a => [(0, .str s), (1, nI a.1), (4, .ptr 0 0), (7, .ptr 1 0), (8, .ptr 2 0)]) (fun a => exHp A a.2.1 a.2.2) 5 (fun a => a.1 ≤ s.length ∧ raE s f0 i0 = some a.1 ∧ a.2.1.ok a.1 ∧ a.2.2.ok a.1) ?_ ?_
  · refine Safe.loop (α := (Nat × NdB × NdB)) (fun a => [(0, .str s), (1, nI a.1), (4, .ptr 0 0), (7, .ptr 1 0), (8, .ptr 2 0)]) (fun a => exHp A a.2.1 a.2.2) 5 (fun a => s.length - a.1) (fun a => i0 ≤ a.1 ∧ a.1 ≤ s.length ∧ (∃ f, 2 * (s.length - a.1) + 2 ≤ f ∧ raE s f0 i0 = raE s f a.1) ∧ a.2.1.ok a.1 ∧ a.2.2.ok a.1) (i0, ⟨B2, [], 0, none⟩, ⟨B1, [], 0, none⟩) (sgI 5) ⟨⟨fit rfl, fit rfl, fit rfl, fit rfl, fit rfl, trivial⟩, ⟨_, .refl _, sub_ex hAd hx0 hy0 rfl rfl rfl rfl rfl⟩, rfl⟩ ⟨Nat.le_refl _, hi0, ⟨f0, hf0, rfl⟩, hx0, hy0⟩ ?_
    rintro ⟨i, x, y⟩ ⟨hi1, hi2, ⟨f, hf, hE⟩, hx, hy⟩
    dsimp only at hi1 hi2 hf hE hx hy
    refine go 99 rfl ?_
    obtain ⟨P2, c2, n2, G2⟩ := x
    obtain ⟨P1, c1, n1, G1⟩ := y
    have hx' := hx
    have hy' := hy
    obtain ⟨x1, x2, x3, x4, x5, x6⟩ := hx
    obtain ⟨y1, y2, y3, y4, y5, y6⟩ := hy
    dsimp only at x1 x2 x3 x4 x5 x6 y1 y2 y3 y4 y5 y6
    match f, hf, hE with
    | 0, hf, _ => exact absurd hf (by omega)
    | f + 1, hf, hE =>
    rw [raE.eq_2] at hE
    refine Safe.gs rfl (fun a => ?_) (fun a => ?_)
    · have h0 : i < s.length := by simpa using a
      rw [List.getElem?_eq_getElem h0] at hE
      dsimp only at hE
      refine go 99 rfl ?_
      refine Safe.idxS h0 rfl rfl rfl ?_
      refine go 99 rfl ?_
      refine Safe.br rfl (fun b => ?_) (fun b => ?_)
      · have b1 : ¬ s[i] = 41 := u8neR (d := 41) (by simpa using b)
        rw [if_neg b1] at hE
        refine go 99 rfl ?_
        refine Safe.idxS h0 rfl rfl rfl ?_
        refine go 99 rfl ?_
        refine Safe.br rfl (fun c => ?_) (fun c => ?_)
        · have c1' : s[i] = 124 := u8eqR (d := 124) c
          rw [if_pos c1'] at hE
          obtain ⟨by_, z, he⟩ := el228
          refine go 1 rfl ?_
          refine frzN_C x1 x2 x4 hAd y2 y4 rfl rfl (fun X hX => ?_)
          refine go 1 rfl ?_
          refine Safe.one rfl rfl ?_
          refine Safe.ldO (ldLast (k := 258) (by kernel_rfl) y1) rfl rfl ?_
          refine Safe.ldO (ldAll ag230 sz230 hX.1) rfl rfl ?_
          refine Safe.bsB1 tz230 sz230 ⟨by decide, by decide⟩ hX.1 hX.2 rfl rfl rfl rfl ?_
          refine Safe.appG (k := 3) (G := G1) (h1 := rwX A X P1 n1 G1) (h2 := []) he (by simp [Hp.ns]) y5 (by simp) rfl rfl rfl rfl (fun h => evSrc_f1 hX.1) (by decide) rfl y3 (dryL1_dry hX.2) hX.leaf (by omega) (fun N' hN' => ?_)
          refine Safe.one rfl rfl ?_
          refine Safe.stLast rfl rfl rfl rfl rfl rfl y1 rfl rfl ?_
          refine go 99 rfl ?_
          refine Safe.buildN (k := 258) (by kernel_rfl) rfl (fun B hBl hBd => ?_)
          refine go 99 rfl ?_
          refine Safe.storeB sz230 (ndN hBl hBd rfl).1 hX.1 (ndN hBl hBd rfl).leaf rfl rfl rfl rfl rfl ?_
          refine go 99 rfl ?_
          have hx2 : NdB.ok ⟨B, [], 0, none⟩ (i + 1) := ⟨hBl, hBd, rfl, rfl, fun _ => ⟨rfl, rfl⟩, Nat.zero_le _⟩
          have hy2 : NdB.ok ⟨P1, c1 ++ X, n1 + 1, some N'⟩ (i + 1) := ⟨y1, y2, by rw [List.length_append, hX.1, y3]; exact (Nat.succ_mul n1 259).symm, by rw [List.all_append, y4, hX.2]; rfl, fun h => (by cases h), Nat.succ_le_succ y6⟩
          exact ⟨[(0, 0), (1, 1), (2, 2), (3, 5)], (i + 1, ⟨B, [], 0, none⟩, ⟨P1, c1 ++ X, n1 + 1, some N'⟩), ⟨by dsimp only; omega, h0, ⟨f, by dsimp only; omega, hE⟩, hx2, hy2⟩, mlt h0, rfl, rfl, ⟨fit rfl, fit (isucc (by first | omega | (dsimp only; omega))), fit rfl, fit rfl, fit rfl, trivial⟩, ⟨_, List.perm_append_comm (l₂ := [(5, AObj.cells 157 (c1 ++ X) (N' * 259))]), sub_exN hAd hx2 hy2⟩, rfl⟩
        · have c1' : ¬ s[i] = 124 := u8neR (d := 124) c
          rw [if_neg c1'] at hE
          refine go 99 rfl ?_
          refine Safe.callE (ih i hi1 h0 f (by omega)) rfl rfl rfl ?_
          rintro v hv ⟨X, j, o, rfl, ⟨hXl, hXd⟩, hA1, hA2⟩
          refine go 99 rfl ?_
          refine Safe.allocB tz230 rfl rfl (fun D hDl hDd => ?_)
          refine go 99 rfl ?_
          refine Safe.storeB sz230 hXl hDl (dryL1_leaf hXd) rfl rfl rfl rfl rfl ?_
          refine go 99 rfl ?_
          have hlf : (P1 ++ [gV 3 n1 G1]).all leafV = true := by rw [List.all_append, dryL1_leaf y2]; cases G1 <;> rfl
          have hln : (P1 ++ [gV 3 n1 G1]).length = 259 := by simp [y1]
          refine Safe.br rfl (fun d => ?_) (fun d => ?_)
          · have o1 : o = false := by simpa using d
            rw [o1] at hA1
            have o2 : raA s f i = none := by revert hA1; cases raA s f i <;> simp
            rw [o2] at hE
            dsimp only at hE
            refine go 99 rfl ?_
            refine Safe.ldO (cs := P1 ++ [gV 3 n1 G1]) (ldAll ag230 sz230 hln) rfl rfl ?_
            refine go 99 rfl ?_
            refine Safe.storeB sz230 hln hAl hlf rfl rfl rfl rfl rfl ?_
            refine go 99 rfl ?_
            cases G1 with
            | none => exact ⟨.inr rfl, trivial, .done (r := .tup [.agg (P1 ++ [.nilslice]), nI i, .bool false]) (resA_c3 (ldAll ag230 sz230 (ndN y1 y2 rfl).1) rfl rfl rfl rfl) (d3d (ndN y1 y2 rfl).2) (by rw [hE]; exact AnsV.no _ (ndN y1 y2 rfl))⟩
            | some N1 => exact ⟨.inr rfl, trivial, .frz 3 rfl y4 (.done (r := .tup [.agg (frzX 3 c1 (P1 ++ [.slice 3 0 n1 N1])), nI i, .bool false]) (resA_c3 (ldAll ag230 sz230 (nd_frz y1 y2).1) rfl rfl rfl rfl) (d3d (nd_frz y1 y2).2) (by rw [hE]; exact AnsV.no _ (nd_frz y1 y2)))⟩
          · have o1 : o = true := by simpa using d
            rw [o1] at hA1
            obtain ⟨j', o2⟩ : ∃ j', raA s f i = some j' := Option.isSome_iff_exists.1 hA1.symm
            have o3 := hA2 j' o2
            subst o3
            rw [o2] at hE
            dsimp only at hE
            have hjl := raA_le o2
            refine go 99 rfl ?_
            refine Safe.cut0 (α := Unit) (fun _ => [(0, .str s), (1, nI (j : Nat)), (4, .ptr 0 0), (7, .ptr 1 0), (8, .ptr 2 0), (9, .ptr 5 0), (70, .bool (posB s (j)))]) (fun _ => (5, .cells 157 X 259) :: exHp A ⟨P2, c2, n2, G2⟩ ⟨P1, c1, n1, G1⟩) 6 (fun _ => True) ?_ ?_
            · refine Safe.gs rfl (fun p1 => ?_) (fun p1 => ?_)
              · have q1 : j < s.length := by simpa using p1
                have hpB : posB s (j) = (s[j] == 42 || (s[j] == 43 || s[j] == 63)) := by simp only [posB, List.getElem?_eq_getElem q1]
                refine go 99 rfl ?_
                refine Safe.idxS q1 rfl rfl rfl ?_
                refine go 99 rfl ?_
                refine Safe.gs rfl (fun p2 => ?_) (fun p2 => ?_)
                · have q2 : s[j] = 42 := u8eqR (d := 42) p2
                  refine go 99 rfl ?_
                  exact ⟨sgI 6, (), trivial, rfl, rfl, ⟨fit rfl, fit rfl, fit rfl, fit rfl, fit rfl, fit rfl, fit (bIeq (by rw [hpB, q2]; rfl)), trivial⟩, ⟨_, .refl _, subK rfl (renO_dry (dryL1_dry hXd)) (sub_ex hAd hx' hy' rfl rfl rfl rfl rfl)⟩, by cases G1 <;> cases G2 <;> rfl⟩
                · have q2 : s[j] ≠ 42 := u8neR (d := 42) p2
                  refine go 99 rfl ?_
                  refine Safe.idxS q1 rfl rfl rfl ?_
                  refine go 99 rfl ?_
                  refine Safe.gs rfl (fun p3 => ?_) (fun p3 => ?_)
                  · have q3 : s[j] = 43 := u8eqR (d := 43) p3
                    refine go 99 rfl ?_
                    exact ⟨sgI 6, (), trivial, rfl, rfl, ⟨fit rfl, fit rfl, fit rfl, fit rfl, fit rfl, fit rfl, fit (bIeq (by rw [hpB, q3]; rfl)), trivial⟩, ⟨_, .refl _, subK rfl (renO_dry (dryL1_dry hXd)) (sub_ex hAd hx' hy' rfl rfl rfl rfl rfl)⟩, by cases G1 <;> cases G2 <;> rfl⟩
                  · have q3 : s[j] ≠ 43 := u8neR (d := 43) p3
                    refine go 99 rfl ?_
                    refine Safe.idxS q1 rfl rfl rfl ?_
                    refine go 99 rfl ?_
                    exact ⟨sgI 6, (), trivial, rfl, rfl, ⟨fit rfl, fit rfl, fit rfl, fit rfl, fit rfl, fit rfl, fit (bIeq (by rw [hpB]; exact pos63 q2 q3)), trivial⟩, ⟨_, .refl _, subK rfl (renO_dry (dryL1_dry hXd)) (sub_ex hAd hx' hy' rfl rfl rfl rfl rfl)⟩, by cases G1 <;> cases G2 <;> rfl⟩
              · have q1 : s.length ≤ j := by simpa using p1
                have hpB : posB s (j) = false := by simp only [posB, List.getElem?_eq_none q1]
                refine go 99 rfl ?_
                exact ⟨sgI 6, (), trivial, rfl, rfl, ⟨fit rfl, fit rfl, fit rfl, fit rfl, fit rfl, fit rfl, fit (bIeq (by rw [hpB])), trivial⟩, ⟨_, .refl _, subK rfl (renO_dry (dryL1_dry hXd)) (sub_ex hAd hx' hy' rfl rfl rfl rfl rfl)⟩, by cases G1 <;> cases G2 <;> rfl⟩
            · rintro - -
              refine go 99 rfl ?_
              refine Safe.cut (α := (List V × Nat)) (fun b => [(0, .str s), (1, nI b.2), (4, .ptr 0 0), (7, .ptr 1 0), (8, .ptr 2 0), (9, .ptr 5 0)]) (fun b => (5, .cells 157 b.1 259) :: exHp A ⟨P2, c2, n2, G2⟩ ⟨P1, c1, n1, G1⟩) 6 (fun b => ndk b.1 ∧ i < b.2 ∧ b.2 ≤ s.length ∧ raE s f0 i0 = raE s f b.2) ?_ ?_
              · refine Safe.br rfl (fun r1 => ?_) (fun r1 => ?_)
                · have r1' : posB s j = true := r1
                  rw [if_pos r1'] at hE
                  have hjl2 := posB_lt r1'
                  refine go 99 rfl ?_
                  refine Safe.drawP mixed [0, 1, 2, 3, 4, 5] [(true, true), (true, true), (true, true), (true, true), (true, true), (true, true)] (by kernel_rfl) ?_
                  refine go 99 rfl ?_
                  refine Safe.ldO (ldAll ag230 sz230 hXl) rfl rfl ?_
                  refine go 99 rfl ?_
                  refine Safe.idxS hjl2 rfl rfl rfl ?_
                  refine Safe.tail (by kernel_rfl) ?_
                  refine go 99 rfl ?_
                  refine Safe.callE (rr_repeated s[j].toNat X ⟨hXl, hXd⟩) rfl rfl (by rw [show isGo Tryz.prog 193 = true from by kernel_rfl]; simp [dry, hXd]) ?_
                  rintro v hv2 ⟨Y, rfl, hYl, hYd⟩
                  refine go 99 rfl ?_
                  refine Safe.storeB sz230 hYl hXl (dryL1_leaf hYd) rfl rfl rfl rfl rfl ?_
                  refine go 99 rfl ?_
                  refine Safe.cut0 (α := Unit) (fun _ => [(0, .str s), (1, nI (j + 1 : Nat)), (4, .ptr 0 0), (7, .ptr 1 0), (8, .ptr 2 0), (9, .ptr 5 0), (99, .bool (posB s (j + 1)))]) (fun _ => (5, .cells 157 Y 259) :: exHp A ⟨P2, c2, n2, G2⟩ ⟨P1, c1, n1, G1⟩) 6 (fun _ => True) ?_ ?_
                  · refine Safe.gs rfl (fun p1 => ?_) (fun p1 => ?_)
                    · have q1 : j + 1 < s.length := by have := of_decide_eq_true p1; rw [w1 (by omega)] at this; omega
                      have hpB : posB s (j + 1) = (s[j + 1] == 42 || (s[j + 1] == 43 || s[j + 1] == 63)) := by simp only [posB, List.getElem?_eq_getElem q1]
                      refine go 99 rfl ?_
                      refine Safe.idxS q1 (w1 (by omega)) rfl rfl ?_
                      refine go 99 rfl ?_
                      refine Safe.gs rfl (fun p2 => ?_) (fun p2 => ?_)
                      · have q2 : s[j + 1] = 42 := u8eqR (d := 42) p2
                        refine go 99 rfl ?_
                        exact ⟨sgI 6, (), trivial, rfl, rfl, ⟨fit rfl, fit (isucc (by first | omega | (dsimp only; omega))), fit rfl, fit rfl, fit rfl, fit rfl, fit (bIeq (by rw [hpB, q2]; rfl)), trivial⟩, ⟨_, .refl _, subK rfl (renO_dry (dryL1_dry hYd)) (sub_ex hAd hx' hy' rfl rfl rfl rfl rfl)⟩, by cases G1 <;> cases G2 <;> rfl⟩
                      · have q2 : s[j + 1] ≠ 42 := u8neR (d := 42) p2
                        refine go 99 rfl ?_
                        refine Safe.idxS q1 (w1 (by omega)) rfl rfl ?_
                        refine go 99 rfl ?_
                        refine Safe.gs rfl (fun p3 => ?_) (fun p3 => ?_)
                        · have q3 : s[j + 1] = 43 := u8eqR (d := 43) p3
                          refine go 99 rfl ?_
                          exact ⟨sgI 6, (), trivial, rfl, rfl, ⟨fit rfl, fit (isucc (by first | omega | (dsimp only; omega))), fit rfl, fit rfl, fit rfl, fit rfl, fit (bIeq (by rw [hpB, q3]; rfl)), trivial⟩, ⟨_, .refl _, subK rfl (renO_dry (dryL1_dry hYd)) (sub_ex hAd hx' hy' rfl rfl rfl rfl rfl)⟩, by cases G1 <;> cases G2 <;> rfl⟩
                        · have q3 : s[j + 1] ≠ 43 := u8neR (d := 43) p3
                          refine go 99 rfl ?_
                          refine Safe.idxS q1 (w1 (by omega)) rfl rfl ?_
                          refine go 99 rfl ?_
                          exact ⟨sgI 6, (), trivial, rfl, rfl, ⟨fit rfl, fit (isucc (by first | omega | (dsimp only; omega))), fit rfl, fit rfl, fit rfl, fit rfl, fit (bIeq (by rw [hpB]; exact pos63 q2 q3)), trivial⟩, ⟨_, .refl _, subK rfl (renO_dry (dryL1_dry hYd)) (sub_ex hAd hx' hy' rfl rfl rfl rfl rfl)⟩, by cases G1 <;> cases G2 <;> rfl⟩
                    · have q1 : s.length ≤ j + 1 := by have := of_decide_eq_false p1; rw [w1 (by omega)] at this; omega
                      have hpB : posB s (j + 1) = false := by simp only [posB, List.getElem?_eq_none q1]
                      refine go 99 rfl ?_
                      exact ⟨sgI 6, (), trivial, rfl, rfl, ⟨fit rfl, fit (isucc (by first | omega | (dsimp only; omega))), fit rfl, fit rfl, fit rfl, fit rfl, fit (bIeq (by rw [hpB])), trivial⟩, ⟨_, .refl _, subK rfl (renO_dry (dryL1_dry hYd)) (sub_ex hAd hx' hy' rfl rfl rfl rfl rfl)⟩, by cases G1 <;> cases G2 <;> rfl⟩
                  · rintro - -
                    refine go 99 rfl ?_
                    refine Safe.br rfl (fun r2 => ?_) (fun r2 => ?_)
                    · have r2' : posB s (j + 1) = true := r2
                      have hnn := raE_pos (f := f) r2' (by omega)
                      rw [hnn] at hE
                      refine go 99 rfl ?_
                      refine Safe.ldO (cs := P1 ++ [gV 3 n1 G1]) (ldAll ag230 sz230 hln) rfl rfl ?_
                      refine go 99 rfl ?_
                      refine Safe.storeB sz230 hln hAl hlf rfl rfl rfl rfl rfl ?_
                      refine go 99 rfl ?_
                      cases G1 with
                      | none => exact ⟨.inr rfl, trivial, .done (r := .tup [.agg (P1 ++ [.nilslice]), nI (j + 1 : Nat), .bool false]) (resA_c3 (ldAll ag230 sz230 (ndN y1 y2 rfl).1) rfl rfl rfl rfl) (d3d (ndN y1 y2 rfl).2) (by rw [hE]; exact AnsV.no _ (ndN y1 y2 rfl))⟩
                      | some N1 => exact ⟨.inr rfl, trivial, .frz 3 rfl y4 (.done (r := .tup [.agg (frzX 3 c1 (P1 ++ [.slice 3 0 n1 N1])), nI (j + 1 : Nat), .bool false]) (resA_c3 (ldAll ag230 sz230 (nd_frz y1 y2).1) rfl rfl rfl rfl) (d3d (nd_frz y1 y2).2) (by rw [hE]; exact AnsV.no _ (nd_frz y1 y2)))⟩
                    · refine go 99 rfl ?_
                      exact ⟨sgI 6, (Y, j + 1), ⟨⟨hYl, hYd⟩, by dsimp only; omega, hjl2, hE⟩, rfl, rfl, ⟨fit rfl, fit rfl, fit rfl, fit rfl, fit rfl, fit rfl, trivial⟩, ⟨_, .refl _, subK rfl (renO_dry (dryL1_dry hYd)) (sub_ex hAd hx' hy' rfl rfl rfl rfl rfl)⟩, by cases G1 <;> cases G2 <;> rfl⟩
                · have r1' : ¬ posB s j = true := by simpa using r1
                  rw [if_neg r1'] at hE
                  refine go 99 rfl ?_
                  exact ⟨sgI 6, (X, j), ⟨⟨hXl, hXd⟩, hjl.1, hjl.2, hE⟩, rfl, rfl, ⟨fit rfl, fit rfl, fit rfl, fit rfl, fit rfl, fit rfl, trivial⟩, ⟨_, .refl _, subK rfl (renO_dry (dryL1_dry hXd)) (sub_ex hAd hx' hy' rfl rfl rfl rfl rfl)⟩, by cases G1 <;> cases G2 <;> rfl⟩
              · rintro ⟨Z, j'⟩ ⟨hZ, hj1, hj2, hE'⟩
                dsimp only at hZ hj1 hj2 hE'
                obtain ⟨by_, z, he⟩ := el228
                refine go 1 rfl ?_
                refine Safe.one rfl rfl ?_
                refine Safe.ldO (ldLast (k := 258) (by kernel_rfl) x1) rfl rfl ?_
                refine Safe.ldO (ldAll ag230 sz230 hZ.1) rfl rfl ?_
                refine Safe.bsB1 tz230 sz230 ⟨by decide, by decide⟩ hZ.1 hZ.2 rfl rfl rfl rfl ?_
                refine Safe.appG (k := 4) (G := G2) (h1 := (5, .cells 157 Z 259) :: (rwG A P2 n2 G2 P1 n1 G1 ++ gH 157 259 3 c1 G1)) (h2 := []) he (by cases G1 <;> simp [Hp.ns, gH]) x5 (by simp) rfl rfl rfl rfl (fun h => evSrc_f1 hZ.1) (by decide) rfl x3 (dryL1_dry hZ.2) hZ.leaf (by omega) (fun N' hN' => ?_)
                refine Safe.one rfl rfl ?_
                refine Safe.stLast rfl rfl rfl rfl rfl rfl x1 rfl rfl ?_
                refine go 99 rfl ?_
                have hx2 : NdB.ok ⟨P2, c2 ++ Z, n2 + 1, some N'⟩ j' := ⟨x1, x2, by rw [List.length_append, hZ.1, x3]; exact (Nat.succ_mul n2 259).symm, by rw [List.all_append, x4, hZ.2]; rfl, fun h => (by cases h), by dsimp only; omega⟩
                have hy2 := hy'.mono (j := j') (by omega)
                exact ⟨[(0, 0), (1, 1), (2, 2), (3, 3), (4, 6)], (j', ⟨P2, c2 ++ Z, n2 + 1, some N'⟩, ⟨P1, c1, n1, G1⟩), ⟨by dsimp only; omega, hj2, ⟨f, by dsimp only; omega, hE'⟩, hx2, hy2⟩, (by dsimp only; omega), rfl, rfl, ⟨fit rfl, fit rfl, fit rfl, fit rfl, fit rfl, trivial⟩, ⟨_, perm_ex (z := (5, .cells 157 Z 259)) (x := (6, .cells 157 (c2 ++ Z) (N' * 259))) (rows := [(2, .cells 157 (P2 ++ [.slice 6 0 (n2 + 1) N']) 259), (1, .cells 157 (P1 ++ [gV 3 n1 G1]) 259), (0, .cells 157 A 259)]) (g := gH 157 259 3 c1 G1), subD (sub_ex hAd hx2 hy2 rfl rfl rfl rfl rfl)⟩, by cases G1 <;> rfl⟩
      · have b1 : s[i] = 41 := u8eqR (d := 41) (by simpa using b)
        rw [if_pos b1] at hE
        refine go 99 rfl ?_
        exact ⟨sgI 5, (i, ⟨P2, c2, n2, G2⟩, ⟨P1, c1, n1, G1⟩), ⟨hi2, hE, hx', hy'⟩, rfl, rfl, ⟨fit rfl, fit rfl, fit rfl, fit rfl, fit rfl, trivial⟩, ⟨_, .refl _, sub_ex hAd hx' hy' rfl rfl rfl rfl rfl⟩, by cases G1 <;> cases G2 <;> rfl⟩
    · have h0 : s.length ≤ i := by simpa using a
      rw [List.getElem?_eq_none h0] at hE
      refine go 99 rfl ?_
      exact ⟨sgI 5, (i, ⟨P2, c2, n2, G2⟩, ⟨P1, c1, n1, G1⟩), ⟨hi2, hE, hx', hy'⟩, rfl, rfl, ⟨fit rfl, fit rfl, fit rfl, fit rfl, fit rfl, trivial⟩, ⟨_, .refl _, sub_ex hAd hx' hy' rfl rfl rfl rfl rfl⟩, by cases G1 <;> cases G2 <;> rfl⟩
  · rintro ⟨i, x, y⟩ ⟨hi2, hE, hx, hy⟩
    dsimp only at hi2 hE hx hy
    obtain ⟨P2, c2, n2, G2⟩ := x
    obtain ⟨P1, c1, n1, G1⟩ := y
    obtain ⟨x1, x2, x3, x4, x5, x6⟩ := hx
    obtain ⟨y1, y2, y3, y4, y5, y6⟩ := hy
    dsimp only at x1 x2 x3 x4 x5 x6 y1 y2 y3 y4 y5 y6
    obtain ⟨by_, z, he⟩ := el228
    refine frzN_C x1 x2 x4 hAd y2 y4 rfl rfl (fun X hX => ?_)
    refine go 2 rfl ?_
    refine Safe.one rfl rfl ?_
    refine Safe.ldO (ldLast (k := 258) (by kernel_rfl) y1) rfl rfl ?_
    refine Safe.ldO (ldAll ag230 sz230 hX.1) rfl rfl ?_
    refine Safe.bsB1 tz230 sz230 ⟨by decide, by decide⟩ hX.1 hX.2 rfl rfl rfl rfl ?_
    refine Safe.appG (k := 3) (G := G1) (h1 := rwX A X P1 n1 G1) (h2 := []) he (by simp [Hp.ns]) y5 (by simp) rfl rfl rfl rfl (fun h => evSrc_f1 hX.1) (by decide) rfl y3 (dryL1_dry hX.2) hX.leaf (by omega) (fun N' hN' => ?_)
    refine Safe.one rfl rfl ?_
    refine Safe.stLast rfl rfl rfl rfl rfl rfl y1 rfl rfl ?_
    refine go 99 rfl ?_
    have hlf : (P1 ++ [V.slice 5 0 (n1 + 1) N']).all leafV = true := by rw [List.all_append, dryL1_leaf y2]; rfl
    refine Safe.ldO (cs := P1 ++ [V.slice 5 0 (n1 + 1) N']) (ldAll ag230 sz230 (by simp [y1])) rfl rfl ?_
    refine go 99 rfl ?_
    refine Safe.storeB sz230 (by simp [y1]) hAl hlf rfl rfl rfl rfl rfl ?_
    refine go 99 rfl ?_
    exact ⟨.inr rfl, trivial, .frz 5 rfl (by rw [List.all_append, y4, hX.2]; rfl) (.done (r := .tup [.agg (frzX 5 (c1 ++ X) (P1 ++ [.slice 5 0 (n1 + 1) N'])), nI i, .bool true]) (resA_c3 (ldAll ag230 sz230 (nd_frz y1 y2).1) rfl rfl rfl rfl) (d3d (nd_frz y1 y2).2) (by rw [hE]; exact AnsV.ok (nd_frz y1 y2)))⟩
end Go.Proofs.YtmohgegpcfkooaaGreatDoor.Al
end

section
namespace Go.Proofs.YtmohgegpcfkooaaGreatDoor.Al
open Go.Fw
variable [Gl]
set_option maxRecDepth 20000
set_option maxHeartbeats 2000000
abbrev Lb := By × By
def lbC (p : Lb) : List V := [.str p.1, .str p.2]
def lateL (prev : Option By) (x : By) : Bool := match prev with
  | some q => Op.bytesLess x q || x == q
  | none => false
def chkG : Option By → List Lb → Int
  | _, [] => 0
  | prev, p :: r => if isNm p.1 = false then 5 else if p.2 = [] then 1 else if 200 < p.2.length then 4 else if lateL prev p.1 = true then 9 else chkG (some p.1) r
def chkL (l : List Lb) : Int := if 16 < l.length then 4 else chkG none l
def prvL (l : List Lb) (i : Nat) : Option By := if i = 0 then none else (l[i - 1]?).map (·.1)
theorem chkG_step {l : List Lb} {i : Nat} (h : i < l.length) : chkG (prvL l i) (l.drop i) = if isNm l[i].1 = false then 5 else if l[i].2 = [] then 1 else if 200 < l[i].2.length then 4 else if lateL (prvL l i) l[i].1 = true then 9 else chkG (prvL l (i + 1)) (l.drop (i + 1)) := by
  have e : prvL l (i + 1) = some l[i].1 := by simp [prvL, h]
  rw [List.drop_eq_getElem_cons h, e]
  rfl
theorem prvL_pos {l : List Lb} {i : Nat} (h0 : 0 < i) (h : i < l.length) : prvL l i = some (l[i - 1]'(by omega)).1 := by
  simp [prvL, Nat.ne_of_gt h0, show i - 1 < l.length by omega]
def okL (l : List Lb) : Prop := l.length ≤ big ∧ ∀ p ∈ l, p.1.length ≤ big ∧ p.2.length ≤ big
theorem ldLb {l : List Lb} {i : Nat} (hi : i < l.length) : ldAt Tryz.prog 64 (cat lbC l) (i * 2) = some (.agg (lbC l[i])) := ld_cat (enc := lbC) (fun _ => rfl) hi (by kernel_rfl) (by kernel_rfl)
theorem ldLb0 {l : List Lb} {i : Nat} (hi : i < l.length) : ldAt Tryz.prog 9 (cat lbC l) (i * 2 + 0) = some (.str l[i].1) := ld_cat1 (enc := lbC) 0 (fun _ => rfl) hi (by decide) (by kernel_rfl) rfl
theorem lab_check (l : List Lb) (hl : okL l) : PTri Tryz.prog 41 [slV lbC l] (nI (chkL l)) := by
  have hb := hl.1
  simp only [big] at hb
  refine PTri.of_safe Tryz.func41 rfl Tryz.results41 Tryz.ntmps41 rfl ?_
  refine go 99 rfl ?_
  refine Safe.br rfl (fun c => ?_) (fun c => ?_)
  · have hc : 16 < l.length := ltc c
    refine go 99 rfl ?_
    exact ⟨.inr rfl, trivial, .done (nIeq (by simp only [chkL]; rw [if_pos hc])) rfl⟩
  · have hc : l.length ≤ 16 := gec c
    have hE : chkL l = chkG none l := by simp only [chkL]; rw [if_neg (by omega)]
    refine go 99 rfl ?_
    refine Safe.loop (α := Nat) (fun i => [(0, slV lbC l), (8, slV lbC l), (9, nI l.length), (10, nI i)]) (fun i => []) 0 (fun i => l.length - i) (fun i => i ≤ l.length ∧ chkL l = chkG (prvL l i) (l.drop i)) 0 (sgI 0) ⟨⟨fit rfl, fit rfl, fit rfl, fit rfl, trivial⟩, ⟨_, .refl _, List.nil_sublist _⟩, rfl⟩ ⟨Nat.zero_le _, hE⟩ ?_
    rintro i ⟨hi, ha⟩
    refine go 99 rfl ?_
    refine Safe.br rfl (fun c1 => ?_) (fun c1 => ?_)
    · have hi : i < l.length := ltc c1
      rw [chkG_step hi] at ha
      refine go 99 rfl ?_
      refine Safe.idxF hi rfl rfl rfl ?_
      refine Safe.ldF (ldLb hi) rfl rfl rfl ?_
      refine go 99 rfl ?_
      refine Safe.call (lab_name l[i].1 (hl.2 _ (List.getElem_mem hi)).1) rfl rfl rfl ?_
      refine go 99 rfl ?_
      refine Safe.br rfl (fun d => ?_) (fun d => ?_)
      · rw [if_pos (by simpa using d)] at ha
        refine go 99 rfl ?_
        exact ⟨.inr rfl, trivial, .done (nIeq ha.symm) rfl⟩
      · rw [if_neg (by simp at d; simp [d])] at ha
        refine go 99 rfl ?_
        refine Safe.br rfl (fun d2 => ?_) (fun d2 => ?_)
        · rw [if_pos (by simpa using d2)] at ha
          refine go 99 rfl ?_
          exact ⟨.inr rfl, trivial, .done (nIeq ha.symm) rfl⟩
        · rw [if_neg (by simpa using d2)] at ha
          refine go 99 rfl ?_
          refine Safe.br rfl (fun d3 => ?_) (fun d3 => ?_)
          · have h3 : 200 < l[i].2.length := ltc d3
            rw [if_pos h3] at ha
            refine go 99 rfl ?_
            exact ⟨.inr rfl, trivial, .done (nIeq ha.symm) rfl⟩
          · have h3 : l[i].2.length ≤ 200 := gec d3
            rw [if_neg (by omega)] at ha
            refine go 99 rfl ?_
            refine Safe.draw mixed ?_
            refine DS.go [0,1,2] rfl rfl (by kernel_rfl) ?_
            refine DS.gs 3 rfl rfl (fun c => ?_) (fun c => ?_)
            · have h0 : 0 < i := by have := of_decide_eq_true c; omega
              rw [prvL_pos h0 hi] at ha
              refine DS.go [3,4,5,6,7] rfl rfl (by kernel_rfl) ?_
              refine DS.val (i := 8) (ev_idxF (i := i - 1) (by omega) (isub h0 (by omega)) rfl).ev rfl rfl rfl rfl (by kernel_rfl) ?_
              refine DS.go [9] rfl rfl (by kernel_rfl) ?_
              refine DS.val (i := 10) (ev_ldF (ldLb0 (by omega)) rfl rfl).ev rfl rfl rfl rfl (by kernel_rfl) ?_
              refine DS.go [11,12,13] rfl rfl (by kernel_rfl) ?_
              refine DS.fin (by kernel_rfl) rfl ?_
              refine go 99 rfl ?_
              refine Safe.br rfl (fun e => ?_) (fun e => ?_)
              · rw [if_pos (show lateL (some _) _ = true from e)] at ha
                refine go 99 rfl ?_
                exact ⟨.inr rfl, trivial, .done (nIeq ha.symm) rfl⟩
              · rw [if_neg (fun h => by rw [show lateL (some _) _ = false from e] at h; cases h)] at ha
                refine go 99 rfl ?_
                exact ⟨sgI 0, i + 1, ⟨hi, ha⟩, mlt hi, rfl, rfl, ⟨fit rfl, fit rfl, fit rfl, fit (isucc (by omega)), trivial⟩, ⟨_, .refl _, List.nil_sublist _⟩, rfl⟩
            · have h0 : i = 0 := by have := of_decide_eq_false c; omega
              rw [if_neg (by simp [prvL, h0, lateL])] at ha
              refine DS.go [3,4,5,6,7,8,9,10,11,12,13] rfl rfl (by kernel_rfl) ?_
              refine DS.fin (by kernel_rfl) rfl ?_
              refine go 99 rfl ?_
              exact ⟨sgI 0, i + 1, ⟨hi, ha⟩, mlt hi, rfl, rfl, ⟨fit rfl, fit rfl, fit rfl, fit (isucc (by omega)), trivial⟩, ⟨_, .refl _, List.nil_sublist _⟩, rfl⟩
    · have hi2 : i = l.length := Nat.le_antisymm hi (gec c1)
      subst hi2
      rw [List.drop_length] at ha
      refine go 99 rfl ?_
      exact ⟨.inr rfl, trivial, .done (nIeq ha.symm) rfl⟩
theorem chkL_one (s : By) : (chkL [(s, [120])] == 0) = isNm s := by
  simp only [chkL, chkG, List.length_singleton]
  cases h : isNm s <;> simp [lateL]
theorem alg_name (s : By) (hl : s.length ≤ big) : PTri Tryz.prog 133 [.str s] (.bool (isNm s)) := by
  refine PTri.of_safe Tryz.func133 rfl Tryz.results133 Tryz.ntmps133 rfl ?_
  refine go 99 rfl ?_
  refine Safe.frzO 0 rfl rfl ?_
  refine Safe.call (lab_check [(s, [120])] ⟨by simp [big], by simp; exact ⟨hl, by simp [big]⟩⟩) rfl rfl rfl ?_
  refine go 99 rfl ?_
  exact ⟨.inr rfl, trivial, .done (bIeq (chkL_one s)) rfl⟩
def nmS (sp : Bool) (s : By) : Bool := isNm s && (!sp || s == [110, 97, 109, 101] || s == [115, 101, 114, 118, 105, 99, 101])
theorem alg_names (l : List By) (sp : Bool) (hl : okN l) : PTri Tryz.prog 84 [slV strC l, .bool sp] (nI (namesE (nmS sp) l)) := by
  have hb := hl.1
  simp only [big] at hb
  refine PTri.of_safe Tryz.func84 rfl Tryz.results84 Tryz.ntmps84 rfl ?_
  refine go 99 rfl ?_
  refine Safe.br rfl (fun c => ?_) (fun c => ?_)
  · have hc : 16 < l.length := ltc c
    refine go 99 rfl ?_
    exact ⟨.inr rfl, trivial, .done (nIeq (by simp only [namesE]; rw [if_pos hc])) rfl⟩
  · have hc : l.length ≤ 16 := gec c
    have hE : namesE (nmS sp) l = chkN (nmS sp) none l := by simp only [namesE]; rw [if_neg (by omega)]
    refine go 99 rfl ?_
    refine Safe.loop (α := Nat) (fun i => [(0, slV strC l), (1, .bool sp), (10, slV strC l), (11, nI l.length), (12, nI i)]) (fun i => []) 0 (fun i => l.length - i) (fun i => i ≤ l.length ∧ namesE (nmS sp) l = chkN (nmS sp) (prvN l i) (l.drop i)) 0 (sgI 0) ⟨⟨fit rfl, fit rfl, fit rfl, fit rfl, fit rfl, trivial⟩, ⟨_, .refl _, List.nil_sublist _⟩, rfl⟩ ⟨Nat.zero_le _, hE⟩ ?_
    rintro i ⟨hi, ha⟩
    refine go 99 rfl ?_
    refine Safe.br rfl (fun c1 => ?_) (fun c1 => ?_)
    · have hi : i < l.length := ltc c1
      rw [chkN_step hi] at ha
      refine go 99 rfl ?_
      refine Safe.idxF hi rfl rfl rfl ?_
      refine Safe.ldF (ldStr hi) rfl rfl rfl ?_
      refine go 99 rfl ?_
      refine Safe.call (alg_name l[i] (okN_get hl hi)) rfl rfl rfl ?_
      refine go 99 rfl ?_
      refine Safe.cut1 (α := Unit) (fun _ => [(0, slV strC l), (1, .bool sp), (5, nI i), (6, .str l[i]), (10, slV strC l), (11, nI l.length), (12, nI i)]) (fun _ => []) 0 (fun _ => nmS sp l[i] = true) ?_ ?_
      · repeat' (first | (refine Safe.gs rfl (fun a => ?_) (fun a => ?_) <;> refine go 99 rfl ?_) | (refine Safe.br rfl (fun a => ?_) (fun a => ?_) <;> refine go 99 rfl ?_))
        all_goals first
          | (rw [if_pos (by first | (simp_all [nmS]; done) | (simp_all [nmS]; omega) | (simp_all [nmS]; intros; omega) | (rw [Bool.eq_iff_iff]; simp_all [nmS]; omega))] at ha; exact ⟨.inr rfl, trivial, .done (nIeq ha.symm) rfl⟩)
          | exact ⟨sgI 0, (), (by first | (simp_all [nmS]; done) | (simp_all [nmS]; omega) | (simp_all [nmS]; intros; omega) | (rw [Bool.eq_iff_iff]; simp_all [nmS]; omega)), rfl, rfl, ⟨fit rfl, fit rfl, fit rfl, fit rfl, fit rfl, fit rfl, fit rfl, trivial⟩, ⟨_, .refl _, List.nil_sublist _⟩, rfl⟩
      · rintro ⟨⟩ hn
        rw [if_neg (by simp [hn])] at ha
        refine go 99 rfl ?_
        refine Safe.gs rfl (fun a => ?_) (fun a => ?_)
        · have h0 : 0 < i := by have := of_decide_eq_true a; omega
          rw [prvN_pos h0 hi] at ha
          refine go 99 rfl ?_
          refine Safe.idxF (i := i - 1) (by omega) (isub h0 (by omega)) rfl rfl ?_
          refine Safe.ldF (ldStr (by omega)) rfl rfl rfl ?_
          refine go 99 rfl ?_
          refine Safe.br rfl (fun e => ?_) (fun e => ?_)
          · rw [if_pos (by rw [lateN, ← le_nl]; exact e)] at ha
            refine go 99 rfl ?_
            exact ⟨.inr rfl, trivial, .done (nIeq ha.symm) rfl⟩
          · rw [if_neg (fun h => by rw [lateN, ← le_nl] at h; have e2 := e.symm.trans h; cases e2)] at ha
            refine go 99 rfl ?_
            exact ⟨sgI 0, i + 1, ⟨hi, ha⟩, mlt hi, rfl, rfl, ⟨fit rfl, fit rfl, fit rfl, fit rfl, fit (isucc (by omega)), trivial⟩, ⟨_, .refl _, List.nil_sublist _⟩, rfl⟩
        · have h0 : i = 0 := by have := of_decide_eq_false a; omega
          rw [if_neg (by simp [prvN, h0, lateN])] at ha
          refine go 99 rfl ?_
          exact ⟨sgI 0, i + 1, ⟨hi, ha⟩, mlt hi, rfl, rfl, ⟨fit rfl, fit rfl, fit rfl, fit rfl, fit (isucc (by omega)), trivial⟩, ⟨_, .refl _, List.nil_sublist _⟩, rfl⟩
    · have hi2 : i = l.length := Nat.le_antisymm hi (gec c1)
      subst hi2
      rw [List.drop_length] at ha
      refine go 99 rfl ?_
      exact ⟨.inr rfl, trivial, .done (nIeq ha.symm) rfl⟩
end Go.Proofs.YtmohgegpcfkooaaGreatDoor.Al
end

section
namespace Go.Proofs.YtmohgegpcfkooaaGreatDoor.Al
open Go.Fw
variable [Gl]
set_option maxRecDepth 20000
set_option maxHeartbeats 2000000
theorem ldM0 {l : List Mat} {i : Nat} (hi : i < l.length) : ldAt Tryz.prog 3 (cat matC l) (i * 3 + 0) = some (nI l[i].kind) := ld_cat1 (enc := matC) 0 (fun _ => rfl) hi (by decide) (by kernel_rfl) rfl
theorem ldM1 {l : List Mat} {i : Nat} (hi : i < l.length) : ldAt Tryz.prog 9 (cat matC l) (i * 3 + 1) = some (.str l[i].name) := ld_cat1 (enc := matC) 1 (fun _ => rfl) hi (by decide) (by kernel_rfl) rfl
theorem ldM2 {l : List Mat} {i : Nat} (hi : i < l.length) : ldAt Tryz.prog 9 (cat matC l) (i * 3 + 2) = some (.str l[i].value) := ld_cat1 (enc := matC) 2 (fun _ => rfl) hi (by decide) (by kernel_rfl) rfl
theorem ldM {l : List Mat} {i : Nat} (hi : i < l.length) : ldAt Tryz.prog 88 (cat matC l) (i * 3) = some (.agg (matC l[i])) := ld_cat (enc := matC) (fun _ => rfl) hi (by kernel_rfl) (by kernel_rfl)
theorem ldS1 {l : List Stg} {i : Nat} (hi : i < l.length) : ldAt Tryz.prog 9 (cat stgC l) (i * 4 + 1) = some (.str l[i].text) := ld_cat1 (enc := stgC) 1 (fun _ => rfl) hi (by decide) (by kernel_rfl) rfl
theorem ldS2 {l : List Stg} {i : Nat} (hi : i < l.length) : ldAt Tryz.prog 45 (cat stgC l) (i * 4 + 2) = some (slV matC l[i].ms) := ld_cat1 (enc := stgC) 2 (fun _ => rfl) hi (by decide) (by kernel_rfl) rfl
theorem ldS3 {l : List Stg} {i : Nat} (hi : i < l.length) : ldAt Tryz.prog 25 (cat stgC l) (i * 4 + 3) = some (slV strC l[i].names) := ld_cat1 (enc := stgC) 3 (fun _ => rfl) hi (by decide) (by kernel_rfl) rfl
theorem ldS {l : List Stg} {i : Nat} (hi : i < l.length) : ldAt Tryz.prog 47 (cat stgC l) (i * 4) = some (.agg (stgC l[i])) := ld_cat (enc := stgC) (fun _ => rfl) hi (by kernel_rfl) (by kernel_rfl)
theorem any_drop {α : Type} {f : α → Bool} {l : List α} {i : Nat} (hi : i < l.length) : (l.drop i).any f = (f l[i] || (l.drop (i + 1)).any f) := by rw [List.drop_eq_getElem_cons hi, List.any_cons]
def grM (x : Mat) : Bool := decide (61 < x.name.length) || (decide (40 < x.value.length) && decide (2 < x.kind)) || decide (201 < x.value.length)
def grMs (l : List Mat) : Bool := l.any grM || decide (17 < l.length)
theorem g07_great (l : List Mat) (hl : okMs l) : PTri Tryz.prog 29 [slV matC l] (.bool (grMs l)) := by
  have hb := hl.1
  simp only [big] at hb
  refine PTri.of_safe Tryz.func29 rfl Tryz.results29 Tryz.ntmps29 rfl ?_
  refine go 99 rfl ?_
  refine Safe.loop (α := Nat) (fun i => [(0, slV matC l), (3, nI i)]) (fun i => []) 0 (fun i => l.length - i) (fun i => i ≤ l.length ∧ grMs l = ((l.drop i).any grM || decide (17 < l.length))) 0 (sgI 0) ⟨⟨fit rfl, fit rfl, trivial⟩, ⟨_, .refl _, List.nil_sublist _⟩, rfl⟩ ⟨Nat.zero_le _, rfl⟩ ?_
  rintro i ⟨hi, ha⟩
  refine go 99 rfl ?_
  refine Safe.br rfl (fun c => ?_) (fun c => ?_)
  · have hi : i < l.length := ltc c
    rw [any_drop hi] at ha
    refine go 99 rfl ?_
    refine Safe.idxF hi rfl rfl rfl ?_
    refine go 99 rfl ?_
    refine Safe.ldF (ldM1 hi) rfl rfl rfl ?_
    refine go 99 rfl ?_
    refine Safe.cut2 (α := Unit) (fun _ => [(0, slV matC l), (3, nI i)]) (fun _ => []) 0 (fun _ => grM l[i] = false) ?_ ?_
    · refine Safe.gs rfl (fun a => ?_) (fun a => ?_)
      · refine go 99 rfl ?_
        exact ⟨.inr rfl, trivial, .done (bIeq (by rw [ha]; simp [grM, ltc a])) rfl⟩
      · have a1 := gec a
        refine go 99 rfl ?_
        refine Safe.idxF hi rfl rfl rfl ?_
        refine go 99 rfl ?_
        refine Safe.ldF (ldM2 hi) rfl rfl rfl ?_
        refine go 99 rfl ?_
        refine Safe.gs rfl (fun b => ?_) (fun b => ?_)
        · have b1 := ltc b
          refine go 99 rfl ?_
          refine Safe.idxF hi rfl rfl rfl ?_
          refine go 99 rfl ?_
          refine Safe.ldF (ldM0 hi) rfl rfl rfl ?_
          refine go 99 rfl ?_
          refine Safe.gs rfl (fun d => ?_) (fun d => ?_)
          · have d1 : 2 < l[i].kind := of_decide_eq_true d
            refine go 99 rfl ?_
            exact ⟨.inr rfl, trivial, .done (bIeq (by rw [ha]; simp [grM, b1, d1])) rfl⟩
          · have d1 : ¬ 2 < l[i].kind := of_decide_eq_false d
            refine go 99 rfl ?_
            refine Safe.idxF hi rfl rfl rfl ?_
            refine go 99 rfl ?_
            refine Safe.ldF (ldM2 hi) rfl rfl rfl ?_
            refine go 99 rfl ?_
            refine Safe.br rfl (fun e => ?_) (fun e => ?_)
            · refine go 99 rfl ?_
              exact ⟨.inr rfl, trivial, .done (bIeq (by rw [ha]; simp [grM, ltc e])) rfl⟩
            · have e1 := gec e
              refine go 99 rfl ?_
              exact ⟨sgI 0, (), by simp [grM] at *; omega, rfl, rfl, ⟨fit rfl, fit rfl, trivial⟩, ⟨_, .refl _, List.nil_sublist _⟩, rfl⟩
        · have b1 := gec b
          refine go 99 rfl ?_
          refine Safe.idxF hi rfl rfl rfl ?_
          refine go 99 rfl ?_
          refine Safe.ldF (ldM2 hi) rfl rfl rfl ?_
          refine go 99 rfl ?_
          refine Safe.br rfl (fun e => ?_) (fun e => ?_)
          · refine go 99 rfl ?_
            exact ⟨.inr rfl, trivial, .done (bIeq (by rw [ha]; simp [grM, ltc e])) rfl⟩
          · have e1 := gec e
            refine go 99 rfl ?_
            exact ⟨sgI 0, (), by simp [grM] at *; omega, rfl, rfl, ⟨fit rfl, fit rfl, trivial⟩, ⟨_, .refl _, List.nil_sublist _⟩, rfl⟩
    · rintro ⟨⟩ hn
      rw [hn, Bool.false_or] at ha
      refine go 99 rfl ?_
      exact ⟨sgI 0, i + 1, ⟨hi, ha⟩, mlt hi, rfl, rfl, ⟨fit rfl, fit (isucc (by omega)), trivial⟩, ⟨_, .refl _, List.nil_sublist _⟩, rfl⟩
  · have hi2 : i = l.length := Nat.le_antisymm hi (gec c)
    subst hi2
    rw [List.drop_length] at ha
    refine go 99 rfl ?_
    exact ⟨.inr rfl, trivial, .done (bIeq (by rw [ha]; simp; omega)) rfl⟩
def grN (s : By) : Bool := decide (70 < s.length)
def grNs (l : List By) : Bool := l.any grN || decide (17 < l.length)
theorem g_names (l : List By) (hl : okN l) : PTri Tryz.prog 30 [slV strC l] (.bool (grNs l)) := by
  have hb := hl.1
  simp only [big] at hb
  refine PTri.of_safe Tryz.func30 rfl Tryz.results30 Tryz.ntmps30 rfl ?_
  refine go 99 rfl ?_
  refine Safe.loop (α := Nat) (fun i => [(0, slV strC l), (3, nI i)]) (fun i => []) 0 (fun i => l.length - i) (fun i => i ≤ l.length ∧ grNs l = ((l.drop i).any grN || decide (17 < l.length))) 0 (sgI 0) ⟨⟨fit rfl, fit rfl, trivial⟩, ⟨_, .refl _, List.nil_sublist _⟩, rfl⟩ ⟨Nat.zero_le _, rfl⟩ ?_
  rintro i ⟨hi, ha⟩
  refine go 99 rfl ?_
  refine Safe.br rfl (fun c => ?_) (fun c => ?_)
  · have hi : i < l.length := ltc c
    rw [any_drop hi] at ha
    refine go 99 rfl ?_
    refine Safe.idxF hi rfl rfl rfl ?_
    refine Safe.ldF (ldStr hi) rfl rfl rfl ?_
    refine go 99 rfl ?_
    refine Safe.br rfl (fun a => ?_) (fun a => ?_)
    · refine go 99 rfl ?_
      exact ⟨.inr rfl, trivial, .done (bIeq (by rw [ha]; simp [grN, ltc a])) rfl⟩
    · have hn : grN l[i] = false := by have := gec a; simp [grN]; omega
      rw [hn, Bool.false_or] at ha
      refine go 99 rfl ?_
      exact ⟨sgI 0, i + 1, ⟨hi, ha⟩, mlt hi, rfl, rfl, ⟨fit rfl, fit (isucc (by omega)), trivial⟩, ⟨_, .refl _, List.nil_sublist _⟩, rfl⟩
  · have hi2 : i = l.length := Nat.le_antisymm hi (gec c)
    subst hi2
    rw [List.drop_length] at ha
    refine go 99 rfl ?_
    exact ⟨.inr rfl, trivial, .done (bIeq (by rw [ha]; simp; omega)) rfl⟩
def grS (x : Stg) : Bool := decide (210 < x.text.length) || grMs x.ms || grNs x.names
def grSs (l : List Stg) : Bool := if 12 < l.length ∧ l.length ≤ 100 then true else (l.take 12).any grS
theorem okS_get {l : List Stg} (h : okSs l) {i : Nat} (hi : i < l.length) : okS l[i] := h.2 _ (List.getElem_mem hi)
theorem any_tdrop {α : Type} {f : α → Bool} {l : List α} {i k : Nat} (hi : i < l.length) (hk : i < k) : ((l.take k).drop i).any f = (f l[i] || ((l.take k).drop (i + 1)).any f) := by
  have h2 : i < (l.take k).length := by simp; omega
  rw [any_drop h2, List.getElem_take]
theorem g_stages (l : List Stg) (hl : okSs l) : PTri Tryz.prog 9 [slV stgC l] (.bool (grSs l)) := by
  have hb := hl.1
  simp only [big] at hb
  refine PTri.of_safe Tryz.func9 rfl Tryz.results9 Tryz.ntmps9 rfl ?_
  refine go 99 rfl ?_
  refine Safe.cut1 (α := Unit) (fun _ => [(0, slV stgC l)]) (fun _ => []) 0 (fun _ => grSs l = (l.take 12).any grS) ?_ ?_
  · refine Safe.gs rfl (fun a => ?_) (fun a => ?_)
    · have a1 : 12 < l.length := ltc a
      refine go 99 rfl ?_
      refine Safe.br rfl (fun b => ?_) (fun b => ?_)
      · have b1 : l.length ≤ 100 := lec b
        refine go 99 rfl ?_
        exact ⟨.inr rfl, trivial, .done (bIeq (by simp [grSs, a1, b1])) rfl⟩
      · have b1 : 100 < l.length := gtc b
        refine go 99 rfl ?_
        exact ⟨sgI 0, (), by simp only [grSs]; rw [if_neg (by omega)], rfl, rfl, ⟨fit rfl, trivial⟩, ⟨_, .refl _, List.nil_sublist _⟩, rfl⟩
    · have a1 : l.length ≤ 12 := gec a
      refine go 99 rfl ?_
      exact ⟨sgI 0, (), by simp only [grSs]; rw [if_neg (by omega)], rfl, rfl, ⟨fit rfl, trivial⟩, ⟨_, .refl _, List.nil_sublist _⟩, rfl⟩
  · rintro ⟨⟩ h0
    refine go 99 rfl ?_
    refine Safe.loop (α := Nat) (fun i => [(0, slV stgC l), (3, nI i)]) (fun i => []) 0 (fun i => l.length - i) (fun i => i ≤ l.length ∧ grSs l = ((l.take 12).drop i).any grS) 0 (sgI 0) ⟨⟨fit rfl, fit rfl, trivial⟩, ⟨_, .refl _, List.nil_sublist _⟩, rfl⟩ ⟨Nat.zero_le _, h0⟩ ?_
    rintro i ⟨hi, ha⟩
    refine go 99 rfl ?_
    refine Safe.gs rfl (fun c => ?_) (fun c => ?_)
    · have hi : i < l.length := ltc c
      refine go 99 rfl ?_
      refine Safe.br rfl (fun c2 => ?_) (fun c2 => ?_)
      · have h12 : i < 12 := ltc c2
        rw [any_tdrop hi h12] at ha
        refine go 99 rfl ?_
        refine Safe.idxF hi rfl rfl rfl ?_
        refine go 99 rfl ?_
        refine Safe.ldF (ldS1 hi) rfl rfl rfl ?_
        refine go 99 rfl ?_
        refine Safe.cut2 (α := Unit) (fun _ => [(0, slV stgC l), (3, nI i)]) (fun _ => []) 0 (fun _ => grS l[i] = false) ?_ ?_
        · refine Safe.gs rfl (fun a => ?_) (fun a => ?_)
          · refine go 99 rfl ?_
            exact ⟨.inr rfl, trivial, .done (bIeq (by rw [ha]; simp [grS, ltc a])) rfl⟩
          · have a1 := gec a
            refine go 99 rfl ?_
            refine Safe.idxF hi rfl rfl rfl ?_
            refine go 99 rfl ?_
            refine Safe.ldF (ldS2 hi) rfl rfl rfl ?_
            refine Safe.call (g07_great l[i].ms (okS_get hl hi).2.1) rfl rfl rfl ?_
            refine go 99 rfl ?_
            refine Safe.gs rfl (fun b => ?_) (fun b => ?_)
            · refine go 99 rfl ?_
              exact ⟨.inr rfl, trivial, .done (bIeq (by rw [ha]; simp [grS, b])) rfl⟩
            · refine go 99 rfl ?_
              refine Safe.idxF hi rfl rfl rfl ?_
              refine go 99 rfl ?_
              refine Safe.ldF (ldS3 hi) rfl rfl rfl ?_
              refine Safe.call (g_names l[i].names (okS_get hl hi).2.2) rfl rfl rfl ?_
              refine go 99 rfl ?_
              refine Safe.br rfl (fun d => ?_) (fun d => ?_)
              · refine go 99 rfl ?_
                exact ⟨.inr rfl, trivial, .done (bIeq (by rw [ha]; simp [grS, d])) rfl⟩
              · refine go 99 rfl ?_
                exact ⟨sgI 0, (), by simp [grS, b, d]; omega, rfl, rfl, ⟨fit rfl, fit rfl, trivial⟩, ⟨_, .refl _, List.nil_sublist _⟩, rfl⟩
        · rintro ⟨⟩ hn
          rw [hn, Bool.false_or] at ha
          refine go 99 rfl ?_
          exact ⟨sgI 0, i + 1, ⟨hi, ha⟩, mlt hi, rfl, rfl, ⟨fit rfl, fit (isucc (by omega)), trivial⟩, ⟨_, .refl _, List.nil_sublist _⟩, rfl⟩
      · have h12 : 12 ≤ i := gec c2
        rw [List.drop_of_length_le (by simp; omega)] at ha
        refine go 99 rfl ?_
        exact ⟨.inr rfl, trivial, .done (bIeq (by rw [ha]; rfl)) rfl⟩
    · have hi2 : i = l.length := Nat.le_antisymm hi (gec c)
      subst hi2
      rw [List.drop_of_length_le (by simp; omega)] at ha
      refine go 99 rfl ?_
      exact ⟨.inr rfl, trivial, .done (bIeq (by rw [ha]; rfl)) rfl⟩
end Go.Proofs.YtmohgegpcfkooaaGreatDoor.Al
end

section
namespace Go.Proofs.YtmohgegpcfkooaaGreatDoor.Al
open Go.Fw
variable [Gl]
set_option maxRecDepth 20000
set_option maxHeartbeats 2000000
def errG {α : Type} (f : α → Int) : List α → Int
  | [] => 0
  | x :: r => if f x ≠ 0 then f x else errG f r
theorem errG_step {α : Type} {f : α → Int} {l : List α} {i : Nat} (hi : i < l.length) : errG f (l.drop i) = if f l[i] ≠ 0 then f l[i] else errG f (l.drop (i + 1)) := by rw [List.drop_eq_getElem_cons hi]; rfl
def matE (rx : By → Int) (x : Mat) : Int := if x.kind < 1 ∨ 4 < x.kind then 8 else if isNm x.name = false then 5 else if 2 < x.kind then rx x.value else if 200 < x.value.length then 4 else 0
def matsE (rx : By → Int) (l : List Mat) : Int := if 16 < l.length then 4 else errG (matE rx) l
abbrev RefRx (rx : By → Int) : Prop := ∀ s : By, s.length ≤ big → PTri Tryz.prog 96 [.str s] (nI (rx s))
abbrev AlgRx (rx : By → Int) : Prop := ∀ s : By, s.length ≤ big → PTri Tryz.prog 82 [.str s] (nI (rx s))
variable {rx : By → Int}
abbrev matV (x : Mat) : V := .agg (matC x)
theorem ref_mat (H : RefRx rx) (x : Mat) (ho : okM x) : PTri Tryz.prog 141 [matV x] (nI (matE rx x)) := by
  refine PTri.of_safe Tryz.func141 rfl Tryz.results141 Tryz.ntmps141 rfl ?_
  refine go 99 rfl ?_
  refine Safe.cut1 (α := Unit) (fun _ => [(1, .ptr 0 0)]) (fun _ => [(0, .cells 88 (matC x) 3)]) 1 (fun _ => ¬ (x.kind < 1 ∨ 4 < x.kind)) ?_ ?_
  · refine Safe.gs rfl (fun a => ?_) (fun a => ?_)
    · have a1 : x.kind < 1 := of_decide_eq_true a
      refine go 99 rfl ?_
      exact ⟨.inr rfl, trivial, .done (nIeq (by simp only [matE]; rw [if_pos (.inl a1)])) rfl⟩
    · have a1 : ¬ x.kind < 1 := of_decide_eq_false a
      refine go 99 rfl ?_
      refine Safe.br rfl (fun b => ?_) (fun b => ?_)
      · have b1 : 4 < x.kind := of_decide_eq_true b
        refine go 99 rfl ?_
        exact ⟨.inr rfl, trivial, .done (nIeq (by simp only [matE]; rw [if_pos (.inr b1)])) rfl⟩
      · have b1 : ¬ 4 < x.kind := of_decide_eq_false b
        refine go 99 rfl ?_
        exact ⟨sgI 1, (), by omega, rfl, rfl, ⟨fit rfl, trivial⟩, ⟨_, .refl _, .refl _⟩, rfl⟩
  · rintro ⟨⟩ h1
    refine go 99 rfl ?_
    refine Safe.call (ref_name x.name ho.1) rfl rfl rfl ?_
    refine go 99 rfl ?_
    refine Safe.br rfl (fun a => ?_) (fun a => ?_)
    · refine go 99 rfl ?_
      exact ⟨.inr rfl, trivial, .done (nIeq (by simp only [matE]; rw [if_neg h1, if_pos (by simpa using a)])) rfl⟩
    · have a1 : ¬ isNm x.name = false := by simp at a; simp [a]
      refine go 99 rfl ?_
      refine Safe.br rfl (fun b => ?_) (fun b => ?_)
      · have b1 : 2 < x.kind := of_decide_eq_true b
        refine go 99 rfl ?_
        refine Safe.call (H x.value ho.2) rfl rfl rfl ?_
        refine go 99 rfl ?_
        exact ⟨.inr rfl, trivial, .done (nIeq (by simp only [matE]; rw [if_neg h1, if_neg a1, if_pos b1])) rfl⟩
      · have b1 : ¬ 2 < x.kind := of_decide_eq_false b
        refine go 99 rfl ?_
        refine Safe.br rfl (fun d => ?_) (fun d => ?_)
        · have d1 : 200 < x.value.length := ltc d
          refine go 99 rfl ?_
          exact ⟨.inr rfl, trivial, .done (nIeq (by simp only [matE]; rw [if_neg h1, if_neg a1, if_neg b1, if_pos d1])) rfl⟩
        · have d1 : x.value.length ≤ 200 := gec d
          refine go 99 rfl ?_
          exact ⟨.inr rfl, trivial, .done (nIeq (by simp only [matE]; rw [if_neg h1, if_neg a1, if_neg b1, if_neg (by omega)])) rfl⟩
theorem alg_mat (H : AlgRx rx) (x : Mat) (ho : okM x) : PTri Tryz.prog 132 [matV x] (nI (matE rx x)) := by
  refine PTri.of_safe Tryz.func132 rfl Tryz.results132 Tryz.ntmps132 rfl ?_
  refine go 99 rfl ?_
  refine Safe.cut1 (α := Unit) (fun _ => [(1, .ptr 0 0)]) (fun _ => [(0, .cells 88 (matC x) 3)]) 1 (fun _ => ¬ (x.kind < 1 ∨ 4 < x.kind)) ?_ ?_
  · refine Safe.gs rfl (fun a => ?_) (fun a => ?_)
    · have a1 : x.kind < 1 := of_decide_eq_true a
      refine go 99 rfl ?_
      exact ⟨.inr rfl, trivial, .done (nIeq (by simp only [matE]; rw [if_pos (.inl a1)])) rfl⟩
    · have a1 : ¬ x.kind < 1 := of_decide_eq_false a
      refine go 99 rfl ?_
      refine Safe.br rfl (fun b => ?_) (fun b => ?_)
      · have b1 : 4 < x.kind := of_decide_eq_true b
        refine go 99 rfl ?_
        exact ⟨.inr rfl, trivial, .done (nIeq (by simp only [matE]; rw [if_pos (.inr b1)])) rfl⟩
      · have b1 : ¬ 4 < x.kind := of_decide_eq_false b
        refine go 99 rfl ?_
        exact ⟨sgI 1, (), by omega, rfl, rfl, ⟨fit rfl, trivial⟩, ⟨_, .refl _, .refl _⟩, rfl⟩
  · rintro ⟨⟩ h1
    refine go 99 rfl ?_
    refine Safe.frzO 1 rfl rfl ?_
    refine Safe.call (lab_check [(x.name, [120])] ⟨by simp [big], by simp; exact ⟨ho.1, by simp [big]⟩⟩) rfl rfl rfl ?_
    refine go 99 rfl ?_
    have hc1 := chkL_one x.name
    refine Safe.br rfl (fun a => ?_) (fun a => ?_)
    · have a0 : (chkL [(x.name, [120])] != 0) = true := a
      have a1 : isNm x.name = false := by rw [← hc1]; simpa using a0
      refine go 99 rfl ?_
      exact ⟨.inr rfl, trivial, .done (nIeq (by simp only [matE]; rw [if_neg h1, if_pos a1])) rfl⟩
    · have a0 : (chkL [(x.name, [120])] != 0) = false := a
      have a1 : ¬ isNm x.name = false := by rw [← hc1]; simpa using a0
      refine go 99 rfl ?_
      refine Safe.cut1 (α := Unit) (fun _ => [(1, .ptr 0 0)]) (fun _ => [(0, .cells 88 (matC x) 3)]) 1 (fun _ => ¬ 2 < x.kind) ?_ ?_
      · refine Safe.gs rfl (fun b => ?_) (fun b => ?_)
        · have b1 : x.kind = 3 := by simpa using b
          refine go 99 rfl ?_
          refine Safe.call (H x.value ho.2) rfl rfl rfl ?_
          refine go 99 rfl ?_
          exact ⟨.inr rfl, trivial, .done (nIeq (by simp only [matE]; rw [if_neg h1, if_neg a1, if_pos (by omega)])) rfl⟩
        · have b1 : ¬ x.kind = 3 := by simpa using b
          refine go 99 rfl ?_
          refine Safe.br rfl (fun d => ?_) (fun d => ?_)
          · have d1 : x.kind = 4 := by simpa using d
            refine go 99 rfl ?_
            refine Safe.call (H x.value ho.2) rfl rfl rfl ?_
            refine go 99 rfl ?_
            exact ⟨.inr rfl, trivial, .done (nIeq (by simp only [matE]; rw [if_neg h1, if_neg a1, if_pos (by omega)])) rfl⟩
          · have d1 : ¬ x.kind = 4 := by simpa using d
            refine go 99 rfl ?_
            exact ⟨sgI 1, (), by omega, rfl, rfl, ⟨fit rfl, trivial⟩, ⟨_, .refl _, .refl _⟩, rfl⟩
      · rintro ⟨⟩ b1
        refine go 99 rfl ?_
        refine Safe.br rfl (fun d => ?_) (fun d => ?_)
        · have d1 : 200 < x.value.length := ltc d
          refine go 99 rfl ?_
          exact ⟨.inr rfl, trivial, .done (nIeq (by simp only [matE]; rw [if_neg h1, if_neg a1, if_neg b1, if_pos d1])) rfl⟩
        · have d1 : x.value.length ≤ 200 := gec d
          refine go 99 rfl ?_
          exact ⟨.inr rfl, trivial, .done (nIeq (by simp only [matE]; rw [if_neg h1, if_neg a1, if_neg b1, if_neg (by omega)])) rfl⟩
theorem ref_mats (H : RefRx rx) (l : List Mat) (hl : okMs l) : PTri Tryz.prog 97 [slV matC l] (nI (matsE rx l)) := by
  have hb := hl.1
  simp only [big] at hb
  refine PTri.of_safe Tryz.func97 rfl Tryz.results97 Tryz.ntmps97 rfl ?_
  refine go 99 rfl ?_
  refine Safe.br rfl (fun c => ?_) (fun c => ?_)
  · have hc : 16 < l.length := ltc c
    refine go 99 rfl ?_
    exact ⟨.inr rfl, trivial, .done (nIeq (by simp only [matsE]; rw [if_pos hc])) rfl⟩
  · have hc : l.length ≤ 16 := gec c
    have hE : matsE rx l = errG (matE rx) l := by simp only [matsE]; rw [if_neg (by omega)]
    refine go 99 rfl ?_
    refine Safe.loop (α := Nat) (fun i => [(0, slV matC l), (3, nI i)]) (fun i => []) 0 (fun i => l.length - i) (fun i => i ≤ l.length ∧ matsE rx l = errG (matE rx) (l.drop i)) 0 (sgI 0) ⟨⟨fit rfl, fit rfl, trivial⟩, ⟨_, .refl _, List.nil_sublist _⟩, rfl⟩ ⟨Nat.zero_le _, hE⟩ ?_
    rintro i ⟨hi, ha⟩
    refine go 99 rfl ?_
    refine Safe.br rfl (fun c1 => ?_) (fun c1 => ?_)
    · have hi : i < l.length := ltc c1
      rw [errG_step hi] at ha
      refine go 99 rfl ?_
      refine Safe.idxF hi rfl rfl rfl ?_
      refine Safe.ldF (ldM hi) rfl rfl rfl ?_
      refine Safe.call (ref_mat H l[i] (hl.2 _ (List.getElem_mem hi))) rfl rfl rfl ?_
      refine go 99 rfl ?_
      refine Safe.br rfl (fun d => ?_) (fun d => ?_)
      · rw [if_pos (by simpa using d)] at ha
        refine go 99 rfl ?_
        exact ⟨.inr rfl, trivial, .done (nIeq ha.symm) rfl⟩
      · rw [if_neg (by simpa using d)] at ha
        refine go 99 rfl ?_
        exact ⟨sgI 0, i + 1, ⟨hi, ha⟩, mlt hi, rfl, rfl, ⟨fit rfl, fit (isucc (by omega)), trivial⟩, ⟨_, .refl _, List.nil_sublist _⟩, rfl⟩
    · have hi2 : i = l.length := Nat.le_antisymm hi (gec c1)
      subst hi2
      rw [List.drop_length] at ha
      refine go 99 rfl ?_
      exact ⟨.inr rfl, trivial, .done (nIeq ha.symm) rfl⟩
theorem alg_mats (H : AlgRx rx) (l : List Mat) (hl : okMs l) : PTri Tryz.prog 83 [slV matC l] (nI (matsE rx l)) := by
  have hb := hl.1
  simp only [big] at hb
  refine PTri.of_safe Tryz.func83 rfl Tryz.results83 Tryz.ntmps83 rfl ?_
  refine go 99 rfl ?_
  refine Safe.br rfl (fun c => ?_) (fun c => ?_)
  · have hc : 16 < l.length := ltc c
    refine go 99 rfl ?_
    exact ⟨.inr rfl, trivial, .done (nIeq (by simp only [matsE]; rw [if_pos hc])) rfl⟩
  · have hc : l.length ≤ 16 := gec c
    have hE : matsE rx l = errG (matE rx) l := by simp only [matsE]; rw [if_neg (by omega)]
    refine go 99 rfl ?_
    refine Safe.loop (α := Nat) (fun i => [(9, slV matC l), (10, nI l.length), (11, nI i)]) (fun i => []) 0 (fun i => l.length - i) (fun i => i ≤ l.length ∧ matsE rx l = errG (matE rx) (l.drop i)) 0 (sgI 0) ⟨⟨fit rfl, fit rfl, fit rfl, trivial⟩, ⟨_, .refl _, List.nil_sublist _⟩, rfl⟩ ⟨Nat.zero_le _, hE⟩ ?_
    rintro i ⟨hi, ha⟩
    refine go 99 rfl ?_
    refine Safe.br rfl (fun c1 => ?_) (fun c1 => ?_)
    · have hi : i < l.length := ltc c1
      rw [errG_step hi] at ha
      refine go 99 rfl ?_
      refine Safe.idxF hi rfl rfl rfl ?_
      refine Safe.ldF (ldM hi) rfl rfl rfl ?_
      refine go 99 rfl ?_
      refine Safe.call (alg_mat H l[i] (hl.2 _ (List.getElem_mem hi))) rfl rfl rfl ?_
      refine go 99 rfl ?_
      refine Safe.br rfl (fun d => ?_) (fun d => ?_)
      · rw [if_pos (by simpa using d)] at ha
        refine go 99 rfl ?_
        exact ⟨.inr rfl, trivial, .done (nIeq ha.symm) rfl⟩
      · rw [if_neg (by simpa using d)] at ha
        refine go 99 rfl ?_
        exact ⟨sgI 0, i + 1, ⟨hi, ha⟩, mlt hi, rfl, rfl, ⟨fit rfl, fit rfl, fit (isucc (by omega)), trivial⟩, ⟨_, .refl _, List.nil_sublist _⟩, rfl⟩
    · have hi2 : i = l.length := Nat.le_antisymm hi (gec c1)
      subst hi2
      rw [List.drop_length] at ha
      refine go 99 rfl ?_
      exact ⟨.inr rfl, trivial, .done (nIeq ha.symm) rfl⟩
end Go.Proofs.YtmohgegpcfkooaaGreatDoor.Al
end

section
namespace Go.Proofs.YtmohgegpcfkooaaGreatDoor.Al
open Go.Fw
variable [Gl]
set_option maxRecDepth 20000
set_option maxHeartbeats 4000000
theorem rr_all (s : By) (hs : s.length ≤ 200) : ∀ (n i : Nat), s.length - i ≤ n → i ≤ s.length → CE s i
  | 0, i, hn, hi => rr_expr s i hs hi fun k h1 h2 => absurd hn (by omega)
  | n + 1, i, hn, hi => rr_expr s i hs hi fun k h1 h2 => rr_atom s k hs h2 (rr_all s hs n (k + 1) (by omega) (by omega))
def rxC (s : By) : Int := if 200 < s.length then 4 else match raE s (2 * s.length + 2) 0 with
  | some j => if j = s.length then 0 else 3
  | none => 3
def PrsV (r : Int) (v : V) : Prop := ∃ cs, v = .tup [.agg cs, .int .i64 r] ∧ ndk cs
theorem rr_parse (s : By) (hs : s.length < 4611686018427387904) : ETri Tryz.prog 140 [.str s] (PrsV (rxC s)) := by
  have hE := rxC.eq_1 s
  refine ETri.of_safe Tryz.func140 rfl Tryz.results140 Tryz.ntmps140 rfl ?_
  refine go 99 rfl ?_
  refine Safe.allocB tz230 rfl rfl (fun A hAl hAd => ?_)
  refine go 99 rfl ?_
  refine Safe.br rfl (fun a => ?_) (fun a => ?_)
  · have a1 : 200 < s.length := by have := of_decide_eq_true a; omega
    rw [if_pos a1] at hE
    refine go 99 rfl ?_
    refine Safe.buildB (k := 259) (by kernel_rfl) rfl (fun B hBl hBd => ?_)
    refine go 99 rfl ?_
    refine Safe.storeB sz230 hBl hAl (dryL1_leaf hBd) rfl rfl rfl rfl rfl ?_
    refine go 99 rfl ?_
    exact ⟨.inr rfl, trivial, .done (r := .tup [.agg B, .int .i64 4]) (resA_c2 (ldAll ag230 sz230 hBl) rfl rfl rfl) (by simp [dry, hBd, dryV1]) ⟨B, by rw [hE], hBl, hBd⟩⟩
  · have a1 : ¬ 200 < s.length := by have := of_decide_eq_false a; omega
    rw [if_neg a1] at hE
    refine go 99 rfl ?_
    refine Safe.callE (rr_all s (by omega) s.length 0 (by omega) (by omega) (2 * s.length + 2) (by omega)) rfl rfl rfl ?_
    rintro v hv ⟨X, j, o, rfl, ⟨hXl, hXd⟩, hA1, hA2⟩
    refine go 99 rfl ?_
    refine Safe.allocB tz230 rfl rfl (fun C hCl hCd => ?_)
    refine go 99 rfl ?_
    refine Safe.storeB sz230 hXl hCl (dryL1_leaf hXd) rfl rfl rfl rfl rfl ?_
    refine go 99 rfl ?_
    refine Safe.gs rfl (fun b => ?_) (fun b => ?_)
    · have o1 : o = false := by simpa using b
      rw [o1] at hA1
      have o2 : raE s (2 * s.length + 2) 0 = none := by revert hA1; cases raE s (2 * s.length + 2) 0 <;> simp
      rw [o2] at hE
      dsimp only at hE
      refine go 99 rfl ?_
      refine Safe.buildB (k := 259) (by kernel_rfl) rfl (fun B hBl hBd => ?_)
      refine go 99 rfl ?_
      refine Safe.storeB sz230 hBl hAl (dryL1_leaf hBd) rfl rfl rfl rfl rfl ?_
      refine go 99 rfl ?_
      exact ⟨.inr rfl, trivial, .done (r := .tup [.agg B, .int .i64 3]) (resA_c2 (ldAll ag230 sz230 hBl) rfl rfl rfl) (by simp [dry, hBd, dryV1]) ⟨B, by rw [hE], hBl, hBd⟩⟩
    · have o1 : o = true := by simpa using b
      rw [o1] at hA1
      obtain ⟨j', o2⟩ : ∃ j', raE s (2 * s.length + 2) 0 = some j' := Option.isSome_iff_exists.1 hA1.symm
      have o3 := hA2 j' o2
      subst o3
      rw [o2] at hE
      dsimp only at hE
      refine go 99 rfl ?_
      refine Safe.br rfl (fun c => ?_) (fun c => ?_)
      · have c1 : ¬ j = s.length := fun h => by subst h; simp at c
        rw [if_neg c1] at hE
        refine go 99 rfl ?_
        refine Safe.buildB (k := 259) (by kernel_rfl) rfl (fun B hBl hBd => ?_)
        refine go 99 rfl ?_
        refine Safe.storeB sz230 hBl hAl (dryL1_leaf hBd) rfl rfl rfl rfl rfl ?_
        refine go 99 rfl ?_
        exact ⟨.inr rfl, trivial, .done (r := .tup [.agg B, .int .i64 3]) (resA_c2 (ldAll ag230 sz230 hBl) rfl rfl rfl) (by simp [dry, hBd, dryV1]) ⟨B, by rw [hE], hBl, hBd⟩⟩
      · have c1 : j = s.length := by have := of_decide_eq_true (p := (j : Int) = s.length) (by simpa using c); omega
        rw [if_pos c1] at hE
        refine go 99 rfl ?_
        refine Safe.ldO (ldAll ag230 sz230 hXl) rfl rfl ?_
        refine go 99 rfl ?_
        refine Safe.storeB sz230 hXl hAl (dryL1_leaf hXd) rfl rfl rfl rfl rfl ?_
        refine go 99 rfl ?_
        exact ⟨.inr rfl, trivial, .done (r := .tup [.agg X, .int .i64 0]) (resA_c2 (ldAll ag230 sz230 hXl) rfl rfl rfl) (by simp [dry, hXd, dryV1]) ⟨X, by rw [hE], hXl, hXd⟩⟩
theorem ref_rx : RefRx rxC := by
  intro s hs
  simp only [big] at hs
  refine ETri.p ?_
  refine ETri.of_safe Tryz.func96 rfl Tryz.results96 Tryz.ntmps96 rfl ?_
  refine go 99 rfl ?_
  refine Safe.callE (rr_parse s (by omega)) rfl rfl rfl ?_
  rintro v hv ⟨X, rfl, hXl, hXd⟩
  refine go 99 rfl ?_
  refine Safe.allocB tz230 rfl rfl (fun C hCl hCd => ?_)
  refine go 99 rfl ?_
  refine Safe.storeB sz230 hXl hCl (dryL1_leaf hXd) rfl rfl rfl rfl rfl ?_
  refine go 99 rfl ?_
  exact ⟨.inr rfl, trivial, .done rfl rfl rfl⟩
end Go.Proofs.YtmohgegpcfkooaaGreatDoor.Al
end

section
namespace Go.Proofs.YtmohgegpcfkooaaGreatDoor.Al
open Go.Fw
variable [Gl]
set_option maxRecDepth 20000
set_option maxHeartbeats 4000000
theorem rx_peekS (s : By) (i : Nat) (hi : i < s.length) : TriL Tryz.prog 204 [.ptr 0 0] (prs s i) 1 (fun v h nx => v = .tup [.int .u8 s[i].toNat, .bool true] ∧ h = prs s i ∧ nx = 1) :=
  (rx_peek s i (by omega)).mono fun v h k e => ⟨by rw [e.1, pkV, List.getElem?_eq_getElem hi], e.2⟩
theorem rx_peekN (s : By) : TriL Tryz.prog 204 [.ptr 0 0] (prs s s.length) 1 (fun v h nx => v = .tup [.int .u8 0, .bool false] ∧ h = prs s s.length ∧ nx = 1) :=
  (rx_peek s s.length (by omega)).mono fun v h k e => ⟨by rw [e.1, pkV, List.getElem?_eq_none (Nat.le_refl _)], e.2⟩
def plC (c : Int) : List V := [nI 0, .bool true, .int .u8 c, .nilptr, .nilslice]
theorem rx_plainE (c : Int) : ETri Tryz.prog 247 [.int .u8 c] (fun v => v = .fptr (plC c) 0) := by
  refine ETri.of_safe Tryz.func247 rfl Tryz.results247 Tryz.ntmps247 rfl ?_
  refine go 99 rfl ?_
  exact ⟨.inr rfl, trivial, .frz 0 rfl rfl (.done rfl rfl rfl)⟩
theorem wrap8 {i : Nat} (h : i < 256) : IntKind.u8.wrap (i : Int) = (i : Int) := by
  simp only [IntKind.wrap, IntKind.signed, IntKind.bits]
  have e : ((2 ^ 8 : Nat) : Int) = 256 := by decide
  simp
  omega
theorem tz310 : tzL Tryz.prog 270 256 = true := by kernel_rfl
theorem cloR {f : FuncId} {caps : List V} {ρ : Nat → Option Nat} (hd : caps.all dryV1 = true) : some (V.clo f caps) = some (renV ρ (.clo f caps)) := by rw [dry_ren ρ (show dry (.clo f caps) = true from hd)]
theorem rx_where (f : FuncId) (caps : List V) (hgo : isGo Tryz.prog f = true) (hd : caps.all dryV1 = true) (hf : ∀ c : Nat, c < 256 → ∃ b, PTri Tryz.prog f ([.int .u8 c] ++ caps) (.bool b)) : ETri Tryz.prog 243 [.clo f caps] (fun v => ∃ cs, v = .fptr cs 0) := by
  refine ETri.of_safe Tryz.func243 rfl Tryz.results243 Tryz.ntmps243 (by simp [dry, hd]) ?_
  refine go 99 rfl ?_
  refine Safe.allocB tz310 rfl rfl (fun A hAl hAd => ?_)
  refine go 99 rfl ?_
  refine Safe.loop (α := (Nat × List V)) (fun a => [(0, .clo f caps), (3, .ptr 0 0), (5, nI a.1)]) (fun a => [(0, .cells 270 a.2 256)]) 1 (fun a => 256 - a.1) (fun a => a.1 ≤ 256 ∧ a.2.length = 256 ∧ a.2.all dryV1 = true) (0, A) (sgI 1) ⟨⟨fit (cloR hd), fit rfl, fit rfl, trivial⟩, ⟨_, .refl _, subK rfl (renO_dry (dryL1_dry hAd)) subN⟩, rfl⟩ ⟨Nat.zero_le _, hAl, hAd⟩ ?_
  rintro ⟨i, X⟩ ⟨hi, hXl, hXd⟩
  dsimp only at hi hXl hXd
  refine go 99 rfl ?_
  refine Safe.br rfl (fun t => ?_) (fun t => ?_)
  · have hi2 : i < 256 := ltc t
    obtain ⟨b, hb⟩ := hf i hi2
    refine go 99 rfl ?_
    refine Safe.eqv (congrArg (V.int .u8) (wrap8 hi2)) ?_
    refine Safe.call hb rfl rfl (by rw [hgo, List.all_append, dryL1_dry hd]; rfl) ?_
    refine go 99 rfl ?_
    refine Safe.idxO hi2 rfl rfl rfl ?_
    refine Safe.stB (off := 0 + i * 1) (by rw [hXl]; omega) hXd rfl rfl rfl rfl rfl rfl rfl (fun Y hYl hYd => ?_)
    replace hYl := hYl.trans hXl
    refine go 99 rfl ?_
    exact ⟨sgI 1, (i + 1, Y), ⟨hi2, hYl, hYd⟩, mlt hi2, rfl, rfl, ⟨fit (cloR hd), fit rfl, fit (isucc (by first | omega | (dsimp only; omega))), trivial⟩, ⟨_, .refl _, subK rfl (renO_dry (dryL1_dry hYd)) subN⟩, rfl⟩
  · refine go 99 rfl ?_
    exact ⟨.inr rfl, trivial, .frz 0 rfl hXd (.done rfl rfl ⟨X, rfl⟩)⟩
def TreA (s : By) (r : Option Nat) (v : V) (h : Hp) (nx : Nat) : Prop := ∃ j, j ≤ s.length ∧ h = prs s j ∧ nx = 1 ∧ ((r = some j ∧ ∃ cs, v = .tup [.fptr cs 0, .bool true]) ∨ (r = none ∧ v = .tup [.nilptr, .bool false]))
def EscA (s : By) (i : Nat) (v : V) (h : Hp) (nx : Nat) : Prop := ∃ j, j ≤ s.length ∧ h = prs s j ∧ nx = 1 ∧ match s[i]? with
  | none => v = .tup [.nilptr, .bool false]
  | some c => (escO c.toNat = false ∧ v = .tup [.nilptr, .bool false]) ∨ (j = i + 1 ∧ escO c.toNat = true ∧ ∃ b x cs, v = .tup [.fptr (nI 0 :: .bool b :: .int .u8 x :: cs) 0, .bool true] ∧ b = escK c.toNat ∧ (b = true → x = escI c.toNat))
theorem rx_any_go : isGo Tryz.prog 244 = true ∧ isGo Tryz.prog 254 = true ∧ isGo Tryz.prog 255 = true ∧ isGo Tryz.prog 253 = true := ⟨by kernel_rfl, by kernel_rfl, by kernel_rfl, by kernel_rfl⟩
theorem aln_alg (c : Int) : alnI c = (isLt c || isDg c) := by simp only [alnI, isLt, isDg, Bool.or_assoc]
theorem u8i {c d : UInt8} (h : ¬ c = d) : ((c.toNat : Int) == (d.toNat : Int)) = false := by
  cases e : ((c.toNat : Int) == (d.toNat : Int)) with
  | false => rfl
  | true => exact absurd (u8eqR e) h
theorem escK_alg {c : UInt8} (h1 : ¬ c = 110) (h2 : ¬ c = 116) : escK c.toNat = !(isLt c.toNat || isDg c.toNat) := by
  rw [escK, aln_alg, show ((c.toNat : Int) == 110) = false from u8i h1, show ((c.toNat : Int) == 116) = false from u8i h2]; rfl
theorem u8j {c d : UInt8} (h : ¬ c = d) : ¬ (c.toNat : Int) = (d.toNat : Int) := fun e => h (UInt8.toNat_inj.1 (by omega))
theorem escO_alg {c : UInt8} (h1 : ¬ c = 100) (h2 : ¬ c = 119) : escO c.toNat = escK c.toNat := by
  rw [escO, if_pos ⟨u8j (d := 100) h1, u8j (d := 119) h2⟩]
theorem escI_alg {c : UInt8} (h1 : ¬ c = 110) (h2 : ¬ c = 116) : escI c.toNat = c.toNat := by
  have a1 : ¬ (c.toNat : Int) = 110 := u8j (d := 110) h1
  have a2 : ¬ (c.toNat : Int) = 116 := u8j (d := 116) h2
  rw [escI, if_neg a1, if_neg a2]
theorem subQ {s : By} {i : Nat} {x : Int} (h : x = ((i : Nat) : Int)) : (relH (sgI 1) (prs s i)).Sublist [(0, .cells 183 [.str s, .int .i64 x] 2)] := by subst h; exact List.Sublist.refl _
theorem rx_escape (s : By) (i : Nat) (hs : s.length ≤ 200) (hi : i ≤ s.length) : TriL Tryz.prog 245 [.ptr 0 0] (prs s i) 1 (EscA s i) := by
  refine TriL.of_safe Tryz.func245 rfl Tryz.results245 Tryz.ntmps245 rfl ?_
  refine go 99 rfl ?_
  rcases Nat.lt_or_ge i s.length with h0 | h0
  · refine Safe.callL (rest := []) (sgI 1) (rx_peekS s i h0) rfl rfl rfl rfl (.refl _) (fun v h' nx' e => ?_)
    obtain ⟨rfl, rfl, rfl⟩ := e
    generalize hc : s[i] = c
    have hg : s[i]? = some c := by rw [List.getElem?_eq_getElem h0, hc]
    refine go 99 rfl ?_
    first | refine Safe.gsK true rfl rfl ?_ | refine Safe.gsK false rfl rfl ?_ | refine Safe.brT rfl rfl ?_ | refine Safe.brF rfl rfl ?_
    refine go 99 rfl ?_
    refine Safe.br rfl (fun c1 => ?_) (fun c1 => ?_)
    · have e1 : c = 110 := u8eqR (d := 110) c1
      refine go 99 rfl ?_
      refine Safe.callE (rx_plainE 10) rfl rfl rfl ?_
      rintro v hv rfl
      refine go 99 rfl ?_
      exact ⟨.inr rfl, rfl, rfl, .done rfl ⟨i + 1, h0, hpEq (congrArg (V.int .i64) (w1 (by omega))) rfl, rfl, by rw [hg]; exact .inr ⟨rfl, by rw [e1]; rfl, true, 10, _, rfl, by rw [e1]; rfl, fun _ => by rw [e1]; rfl⟩⟩⟩
    · have e1 : ¬ c = 110 := u8neR (d := 110) c1
      refine go 99 rfl ?_
      refine Safe.br rfl (fun c2 => ?_) (fun c2 => ?_)
      · have e2 : c = 116 := u8eqR (d := 116) c2
        refine go 99 rfl ?_
        refine Safe.callE (rx_plainE 9) rfl rfl rfl ?_
        rintro v hv rfl
        refine go 99 rfl ?_
        exact ⟨.inr rfl, rfl, rfl, .done rfl ⟨i + 1, h0, hpEq (congrArg (V.int .i64) (w1 (by omega))) rfl, rfl, by rw [hg]; exact .inr ⟨rfl, by rw [e2]; rfl, true, 9, _, rfl, by rw [e2]; rfl, fun _ => by rw [e2]; rfl⟩⟩⟩
      · have e2 : ¬ c = 116 := u8neR (d := 116) c2
        refine go 99 rfl ?_
        refine Safe.br rfl (fun c3 => ?_) (fun c3 => ?_)
        · have e3 : c = 100 := u8eqR (d := 100) c3
          refine go 99 rfl ?_
          refine Safe.callE (rx_where 254 [] rx_any_go.2.1 rfl (fun c _ => ⟨_, rx_digit c⟩)) rfl rfl rfl ?_
          rintro v hv ⟨cs, rfl⟩
          refine go 99 rfl ?_
          exact ⟨.inr rfl, rfl, rfl, .frz 1 rfl rfl (.rel (m2 := [(2, .fptr [nI 0, .bool false, .int .u8 0, .fptr cs 0, .nilslice] 0), (3, .bool true)]) (h2 := prs s (i + 1)) (nx2 := 1) (sgI 1) ⟨⟨fit rfl, fit rfl, trivial⟩, ⟨_, .refl _, subQ (w1 (by omega))⟩, rfl⟩ (.done rfl ⟨i + 1, h0, rfl, rfl, by rw [hg]; exact .inr ⟨rfl, by rw [e3]; rfl, false, 0, _, rfl, by rw [e3]; rfl, fun h => by cases h⟩⟩))⟩
        · have e3 : ¬ c = 100 := u8neR (d := 100) c3
          refine go 99 rfl ?_
          refine Safe.br rfl (fun c4 => ?_) (fun c4 => ?_)
          · have e4 : c = 119 := u8eqR (d := 119) c4
            refine go 99 rfl ?_
            refine Safe.callE (rx_where 255 [] rx_any_go.2.2.1 rfl (fun c _ => ⟨_, rx_word c⟩)) rfl rfl rfl ?_
            rintro v hv ⟨cs, rfl⟩
            refine go 99 rfl ?_
            exact ⟨.inr rfl, rfl, rfl, .frz 1 rfl rfl (.rel (m2 := [(2, .fptr [nI 0, .bool false, .int .u8 0, .fptr cs 0, .nilslice] 0), (3, .bool true)]) (h2 := prs s (i + 1)) (nx2 := 1) (sgI 1) ⟨⟨fit rfl, fit rfl, trivial⟩, ⟨_, .refl _, subQ (w1 (by omega))⟩, rfl⟩ (.done rfl ⟨i + 1, h0, rfl, rfl, by rw [hg]; exact .inr ⟨rfl, by rw [e4]; rfl, false, 0, _, rfl, by rw [e4]; rfl, fun h => by cases h⟩⟩))⟩
          · have e4 : ¬ c = 119 := u8neR (d := 119) c4
            have hK := escK_alg (c := c) e1 e2
            have hO : escO c.toNat = escK c.toNat := escO_alg e3 e4
            have hI : escI c.toNat = c.toNat := escI_alg e1 e2
            refine go 99 rfl ?_
            refine Safe.call (rx_letter c.toNat) rfl rfl rfl ?_
            refine go 99 rfl ?_
            have hfin : isLt c.toNat = true ∨ isDg c.toNat = true → escK c.toNat = false := fun h => by rw [hK]; rcases h with h | h <;> simp [h]
            refine Safe.gs rfl (fun d1 => ?_) (fun d1 => ?_)
            · refine go 99 rfl ?_
              exact ⟨.inr rfl, rfl, rfl, .done rfl ⟨i + 1, h0, hpEq (congrArg (V.int .i64) (w1 (by omega))) rfl, rfl, by rw [hg]; exact .inl ⟨by rw [hO, hfin (.inl d1)], rfl⟩⟩⟩
            · refine go 99 rfl ?_
              refine Safe.call (rx_digit c.toNat) rfl rfl rfl ?_
              refine go 99 rfl ?_
              refine Safe.br rfl (fun d2 => ?_) (fun d2 => ?_)
              · refine go 99 rfl ?_
                exact ⟨.inr rfl, rfl, rfl, .done rfl ⟨i + 1, h0, hpEq (congrArg (V.int .i64) (w1 (by omega))) rfl, rfl, by rw [hg]; exact .inl ⟨by rw [hO, hfin (.inr d2)], rfl⟩⟩⟩
              · have hk2 : escK c.toNat = true := by rw [hK]; simp [show isLt c.toNat = false from d1, show isDg c.toNat = false from d2]
                refine go 99 rfl ?_
                refine Safe.callE (rx_plainE c.toNat) rfl rfl rfl ?_
                rintro v hv rfl
                refine go 99 rfl ?_
                exact ⟨.inr rfl, rfl, rfl, .done rfl ⟨i + 1, h0, hpEq (congrArg (V.int .i64) (w1 (by omega))) rfl, rfl, by rw [hg]; exact .inr ⟨rfl, by rw [hO, hk2], true, _, _, rfl, hk2.symm, fun _ => hI.symm⟩⟩⟩
  · have e0 : i = s.length := by omega
    subst e0
    refine Safe.callL (rest := []) (sgI 1) (rx_peekN s) rfl rfl rfl rfl (.refl _) (fun v h' nx' e => ?_)
    obtain ⟨rfl, rfl, rfl⟩ := e
    refine go 99 rfl ?_
    first | refine Safe.gsK true rfl rfl ?_ | refine Safe.gsK false rfl rfl ?_ | refine Safe.brT rfl rfl ?_ | refine Safe.brF rfl rfl ?_
    refine go 99 rfl ?_
    exact ⟨.inr rfl, rfl, rfl, .done rfl ⟨s.length, Nat.le_refl _, rfl, rfl, by rw [List.getElem?_eq_none (Nat.le_refl _)]⟩⟩
end Go.Proofs.YtmohgegpcfkooaaGreatDoor.Al
end

section
namespace Go.Proofs.YtmohgegpcfkooaaGreatDoor.Al
open Go.Fw
variable [Gl]
set_option maxRecDepth 20000
set_option maxHeartbeats 4000000
def ItA (s : By) (i : Nat) (v : V) (h : Hp) (nx : Nat) : Prop := ∃ j, j ≤ s.length ∧ h = prs s j ∧ nx = 1 ∧ (((itR s i).2.2 = true ∧ j = (itR s i).2.1 ∧ v = .tup [.int .u8 (itR s i).1, .bool true]) ∨ ((itR s i).2.2 = false ∧ v = .tup [.int .u8 0, .bool false]))
theorem escO_no {c : Int} (h : escO c = false) : escK c = false := by
  unfold escO at h
  split at h
  · exact h
  · cases h
theorem rx_item (s : By) (i : Nat) (hs : s.length ≤ 200) (hi : i ≤ s.length) : TriL Tryz.prog 251 [.ptr 0 0] (prs s i) 1 (ItA s i) := by
  have hE := itR.eq_1 s i
  refine TriL.of_safe Tryz.func251 rfl Tryz.results251 Tryz.ntmps251 rfl ?_
  refine go 99 rfl ?_
  rcases Nat.lt_or_ge i s.length with h0 | h0
  · refine Safe.callL (rest := []) (sgI 1) (rx_peekS s i h0) rfl rfl rfl rfl (.refl _) (fun v h' nx' e => ?_)
    obtain ⟨rfl, rfl, rfl⟩ := e
    rw [List.getElem?_eq_getElem h0] at hE
    dsimp only at hE
    generalize hc : s[i] = c at *
    refine go 99 rfl ?_
    first | refine Safe.gsK true rfl rfl ?_ | refine Safe.gsK false rfl rfl ?_ | refine Safe.brT rfl rfl ?_ | refine Safe.brF rfl rfl ?_
    refine go 99 rfl ?_
    refine Safe.br rfl (fun c1 => ?_) (fun c1 => ?_)
    · have e1 : c = 93 := u8eqR (d := 93) c1
      rw [if_pos e1] at hE
      refine go 99 rfl ?_
      exact ⟨.inr rfl, rfl, rfl, .done rfl ⟨i, hi, rfl, rfl, .inr ⟨by rw [hE], rfl⟩⟩⟩
    · have e1 : ¬ c = 93 := u8neR (d := 93) c1
      rw [if_neg e1] at hE
      refine go 99 rfl ?_
      refine Safe.br rfl (fun c2 => ?_) (fun c2 => ?_)
      · have e2 : c ≠ 92 := u8neR (d := 92) (by simpa using c2)
        rw [if_pos e2] at hE
        refine go 99 rfl ?_
        exact ⟨.inr rfl, rfl, rfl, .done rfl ⟨i + 1, h0, hpEq (congrArg (V.int .i64) (w1 (by omega))) rfl, rfl, .inl ⟨by rw [hE], by rw [hE], by rw [hE]; rfl⟩⟩⟩
      · have e2 : ¬ c ≠ 92 := fun h => h (u8eqR (d := 92) (by simpa using c2))
        rw [if_neg e2] at hE
        refine go 99 rfl ?_
        refine Safe.hpO (h' := prs s (i + 1)) (hpEq (congrArg (V.int .i64) (w1 (by omega))) rfl) ?_
        refine Safe.callL (rest := []) (sgI 1) (rx_escape s (i + 1) hs h0) rfl rfl rfl rfl (.refl _) (fun v h' nx' e => ?_)
        obtain ⟨j, hj, rfl, rfl, e⟩ := e
        cases hd : s[i + 1]? with
        | none =>
          rw [hd] at e hE
          dsimp only at e hE
          subst e
          refine go 99 rfl ?_
          first | refine Safe.gsK true rfl rfl ?_ | refine Safe.gsK false rfl rfl ?_ | refine Safe.brT rfl rfl ?_ | refine Safe.brF rfl rfl ?_
          refine go 99 rfl ?_
          exact ⟨.inr rfl, rfl, rfl, .done rfl ⟨j, hj, rfl, rfl, .inr ⟨by rw [hE], rfl⟩⟩⟩
        | some d =>
          rw [hd] at e hE
          dsimp only at e hE
          rcases e with ⟨e3, rfl⟩ | ⟨rfl, e3, b, x, cs, rfl, hb, hx⟩
          · refine go 99 rfl ?_
            first | refine Safe.gsK true rfl rfl ?_ | refine Safe.gsK false rfl rfl ?_ | refine Safe.brT rfl rfl ?_ | refine Safe.brF rfl rfl ?_
            refine go 99 rfl ?_
            exact ⟨.inr rfl, rfl, rfl, .done rfl ⟨j, hj, rfl, rfl, .inr ⟨by rw [hE]; exact escO_no e3, rfl⟩⟩⟩
          · refine go 99 rfl ?_
            first | refine Safe.gsK true rfl rfl ?_ | refine Safe.gsK false rfl rfl ?_ | refine Safe.brT rfl rfl ?_ | refine Safe.brF rfl rfl ?_
            refine go 99 rfl ?_
            refine Safe.ldF (rfl) rfl rfl rfl ?_
            refine go 99 rfl ?_
            refine Safe.br rfl (fun f => ?_) (fun f => ?_)
            · have f1 : b = false := by simpa using f
              subst f1
              refine go 99 rfl ?_
              exact ⟨.inr rfl, rfl, rfl, .done rfl ⟨_, hj, rfl, rfl, .inr ⟨by rw [hE]; exact hb.symm, rfl⟩⟩⟩
            · have f1 : b = true := by simpa using f
              subst f1
              refine go 99 rfl ?_
              refine Safe.ldF (rfl) rfl rfl rfl ?_
              refine go 99 rfl ?_
              exact ⟨.inr rfl, rfl, rfl, .done rfl ⟨_, hj, rfl, rfl, .inl ⟨by rw [hE]; exact hb.symm, by rw [hE], by rw [hE, hx rfl]⟩⟩⟩
  · have e0 : i = s.length := by omega
    subst e0
    refine Safe.callL (rest := []) (sgI 1) (rx_peekN s) rfl rfl rfl rfl (.refl _) (fun v h' nx' e => ?_)
    obtain ⟨rfl, rfl, rfl⟩ := e
    rw [List.getElem?_eq_none (Nat.le_refl _)] at hE
    refine go 99 rfl ?_
    first | refine Safe.gsK true rfl rfl ?_ | refine Safe.gsK false rfl rfl ?_ | refine Safe.brT rfl rfl ?_ | refine Safe.brF rfl rfl ?_
    refine go 99 rfl ?_
    exact ⟨.inr rfl, rfl, rfl, .done rfl ⟨s.length, hi, rfl, rfl, .inr ⟨by rw [hE], rfl⟩⟩⟩
def bl0 (cs : List V) : Prop := ∀ k < 256, ∃ b, cs[0 + k * 1]? = some (.bool b)
theorem rx_inset (c : Nat) (hc : c < 256) (A : List V) (nb : Bool) (hA : bl0 A) : ∃ b, PTri Tryz.prog 253 [.int .u8 c, .fptr A 0, .fptr [.bool nb] 0] (.bool b) := by
  obtain ⟨b, hb⟩ := hA c hc
  refine ⟨b != nb, ?_⟩
  refine PTri.of_safe Tryz.func253 rfl Tryz.results253 Tryz.ntmps253 rfl ?_
  refine go 99 rfl ?_
  refine Safe.drawP mixed [0, 1, 2, 3, 4, 5] [(true, true), (true, true), (true, true), (true, true), (true, true), (true, true)] (by kernel_rfl) ?_
  refine go 99 rfl ?_
  refine Safe.idxA hc rfl rfl rfl ?_
  refine go 99 rfl ?_
  refine Safe.ldF (ld_bool hb) rfl rfl rfl ?_
  refine go 99 rfl ?_
  refine Safe.ldF (rfl) rfl rfl rfl ?_
  refine go 99 rfl ?_
  exact ⟨.inr rfl, trivial, .done (rfl) rfl⟩
end Go.Proofs.YtmohgegpcfkooaaGreatDoor.Al
end

section
namespace Go.Proofs.YtmohgegpcfkooaaGreatDoor.Al
open Go.Fw
variable [Gl]
set_option maxRecDepth 20000
set_option maxHeartbeats 4000000
theorem brI_no {s : By} {k : Nat} (h : (itR s k).2.2 = false) : brI s k = none := by rw [brI, h]; rfl
def brN (s : By) (st f k : Nat) : Option Nat := match brI s k with
    | none => none
    | some j => brL s st f j
theorem brS {s : By} {st f k : Nat} (h : s[k]? ≠ some 93 ∨ k = st) : brL s st (f + 1) k = brN s st f k := by
  simp only [brL, brN]
  cases hk : s[k]? with
  | none => rw [brI_no (by rw [itR, hk])]
  | some c =>
    dsimp only
    split
    · rename_i h93
      subst h93
      rcases h with h | h
      · exact absurd hk h
      · rw [if_pos h, brI_no (by rw [itR, hk]; rfl)]
    · rfl
def bl0b (cs : List V) : Bool := cs.all isBl
theorem bl0_of {cs : List V} (hl : cs.length = 256) (h : bl0b cs = true) : bl0 cs := by
  intro k hk
  have h1 : 0 + k * 1 < cs.length := by omega
  have h2 := List.all_eq_true.1 h (cs[0 + k * 1]) (List.getElem_mem h1)
  rw [List.getElem?_eq_getElem h1]
  generalize cs[0 + k * 1] = v at h2 ⊢
  match v, h2 with
  | .bool b, _ => exact ⟨b, rfl⟩
theorem bl0b_set {cs : List V} {k : Nat} {b : Bool} (h : bl0b cs = true) : bl0b (cs.set k (.bool b)) = true := by
  refine List.all_eq_true.2 fun v hv => ?_
  rcases List.mem_or_eq_of_mem_set hv with h1 | h1
  · exact List.all_eq_true.1 h v h1
  · rw [h1]; rfl
theorem tz310b : tzLp Tryz.prog 270 256 bl0b = true := by kernel_rfl
abbrev brH (s : By) (j : Nat) (X : List V) (nb : Bool) : Hp := [(0, .cells 183 [.str s, nI j] 2), (2, .cells 270 X 256), (1, .cells 4 [.bool nb] 1)]
theorem sub_br {s : By} {j : Nat} {x : Int} {X : List V} {nb : Bool} (hX : X.all dryV1 = true) (hx : x = ((j : Nat) : Int)) : (relH (sgI 3) (brH s j X nb)).Sublist [(0, .cells 183 [.str s, .int .i64 x] 2), (2, .cells 270 X 256), (1, .cells 4 [.bool nb] 1)] := by
  subst hx
  exact subK rfl rfl (subK rfl (renO_dry (dryL1_dry hX)) (subK rfl rfl subN))
theorem brHEq {s : By} {j : Nat} {x : Int} {X : List V} {nb : Bool} (hx : x = ((j : Nat) : Int)) : [(0, AObj.cells 183 [.str s, .int .i64 x] 2), (2, .cells 270 X 256), (1, .cells 4 [.bool nb] 1)] = brH s j X nb := by subst hx; rfl
theorem perm_br {a b c : Nat × AObj} : [a, b, c].Perm [b, c, a] := List.perm_append_comm (l₁ := [a]) (l₂ := [b, c])
theorem rx_bracket (s : By) (i : Nat) (hs : s.length ≤ 200) (hi : i ≤ s.length) : TriL Tryz.prog 242 [.ptr 0 0] (prs s i) 1 (TreA s (brk s (if s[i]? = some 94 then i + 1 else i))) := by
  have hN : nxt s i 94 = true ↔ s[i]? = some 94 := by simp [nxt]
  obtain ⟨st, hst, hst2, hst3⟩ : ∃ st, (if nxt s i 94 = true then i + 1 else i) = st ∧ (if s[i]? = some 94 then i + 1 else i) = st ∧ st ≤ s.length := by
    by_cases h : s[i]? = some 94
    · obtain ⟨h2, _⟩ := List.getElem?_eq_some_iff.1 h
      exact ⟨i + 1, by rw [if_pos (hN.2 h)], by rw [if_pos h], h2⟩
    · exact ⟨i, by rw [if_neg (fun e => h (hN.1 e))], by rw [if_neg h], hi⟩
  rw [hst2]
  refine TriL.of_safe Tryz.func242 rfl Tryz.results242 Tryz.ntmps242 rfl ?_
  refine go 99 rfl ?_
  refine Safe.callL (rest := []) (sgI 1) (rx_skip s i 94 hs hi) rfl rfl rfl rfl (.refl _) (fun v h' nx' e => ?_)
  obtain ⟨rfl, rfl, rfl⟩ := e
  rw [hst]
  generalize nxt s i 94 = nb
  refine go 99 rfl ?_
  refine Safe.allocBp tz310b rfl rfl (fun A hAl hAd hAb => ?_)
  refine go 99 rfl ?_
  refine Safe.loop (α := (Nat × Bool × List V)) (fun a => [(0, .ptr 0 0), (4, .ptr 1 0), (5, .ptr 2 0), (6, .bool a.2.1)]) (fun a => brH s a.1 a.2.2 nb) 3 (fun a => (s.length - a.1) + (if a.2.1 = true then 0 else 1)) (fun a => st ≤ a.1 ∧ a.1 ≤ s.length ∧ a.2.2.length = 256 ∧ a.2.2.all dryV1 = true ∧ bl0b a.2.2 = true ∧ (if a.2.1 = true then brk s st = some a.1 else ∃ f, s.length - a.1 ≤ f ∧ brk s st = brN s st f a.1)) (st, false, A) (sgI 3) ⟨⟨fit rfl, fit rfl, fit rfl, fit rfl, trivial⟩, ⟨_, perm_br, sub_br hAd rfl⟩, rfl⟩ ⟨Nat.le_refl _, hst3, hAl, hAd, hAb, by dsimp only; rw [if_neg Bool.false_ne_true]; exact ⟨s.length - st, Nat.le_refl _, by rw [brk, show s.length + 1 - st = (s.length - st) + 1 by omega, brS (.inr rfl)]⟩⟩ ?_
  rintro ⟨j, b, X⟩ ⟨hj1, hj2, hXl, hXd, hXb, hE⟩
  dsimp only at hj1 hj2 hXl hXd hXb hE
  refine go 99 rfl ?_
  refine Safe.br rfl (fun t => ?_) (fun t => ?_)
  · have hb : b = false := by simpa using t
    subst hb
    rw [if_neg Bool.false_ne_true] at hE
    obtain ⟨f, hf, hE⟩ := hE
    have hno : brI s j = none → brk s st = none := fun h => by rw [hE, brN, h]
    have hI := brI.eq_1 s j
    obtain ⟨l1, l2⟩ := itR_1 s j
    obtain ⟨p1, p2⟩ := itR_b s j hj2
    refine go 99 rfl ?_
    refine Safe.callL (rest := [(2, .cells 270 X 256), (1, .cells 4 [.bool nb] 1)]) (sgI 1) (rx_item s j hs hj2) rfl rfl rfl rfl (.refl _) (fun v h' nx' e => ?_)
    obtain ⟨j', hj', rfl, rfl, e⟩ := e
    rcases e with ⟨e1, rfl, rfl⟩ | ⟨e1, rfl⟩
    · rw [if_pos e1] at hI
      generalize hr : itR s j = r at *
      obtain ⟨lo, k1, ok⟩ := r
      dsimp only at hI l1 l2 p1 p2 hj' e1 ⊢
      refine go 99 rfl ?_
      first | refine Safe.gsK true rfl rfl ?_ | refine Safe.gsK false rfl rfl ?_ | refine Safe.brT rfl rfl ?_ | refine Safe.brF rfl rfl ?_
      refine go 99 rfl ?_
      refine Safe.callL (rest := [(2, .cells 270 X 256), (1, .cells 4 [.bool nb] 1)]) (sgI 1) (rx_range s k1 hs p2) rfl rfl rfl rfl (.refl _) (fun v h' nx' e => ?_)
      obtain ⟨rfl, rfl, rfl⟩ := e
      refine Safe.cut1 (α := (Int × Nat)) (fun b => [(0, .ptr 0 0), (4, .ptr 1 0), (5, .ptr 2 0), (6, .bool false), (7, .int .u8 lo), (9, .int .u8 b.1)]) (fun b => brH s b.2 X nb) 3 (fun b => 0 ≤ b.1 ∧ b.1 ≤ 255 ∧ brI s j = some b.2) ?_ ?_
      · refine go 99 rfl ?_
        refine Safe.br rfl (fun r1 => ?_) (fun r1 => ?_)
        · have r2 : rngB s k1 = true := r1
          rw [if_pos r2] at hI
          have hk1 : k1 < s.length := by simp only [rngB, Bool.and_eq_true] at r2; have := of_decide_eq_true r2.1.1; omega
          refine go 99 rfl ?_
          refine Safe.hpO (h' := brH s (k1 + 1) X nb) (brHEq (w1 (by omega))) ?_
          obtain ⟨q1, q2⟩ := itR_1 s (k1 + 1)
          refine Safe.callL (rest := [(2, .cells 270 X 256), (1, .cells 4 [.bool nb] 1)]) (sgI 1) (rx_item s (k1 + 1) hs hk1) rfl rfl rfl rfl (.refl _) (fun v h' nx' e => ?_)
          obtain ⟨j2, hj2', rfl, rfl, e⟩ := e
          rcases e with ⟨e3, rfl, rfl⟩ | ⟨e3, rfl⟩
          · refine go 99 rfl ?_
            first | refine Safe.gsK true rfl rfl ?_ | refine Safe.gsK false rfl rfl ?_ | refine Safe.brT rfl rfl ?_ | refine Safe.brF rfl rfl ?_
            refine go 99 rfl ?_
            refine Safe.br rfl (fun r3 => ?_) (fun r3 => ?_)
            · have r4 : (itR s (k1 + 1)).1 < lo := of_decide_eq_true r3
              rw [if_neg (fun h => h.2 r4)] at hI
              refine go 99 rfl ?_
              exact ⟨.inr rfl, rfl, rfl, .rel (m2 := [(2, .nilptr), (3, .bool false)]) (h2 := prs s (itR s (k1 + 1)).2.1) (nx2 := 1) (sgI 1) ⟨⟨fit rfl, fit rfl, trivial⟩, ⟨_, .refl _, subK rfl rfl subN⟩, rfl⟩ (.done rfl ⟨(itR s (k1 + 1)).2.1, hj2', rfl, rfl, .inr ⟨hno hI, rfl⟩⟩)⟩
            · have r4 : ¬ (itR s (k1 + 1)).1 < lo := of_decide_eq_false r3
              rw [if_pos ⟨e3, r4⟩] at hI
              refine go 99 rfl ?_
              exact ⟨sgI 3, ((itR s (k1 + 1)).1, (itR s (k1 + 1)).2.1), ⟨q1, q2, hI⟩, rfl, rfl, ⟨fit rfl, fit rfl, fit rfl, fit rfl, fit rfl, fit rfl, trivial⟩, ⟨_, .refl _, sub_br hXd rfl⟩, rfl⟩
          · rw [if_neg (fun h => by rw [e3] at h; exact Bool.false_ne_true h.1)] at hI
            refine go 99 rfl ?_
            first | refine Safe.gsK true rfl rfl ?_ | refine Safe.gsK false rfl rfl ?_ | refine Safe.brT rfl rfl ?_ | refine Safe.brF rfl rfl ?_
            refine go 99 rfl ?_
            exact ⟨.inr rfl, rfl, rfl, .rel (m2 := [(2, .nilptr), (3, .bool false)]) (h2 := prs s j2) (nx2 := 1) (sgI 1) ⟨⟨fit rfl, fit rfl, trivial⟩, ⟨_, .refl _, subK rfl rfl subN⟩, rfl⟩ (.done rfl ⟨j2, hj2', rfl, rfl, .inr ⟨hno hI, rfl⟩⟩)⟩
        · have r2 : ¬ rngB s k1 = true := by simpa using r1
          rw [if_neg r2] at hI
          refine go 99 rfl ?_
          exact ⟨sgI 3, (lo, k1), ⟨l1, l2, hI⟩, rfl, rfl, ⟨fit rfl, fit rfl, fit rfl, fit rfl, fit rfl, fit rfl, trivial⟩, ⟨_, .refl _, sub_br hXd rfl⟩, rfl⟩
      · rintro ⟨hi', k⟩ ⟨q1, q2, hB⟩
        dsimp only at q1 q2 hB
        have hjk := brI_le hB
        rw [brN, hB] at hE
        dsimp only at hE
        obtain ⟨ln, rfl⟩ := Int.eq_ofNat_of_zero_le l1
        obtain ⟨hn, rfl⟩ := Int.eq_ofNat_of_zero_le q1
        refine go 99 rfl ?_
        refine Safe.loop (α := (Nat × List V)) (fun a => [(0, .ptr 0 0), (4, .ptr 1 0), (5, .ptr 2 0), (6, .bool false), (9, .int .u8 hn), (10, nI a.1)]) (fun a => brH s k a.2 nb) 3 (fun a => 256 - a.1) (fun a => a.1 ≤ 256 ∧ a.2.length = 256 ∧ a.2.all dryV1 = true ∧ bl0b a.2 = true) (ln, X) (sgI 3) ⟨⟨fit rfl, fit rfl, fit rfl, fit rfl, fit rfl, fit (iw (by omega) (by omega)), trivial⟩, ⟨_, .refl _, sub_br hXd rfl⟩, rfl⟩ ⟨by dsimp only; omega, hXl, hXd, hXb⟩ ?_
        rintro ⟨c, Y⟩ ⟨hc, hYl, hYd, hYb⟩
        dsimp only at hc hYl hYd hYb
        refine go 99 rfl ?_
        refine Safe.br rfl (fun u => ?_) (fun u => ?_)
        · have hc2 : c < 256 := by have := of_decide_eq_true u; rw [wrap64_fit (by omega) (by omega)] at this; omega
          refine go 99 rfl ?_
          refine Safe.idxO hc2 rfl rfl rfl ?_
          refine Safe.stB2 (off := 0 + c * 1) (by rw [hYl]; omega) hYd rfl rfl rfl rfl rfl rfl rfl (fun Z hZ hZl hZd => ?_)
          have hZb : bl0b Z = true := by rw [hZ]; exact bl0b_set hYb
          replace hZl := hZl.trans hYl
          refine go 99 rfl ?_
          exact ⟨sgI 3, (c + 1, Z), ⟨hc2, hZl, hZd, hZb⟩, mlt hc2, rfl, rfl, ⟨fit rfl, fit rfl, fit rfl, fit rfl, fit rfl, fit (isucc (by first | omega | (dsimp only; omega))), trivial⟩, ⟨_, .refl _, sub_br hZd rfl⟩, rfl⟩
        · refine go 99 rfl ?_
          refine Safe.callL (rest := [(2, .cells 270 Y 256), (1, .cells 4 [.bool nb] 1)]) (sgI 1) (rx_skip s k 93 hs hjk.2) rfl rfl rfl rfl (.refl _) (fun v h' nx' e => ?_)
          obtain ⟨rfl, rfl, rfl⟩ := e
          match f, hf, hE with
          | 0, hf, _ => exact absurd hf (by omega)
          | f + 1, hf, hE =>
          cases hn2 : nxt s k 93 with
          | true =>
            have hk3 : s[k]? = some 93 := by simpa [nxt] using hn2
            obtain ⟨hk4, hk5⟩ := List.getElem?_eq_some_iff.1 hk3
            rw [brL_93 hk4 hk5 (by omega), if_neg (by omega)] at hE
            refine go 99 rfl ?_
            exact ⟨sgI 3, (k + 1, true, Y), ⟨by dsimp only; omega, hk4, hYl, hYd, hYb, by dsimp only; rw [if_pos rfl]; exact hE⟩, by dsimp only; rw [if_pos rfl, if_neg Bool.false_ne_true]; omega, rfl, rfl, ⟨fit rfl, fit rfl, fit rfl, fit rfl, trivial⟩, ⟨_, .refl _, sub_br hYd rfl⟩, rfl⟩
          | false =>
            have hk3 : s[k]? ≠ some 93 := by simpa [nxt] using hn2
            rw [brS (.inl hk3)] at hE
            refine go 99 rfl ?_
            exact ⟨sgI 3, (k, false, Y), ⟨by dsimp only; omega, hjk.2, hYl, hYd, hYb, by dsimp only; rw [if_neg Bool.false_ne_true]; exact ⟨f, by omega, hE⟩⟩, by dsimp only; rw [if_neg Bool.false_ne_true]; omega, rfl, rfl, ⟨fit rfl, fit rfl, fit rfl, fit rfl, trivial⟩, ⟨_, .refl _, sub_br hYd rfl⟩, rfl⟩
    · rw [if_neg (fun h => by rw [e1] at h; exact Bool.false_ne_true h)] at hI
      refine go 99 rfl ?_
      first | refine Safe.gsK true rfl rfl ?_ | refine Safe.gsK false rfl rfl ?_ | refine Safe.brT rfl rfl ?_ | refine Safe.brF rfl rfl ?_
      refine go 99 rfl ?_
      exact ⟨.inr rfl, rfl, rfl, .rel (m2 := [(2, .nilptr), (3, .bool false)]) (h2 := prs s j') (nx2 := 1) (sgI 1) ⟨⟨fit rfl, fit rfl, trivial⟩, ⟨_, .refl _, subK rfl rfl subN⟩, rfl⟩ (.done rfl ⟨j', hj', rfl, rfl, .inr ⟨hno hI, rfl⟩⟩)⟩
  · have hb : b = true := by simpa using t
    subst hb
    rw [if_pos rfl] at hE
    refine go 99 rfl ?_
    refine Safe.frzO 2 rfl hXd ?_
    refine Safe.frzO 1 rfl rfl ?_
    refine Safe.callE (rx_where 253 [.fptr X 0, .fptr [.bool nb] 0] rx_any_go.2.2.2 rfl (fun c hc => rx_inset c hc X nb (bl0_of hXl hXb))) rfl rfl rfl ?_
    rintro v hv ⟨cs, rfl⟩
    refine go 99 rfl ?_
    exact ⟨.inr rfl, rfl, rfl, .frz 3 rfl rfl (.rel (m2 := [(2, .fptr [nI 0, .bool false, .int .u8 0, .fptr cs 0, .nilslice] 0), (3, .bool true)]) (h2 := prs s j) (nx2 := 1) (sgI 1) ⟨⟨fit rfl, fit rfl, trivial⟩, ⟨_, .refl _, subK rfl rfl subN⟩, rfl⟩ (.done rfl ⟨j, hj2, rfl, rfl, .inl ⟨hE, _, rfl⟩⟩))⟩
end Go.Proofs.YtmohgegpcfkooaaGreatDoor.Al
end

section
namespace Go.Proofs.YtmohgegpcfkooaaGreatDoor.Al
open Go.Fw
variable [Gl]
set_option maxRecDepth 20000
set_option maxHeartbeats 4000000
def spcB : By := [46, 91, 93, 40, 41, 124, 42, 43, 63, 92]
theorem vrs_str8 {s : List UInt8} {c : Int} (F : Froz) (av : Array Value) (h : VRs F [.str s, .int .u8 c] av) : av = #[.string ⟨s.toArray⟩, .int .u8 c] := by
  have h0 := (h.2 0 _ rfl).str_inv
  have h1 := (h.2 1 _ rfl).int_inv
  have hs := h.1
  simp at hs
  obtain ⟨L⟩ := av
  match L, hs with
  | [x, y], _ => simp at h0 h1; rw [h0, h1]
theorem ix_byte (s : By) (c : UInt8) : PTri Tryz.prog 246 [.str s, .int .u8 c.toNat] (.int .i64 (Lib.indexByte s c)) := by
  refine PTri.of_same _ _ (fun F av h => vrs_str8 F av h) (fun w => Tryz.strings_IndexByte _ _ w) (fun F => ?_)
  simp only [Int.toNat_natCast, UInt8.ofNat_toNat, Nat.toUInt8_eq]
  exact .int _ _
theorem ix_spc : ∀ c : UInt8, (decide (0 ≤ Lib.indexByte spcB c)) = spcI c.toNat := by
  intro c
  have h : ∀ n : Fin 256, (decide (0 ≤ Lib.indexByte spcB (UInt8.ofFin n))) = spcI ((n : Nat) : Int) := by decide
  exact h c.toFin
def PE (s : By) (i : Nat) : Prop := ∀ f, 2 * (s.length - i) + 2 ≤ f → TriL Tryz.prog 162 [.ptr 0 0] (prs s i) 1 (TreA s (raE s f i))
def PAt (s : By) (i : Nat) : Prop := ∀ f, 2 * (s.length - i) + 1 ≤ f → TriL Tryz.prog 229 [.ptr 0 0] (prs s i) 1 (TreA s (raA s f i))
theorem rx_atom (s : By) (i : Nat) (hs : s.length ≤ 200) (hi : i ≤ s.length) (ih : i < s.length → PE s (i + 1)) : PAt s i := by
  intro f hf
  match f, hf with
  | 0, hf => exact absurd hf (by omega)
  | f + 1, hf =>
  have hE := raA.eq_2 s i f
  refine TriL.of_safe Tryz.func229 rfl Tryz.results229 Tryz.ntmps229 rfl ?_
  refine go 99 rfl ?_
  rcases Nat.lt_or_ge i s.length with h0 | h0
  · refine Safe.callL (rest := []) (sgI 1) (rx_peekS s i h0) rfl rfl rfl rfl (.refl _) (fun v h' nx' e => ?_)
    obtain ⟨rfl, rfl, rfl⟩ := e
    rw [List.getElem?_eq_getElem h0] at hE
    dsimp only at hE
    generalize hc : s[i] = c at *
    have ih := ih h0 f (by omega)
    refine go 99 rfl ?_
    first | refine Safe.gsK true rfl rfl ?_ | refine Safe.gsK false rfl rfl ?_ | refine Safe.brT rfl rfl ?_ | refine Safe.brF rfl rfl ?_
    refine go 99 rfl ?_
    refine Safe.br rfl (fun c1 => ?_) (fun c1 => ?_)
    · have e1 : c = 40 := u8eqR (d := 40) c1
      subst e1
      rw [if_neg (by decide), if_neg (by decide), if_neg (by decide), if_neg (by decide), if_pos rfl] at hE
      refine go 99 rfl ?_
      refine Safe.hpO (h' := prs s (i + 1)) (hpEq (congrArg (V.int .i64) (w1 (by omega))) rfl) ?_
      refine Safe.callL (rest := []) (sgI 1) ih rfl rfl rfl rfl (.refl _) (fun v h' nx' e => ?_)
      obtain ⟨j, hj, rfl, rfl, e⟩ := e
      rcases e with ⟨e1, cs, rfl⟩ | ⟨e1, rfl⟩
      · rw [e1] at hE
        dsimp only at hE
        refine go 99 rfl ?_
        first | refine Safe.gsK true rfl rfl ?_ | refine Safe.gsK false rfl rfl ?_ | refine Safe.brT rfl rfl ?_ | refine Safe.brF rfl rfl ?_
        refine go 99 rfl ?_
        refine Safe.callL (rest := []) (sgI 1) (rx_skip s j 41 hs hj) rfl rfl rfl rfl (.refl _) (fun v h' nx' e => ?_)
        obtain ⟨rfl, rfl, rfl⟩ := e
        cases hn : nxt s j 41 with
        | true =>
          have hk : s[j]? = some 41 := by simpa [nxt] using hn
          rw [if_pos hk] at hE
          refine go 99 rfl ?_
          first | refine Safe.gsK true rfl rfl ?_ | refine Safe.gsK false rfl rfl ?_ | refine Safe.brT rfl rfl ?_ | refine Safe.brF rfl rfl ?_
          refine go 99 rfl ?_
          obtain ⟨hk2, _⟩ := List.getElem?_eq_some_iff.1 hk
          exact ⟨.inr rfl, rfl, rfl, .done rfl ⟨j + 1, hk2, rfl, rfl, .inl ⟨hE, _, rfl⟩⟩⟩
        | false =>
          have hk : ¬ s[j]? = some 41 := by simpa [nxt] using hn
          rw [if_neg hk] at hE
          refine go 99 rfl ?_
          first | refine Safe.gsK true rfl rfl ?_ | refine Safe.gsK false rfl rfl ?_ | refine Safe.brT rfl rfl ?_ | refine Safe.brF rfl rfl ?_
          refine go 99 rfl ?_
          exact ⟨.inr rfl, rfl, rfl, .done rfl ⟨j, hj, rfl, rfl, .inr ⟨hE, rfl⟩⟩⟩
      · rw [e1] at hE
        dsimp only at hE
        refine go 99 rfl ?_
        first | refine Safe.gsK true rfl rfl ?_ | refine Safe.gsK false rfl rfl ?_ | refine Safe.brT rfl rfl ?_ | refine Safe.brF rfl rfl ?_
        refine go 99 rfl ?_
        exact ⟨.inr rfl, rfl, rfl, .done rfl ⟨j, hj, rfl, rfl, .inr ⟨hE, rfl⟩⟩⟩
    · have e1 : ¬ c = 40 := u8neR (d := 40) c1
      refine go 99 rfl ?_
      refine Safe.br rfl (fun c2 => ?_) (fun c2 => ?_)
      · have e2 : c = 91 := u8eqR (d := 91) c2
        subst e2
        rw [if_neg (by decide), if_neg (by decide), if_neg (by decide), if_pos rfl] at hE
        refine go 99 rfl ?_
        refine Safe.hpO (h' := prs s (i + 1)) (hpEq (congrArg (V.int .i64) (w1 (by omega))) rfl) ?_
        refine Safe.callL (rest := []) (sgI 1) (rx_bracket s (i + 1) hs h0) rfl rfl rfl rfl (.refl _) (fun v h' nx' e => ?_)
        obtain ⟨j, hj, rfl, rfl, e⟩ := e
        rcases e with ⟨e1, cs, rfl⟩ | ⟨e1, rfl⟩
        · refine go 99 rfl ?_
          exact ⟨.inr rfl, rfl, rfl, .done rfl ⟨j, hj, rfl, rfl, .inl ⟨hE.trans e1, _, rfl⟩⟩⟩
        · refine go 99 rfl ?_
          exact ⟨.inr rfl, rfl, rfl, .done rfl ⟨j, hj, rfl, rfl, .inr ⟨hE.trans e1, rfl⟩⟩⟩
      · have e2 : ¬ c = 91 := u8neR (d := 91) c2
        refine go 99 rfl ?_
        refine Safe.br rfl (fun c3 => ?_) (fun c3 => ?_)
        · have e3 : c = 46 := u8eqR (d := 46) c3
          subst e3
          rw [if_neg (by decide), if_pos rfl] at hE
          refine go 99 rfl ?_
          refine Safe.callE (rx_where 244 [] rx_any_go.1 rfl (fun c _ => ⟨_, rx_any c⟩)) rfl rfl rfl ?_
          rintro v hv ⟨cs, rfl⟩
          refine go 99 rfl ?_
          exact ⟨.inr rfl, rfl, rfl, .frz 1 rfl rfl (.rel (m2 := [(2, .fptr [nI 0, .bool false, .int .u8 0, .fptr cs 0, .nilslice] 0), (3, .bool true)]) (h2 := prs s (i + 1)) (nx2 := 1) (sgI 1) ⟨⟨fit rfl, fit rfl, trivial⟩, ⟨_, .refl _, subQ (w1 (by omega))⟩, rfl⟩ (.done rfl ⟨i + 1, h0, rfl, rfl, .inl ⟨hE, _, rfl⟩⟩))⟩
        · have e3 : ¬ c = 46 := u8neR (d := 46) c3
          refine go 99 rfl ?_
          refine Safe.br rfl (fun c4 => ?_) (fun c4 => ?_)
          · have e4 : c = 92 := u8eqR (d := 92) c4
            subst e4
            rw [if_neg (by decide), if_neg (by decide), if_pos rfl, escP] at hE
            refine go 99 rfl ?_
            refine Safe.hpO (h' := prs s (i + 1)) (hpEq (congrArg (V.int .i64) (w1 (by omega))) rfl) ?_
            refine Safe.callL (rest := []) (sgI 1) (rx_escape s (i + 1) hs h0) rfl rfl rfl rfl (.refl _) (fun v h' nx' e => ?_)
            obtain ⟨j, hj, rfl, rfl, e⟩ := e
            cases hd : s[i + 1]? with
            | none =>
              rw [hd] at e hE
              dsimp only at e hE
              subst e
              refine go 99 rfl ?_
              exact ⟨.inr rfl, rfl, rfl, .done rfl ⟨j, hj, rfl, rfl, .inr ⟨hE, rfl⟩⟩⟩
            | some d =>
              rw [hd] at e hE
              dsimp only at e hE
              rcases e with ⟨e3, rfl⟩ | ⟨rfl, e3, b, x, cs, rfl, hb, hx⟩
              · rw [e3, if_neg Bool.false_ne_true] at hE
                refine go 99 rfl ?_
                exact ⟨.inr rfl, rfl, rfl, .done rfl ⟨j, hj, rfl, rfl, .inr ⟨hE, rfl⟩⟩⟩
              · rw [e3, if_pos rfl] at hE
                refine go 99 rfl ?_
                exact ⟨.inr rfl, rfl, rfl, .done rfl ⟨_, hj, rfl, rfl, .inl ⟨hE, _, rfl⟩⟩⟩
          · have e4 : ¬ c = 92 := u8neR (d := 92) c4
            have hS := ix_spc c
            refine go 99 rfl ?_
            refine Safe.call (ix_byte spcB c) rfl rfl rfl ?_
            refine go 99 rfl ?_
            refine Safe.br rfl (fun c5 => ?_) (fun c5 => ?_)
            · have e5 : spcI c.toNat = true := hS.symm.trans c5
              rw [if_neg (by rw [e5]; decide), if_neg e3, if_neg e4, if_neg e2, if_neg e1] at hE
              refine go 99 rfl ?_
              exact ⟨.inr rfl, rfl, rfl, .done rfl ⟨i + 1, h0, hpEq (congrArg (V.int .i64) (w1 (by omega))) rfl, rfl, .inr ⟨hE, rfl⟩⟩⟩
            · have e5 : spcI c.toNat = false := hS.symm.trans c5
              rw [if_pos e5] at hE
              refine go 99 rfl ?_
              refine Safe.callE (rx_plainE c.toNat) rfl rfl rfl ?_
              rintro v hv rfl
              refine go 99 rfl ?_
              exact ⟨.inr rfl, rfl, rfl, .done rfl ⟨i + 1, h0, hpEq (congrArg (V.int .i64) (w1 (by omega))) rfl, rfl, .inl ⟨hE, _, rfl⟩⟩⟩
  · have e0 : i = s.length := by omega
    subst e0
    refine Safe.callL (rest := []) (sgI 1) (rx_peekN s) rfl rfl rfl rfl (.refl _) (fun v h' nx' e => ?_)
    obtain ⟨rfl, rfl, rfl⟩ := e
    rw [List.getElem?_eq_none (Nat.le_refl _)] at hE
    refine go 99 rfl ?_
    first | refine Safe.gsK true rfl rfl ?_ | refine Safe.gsK false rfl rfl ?_ | refine Safe.brT rfl rfl ?_ | refine Safe.brF rfl rfl ?_
    refine go 99 rfl ?_
    exact ⟨.inr rfl, rfl, rfl, .done rfl ⟨s.length, hi, rfl, rfl, .inr ⟨hE, rfl⟩⟩⟩
end Go.Proofs.YtmohgegpcfkooaaGreatDoor.Al
end

section
namespace Go.Proofs.YtmohgegpcfkooaaGreatDoor.Al
open Go.Fw
variable [Gl]
set_option maxRecDepth 20000
set_option maxHeartbeats 4000000
def facO (s : By) (f i : Nat) : Option Nat := match raA s f i with
  | none => none
  | some j => some (if posB s j = true then j + 1 else j)
theorem nxt_pos {s : By} {j : Nat} : posB s j = (nxt s j 42 || (nxt s j 43 || nxt s j 63)) := by
  simp only [posB, nxt]
  cases s[j]? with
  | none => rfl
  | some c => simp
theorem nxt_lt {s : By} {j : Nat} {c : UInt8} (h : nxt s j c = true) : j < s.length := by
  have : s[j]? = some c := by simpa [nxt] using h
  exact (List.getElem?_eq_some_iff.1 this).1
theorem rx_factor (s : By) (i : Nat) (hs : s.length ≤ 200) (hi : i ≤ s.length) (f : Nat) (hf : 2 * (s.length - i) + 1 ≤ f) (ih : PAt s i) : TriL Tryz.prog 205 [.ptr 0 0] (prs s i) 1 (TreA s (facO s f i)) := by
  have hE := facO.eq_1 s f i
  refine TriL.of_safe Tryz.func205 rfl Tryz.results205 Tryz.ntmps205 rfl ?_
  refine go 99 rfl ?_
  refine Safe.callL (rest := []) (sgI 1) (ih f hf) rfl rfl rfl rfl (.refl _) (fun v h' nx' e => ?_)
  obtain ⟨j, hj, rfl, rfl, e⟩ := e
  rcases e with ⟨e1, cs, rfl⟩ | ⟨e1, rfl⟩
  · rw [e1] at hE
    dsimp only at hE
    rw [nxt_pos] at hE
    refine go 99 rfl ?_
    first | refine Safe.gsK true rfl rfl ?_ | refine Safe.gsK false rfl rfl ?_ | refine Safe.brT rfl rfl ?_ | refine Safe.brF rfl rfl ?_
    refine go 99 rfl ?_
    refine Safe.callL (rest := []) (sgI 1) (rx_skip s j 42 hs hj) rfl rfl rfl rfl (.refl _) (fun v h' nx' e => ?_)
    obtain ⟨rfl, rfl, rfl⟩ := e
    cases hn : nxt s j 42 with
    | true =>
      have hk := nxt_lt hn
      rw [hn, Bool.true_or, if_pos rfl] at hE
      refine go 99 rfl ?_
      first | refine Safe.gsK true rfl rfl ?_ | refine Safe.gsK false rfl rfl ?_ | refine Safe.brT rfl rfl ?_ | refine Safe.brF rfl rfl ?_
      refine go 99 rfl ?_
      exact ⟨.inr rfl, rfl, rfl, .frz 1 rfl rfl (.frz 2 rfl rfl (.rel (m2 := [(2, .fptr [nI 3, .bool false, .int .u8 0, .nilptr, .fslice [.fptr cs 0] 1] 0), (3, .bool true)]) (h2 := prs s (j + 1)) (nx2 := 1) (sgI 1) ⟨⟨fit rfl, fit rfl, trivial⟩, ⟨_, .refl _, subK rfl rfl subN⟩, rfl⟩ (.done rfl ⟨j + 1, hk, rfl, rfl, .inl ⟨hE, _, rfl⟩⟩)))⟩
    | false =>
      rw [hn, Bool.false_or] at hE
      refine go 99 rfl ?_
      first | refine Safe.gsK true rfl rfl ?_ | refine Safe.gsK false rfl rfl ?_ | refine Safe.brT rfl rfl ?_ | refine Safe.brF rfl rfl ?_
      refine go 99 rfl ?_
      refine Safe.callL (rest := []) (sgI 1) (rx_skip s j 43 hs hj) rfl rfl rfl rfl (.refl _) (fun v h' nx' e => ?_)
      obtain ⟨rfl, rfl, rfl⟩ := e
      cases hn2 : nxt s j 43 with
      | true =>
        have hk := nxt_lt hn2
        rw [hn2, Bool.true_or, if_pos rfl] at hE
        refine go 99 rfl ?_
        first | refine Safe.gsK true rfl rfl ?_ | refine Safe.gsK false rfl rfl ?_ | refine Safe.brT rfl rfl ?_ | refine Safe.brF rfl rfl ?_
        refine go 99 rfl ?_
        exact ⟨.inr rfl, rfl, rfl, .frz 1 rfl rfl (.frz 2 rfl rfl (.rel (m2 := [(2, .fptr [nI 4, .bool false, .int .u8 0, .nilptr, .fslice [.fptr cs 0] 1] 0), (3, .bool true)]) (h2 := prs s (j + 1)) (nx2 := 1) (sgI 1) ⟨⟨fit rfl, fit rfl, trivial⟩, ⟨_, .refl _, subK rfl rfl subN⟩, rfl⟩ (.done rfl ⟨j + 1, hk, rfl, rfl, .inl ⟨hE, _, rfl⟩⟩)))⟩
      | false =>
        rw [hn2, Bool.false_or] at hE
        refine go 99 rfl ?_
        first | refine Safe.gsK true rfl rfl ?_ | refine Safe.gsK false rfl rfl ?_ | refine Safe.brT rfl rfl ?_ | refine Safe.brF rfl rfl ?_
        refine go 99 rfl ?_
        refine Safe.callL (rest := []) (sgI 1) (rx_skip s j 63 hs hj) rfl rfl rfl rfl (.refl _) (fun v h' nx' e => ?_)
        obtain ⟨rfl, rfl, rfl⟩ := e
        cases hn3 : nxt s j 63 with
        | true =>
          have hk := nxt_lt hn3
          rw [hn3, if_pos rfl] at hE
          refine go 99 rfl ?_
          first | refine Safe.gsK true rfl rfl ?_ | refine Safe.gsK false rfl rfl ?_ | refine Safe.brT rfl rfl ?_ | refine Safe.brF rfl rfl ?_
          refine go 99 rfl ?_
          exact ⟨.inr rfl, rfl, rfl, .frz 1 rfl rfl (.frz 2 rfl rfl (.rel (m2 := [(2, .fptr [nI 5, .bool false, .int .u8 0, .nilptr, .fslice [.fptr cs 0] 1] 0), (3, .bool true)]) (h2 := prs s (j + 1)) (nx2 := 1) (sgI 1) ⟨⟨fit rfl, fit rfl, trivial⟩, ⟨_, .refl _, subK rfl rfl subN⟩, rfl⟩ (.done rfl ⟨j + 1, hk, rfl, rfl, .inl ⟨hE, _, rfl⟩⟩)))⟩
        | false =>
          rw [hn3, if_neg Bool.false_ne_true] at hE
          refine go 99 rfl ?_
          first | refine Safe.gsK true rfl rfl ?_ | refine Safe.gsK false rfl rfl ?_ | refine Safe.brT rfl rfl ?_ | refine Safe.brF rfl rfl ?_
          refine go 99 rfl ?_
          exact ⟨.inr rfl, rfl, rfl, .done rfl ⟨j, hj, rfl, rfl, .inl ⟨hE, _, rfl⟩⟩⟩
  · rw [e1] at hE
    dsimp only at hE
    refine go 99 rfl ?_
    first | refine Safe.gsK true rfl rfl ?_ | refine Safe.gsK false rfl rfl ?_ | refine Safe.brT rfl rfl ?_ | refine Safe.brF rfl rfl ?_
    refine go 99 rfl ?_
    exact ⟨.inr rfl, rfl, rfl, .done rfl ⟨j, hj, rfl, rfl, .inr ⟨hE, rfl⟩⟩⟩
theorem facO_le {s : By} {f i j : Nat} (h : facO s f i = some j) : i < j ∧ j ≤ s.length := by
  unfold facO at h
  split at h
  · cases h
  · rename_i k hk
    have := raA_le hk
    injection h with h
    split at h
    · rename_i hp; have := posB_lt hp; omega
    · omega
def stpB (s : By) (j : Nat) : Prop := s[j]? = none ∨ s[j]? = some 124 ∨ s[j]? = some 41
theorem raE_fac {s : By} {f j : Nat} (h : ¬ stpB s j) : raE s (f + 1) j = match facO s f j with
    | none => none
    | some k => raE s f k := by
  rw [raE.eq_2]
  cases hc : s[j]? with
  | none => exact absurd (.inl hc) h
  | some c =>
    dsimp only
    rw [if_neg (fun e => h (.inr (.inr (by rw [hc, e])))), if_neg (fun e => h (.inr (.inl (by rw [hc, e]))))]
    unfold facO
    cases raA s f j <;> rfl
def SeqA (s : By) (f i : Nat) (v : V) (h : Hp) (nx : Nat) : Prop := ∃ j, j ≤ s.length ∧ h = prs s j ∧ nx = 1 ∧ ((i ≤ j ∧ (∃ f', 2 * (s.length - j) + 2 ≤ f' ∧ raE s f i = raE s f' j) ∧ stpB s j ∧ ∃ cs, v = .tup [.fptr cs 0, .bool true]) ∨ (raE s f i = none ∧ v = .tup [.nilptr, .bool false]))
abbrev sqH (s : By) (kd : Nat) (j : Nat) (cs : List V) (G : Option Nat) : Hp := [(0, .cells 183 [.str s, nI j] 2), (1, .cells 229 ([nI kd, .bool false, .int .u8 0, .nilptr] ++ [gV 2 cs.length G]) 5)] ++ gH 144 1 2 cs G
end Go.Proofs.YtmohgegpcfkooaaGreatDoor.Al
end

section
namespace Go.Proofs.YtmohgegpcfkooaaGreatDoor.Al
open Go.Fw
variable [Gl]
set_option maxRecDepth 20000
set_option maxHeartbeats 4000000
theorem fin_sq {rs : List ResultVar} {Φ : V → Hp → Nat → Prop} {m : Fl} {h : Hp} {nx : Nat} {s : By} {kd j : Nat} {cs : List V} {G : Option Nat} (hrs : rs = [.tmp 2, .tmp 3]) (h2 : lk m 2 = some (.ptr 1 0)) (h3 : lk m 3 = some (.bool true)) (hh : h = sqH s kd j cs G) (hd : cs.all dryV1 = true) (hq : ∀ X, Φ (.tup [.fptr X 0, .bool true]) (prs s j) 1) : FinL 1 Tryz.prog rs Φ m h nx := by
  subst hrs hh
  cases G with
  | none =>
    refine .frz 1 rfl rfl (.rel (m2 := [(2, .fptr [nI kd, .bool false, .int .u8 0, .nilptr, .nilslice] 0), (3, .bool true)]) (h2 := prs s j) (nx2 := 1) (sgI 1) ⟨⟨fit ?_, fit ?_, trivial⟩, ⟨_, .refl _, subK rfl rfl subN⟩, rfl⟩ (.done rfl (hq _)))
    · rw [lk_frzM, h2]; rfl
    · rw [lk_frzM, h3]; rfl
  | some N =>
    refine .frz 2 (cs := cs) (nn := N * 1) (T := 144) rfl hd (.frz 1 (cs := [nI kd, .bool false, .int .u8 0, .nilptr, .fslice (cs.drop 0) cs.length]) rfl rfl (.rel (m2 := [(2, .fptr [nI kd, .bool false, .int .u8 0, .nilptr, .fslice (cs.drop 0) cs.length] 0), (3, .bool true)]) (h2 := prs s j) (nx2 := 1) (sgI 1) ⟨⟨fit ?_, fit ?_, trivial⟩, ⟨_, .refl _, subK rfl rfl subN⟩, rfl⟩ (.done rfl (hq _))))
    · rw [lk_frzM, lk_frzM, h2]; rfl
    · rw [lk_frzM, lk_frzM, h3]; rfl
theorem sub_sq {s : By} {kd j k2 : Nat} {cs : List V} {G : Option Nat} (hd : cs.all dryV1 = true) {sg : Sg} (h0 : sgF sg 0 = some 0) (h1 : sgF sg 1 = some 1) (h2 : sgF sg 2 = some k2) : (relH sg (sqH s kd j cs G)).Sublist ([(0, .cells 183 [.str s, nI j] 2), (1, .cells 229 ([nI kd, .bool false, .int .u8 0, .nilptr] ++ [gV k2 cs.length G]) 5)] ++ gH 144 1 k2 cs G) := by
  refine subK h0 rfl (subK h1 ?_ ?_)
  · rw [renO, renL_append]
    simp only [renL, gV_ren h2]; rfl
  · have := subGH (G := G) (e := 144) (kk := 1) (r := []) (h3 := []) h2 hd (List.Sublist.refl _)
    simpa using this
theorem rx_sequence (s : By) (i : Nat) (hs : s.length ≤ 200) (hi : i ≤ s.length) (f0 : Nat) (hf0 : 2 * (s.length - i) + 2 ≤ f0) (ih : ∀ k, i ≤ k → k ≤ s.length → PAt s k) : TriL Tryz.prog 190 [.ptr 0 0] (prs s i) 1 (SeqA s f0 i) := by
  refine TriL.of_safe Tryz.func190 rfl Tryz.results190 Tryz.ntmps190 rfl ?_
  refine go 99 rfl ?_
  refine Safe.loop (α := (Nat × List V × Option Nat)) (fun a => [(0, .ptr 0 0), (4, .ptr 1 0)]) (fun a => sqH s 1 a.1 a.2.1 a.2.2) 3 (fun a => s.length - a.1) (fun a => i ≤ a.1 ∧ a.1 ≤ s.length ∧ (∃ f, 2 * (s.length - a.1) + 2 ≤ f ∧ raE s f0 i = raE s f a.1) ∧ a.2.1.all dryV1 = true ∧ (a.2.2 = none → a.2.1 = [] ∧ a.2.1.length = 0) ∧ a.2.1.length ≤ a.1) (i, [], none) (sgI 3) ⟨⟨fit rfl, fit rfl, trivial⟩, ⟨_, .swap _ _ _, sub_sq rfl rfl rfl rfl⟩, rfl⟩ ⟨Nat.le_refl _, hi, ⟨f0, hf0, rfl⟩, rfl, fun _ => ⟨rfl, rfl⟩, Nat.zero_le _⟩ ?_
  rintro ⟨j, cs, G⟩ ⟨hj1, hj2, ⟨f, hf, hE⟩, hcs, hG, hn⟩
  dsimp only at hj1 hj2 hf hE hcs hG hn
  have hfin : stpB s j → ∀ X, SeqA s f0 i (.tup [.fptr X 0, .bool true]) (prs s j) 1 := fun h X => ⟨j, hj2, rfl, rfl, .inl ⟨hj1, ⟨f, hf, hE⟩, h, X, rfl⟩⟩
  match f, hf, hE with
  | 0, hf, _ => exact absurd hf (by omega)
  | f + 1, hf, hE =>
  refine go 99 rfl ?_
  rcases Nat.lt_or_ge j s.length with h0 | h0
  · refine Safe.callL (rest := (1, .cells 229 ([nI 1, .bool false, .int .u8 0, .nilptr] ++ [gV 2 cs.length G]) 5) :: gH 144 1 2 cs G) (sgI 1) (rx_peekS s j h0) rfl rfl rfl rfl (.refl _) (fun v h' nx' e => ?_)
    obtain ⟨rfl, rfl, rfl⟩ := e
    have hg := List.getElem?_eq_getElem h0
    generalize hc : s[j] = c at *
    refine go 99 rfl ?_
    first | refine Safe.gsK true rfl rfl ?_ | refine Safe.gsK false rfl rfl ?_ | refine Safe.brT rfl rfl ?_ | refine Safe.brF rfl rfl ?_
    refine go 99 rfl ?_
    refine Safe.gs rfl (fun c1 => ?_) (fun c1 => ?_)
    · have e1 : c = 124 := u8eqR (d := 124) c1
      refine go 99 rfl ?_
      exact ⟨.inr rfl, rfl, rfl, fin_sq rfl rfl rfl rfl hcs (hfin (.inr (.inl (by rw [hg, e1]))))⟩
    · have e1 : c ≠ 124 := u8neR (d := 124) c1
      refine go 99 rfl ?_
      refine Safe.br rfl (fun c2 => ?_) (fun c2 => ?_)
      · have e2 : c = 41 := u8eqR (d := 41) c2
        refine go 99 rfl ?_
        exact ⟨.inr rfl, rfl, rfl, fin_sq rfl rfl rfl rfl hcs (hfin (.inr (.inr (by rw [hg, e2]))))⟩
      · have e2 : c ≠ 41 := u8neR (d := 41) c2
        have hns : ¬ stpB s j := fun h => by
          rcases h with h | h | h <;> rw [hg] at h
          · cases h
          · exact e1 (Option.some.inj h)
          · exact e2 (Option.some.inj h)
        rw [raE_fac hns] at hE
        refine go 99 rfl ?_
        refine Safe.callL (rest := (1, .cells 229 ([nI 1, .bool false, .int .u8 0, .nilptr] ++ [gV 2 cs.length G]) 5) :: gH 144 1 2 cs G) (sgI 1) (rx_factor s j hs hj2 f (by omega) (ih j hj1 hj2)) rfl rfl rfl rfl (.refl _) (fun v h' nx' e => ?_)
        obtain ⟨k, hk, rfl, rfl, e⟩ := e
        rcases e with ⟨e3, x, rfl⟩ | ⟨e3, rfl⟩
        · rw [e3] at hE
          dsimp only at hE
          have hjk := facO_le e3
          refine go 99 rfl ?_
          first | refine Safe.gsK true rfl rfl ?_ | refine Safe.gsK false rfl rfl ?_ | refine Safe.brT rfl rfl ?_ | refine Safe.brF rfl rfl ?_
          refine go 99 rfl ?_
          refine Safe.appH (k := 2) (G := G) (us := [.fptr x 0]) (mm := 1) (len := cs.length) (h1 := [(3, .cells 144 [.fptr x 0] 1), (0, .cells 183 [.str s, nI k] 2), (1, .cells 229 ([nI 1, .bool false, .int .u8 0, .nilptr] ++ [gV 2 cs.length G]) 5)]) (h2 := []) rfl (by simp [Hp.ns]) hG (by rw [List.append_nil]; rfl) rfl rfl rfl rfl rfl (by decide) rfl (Nat.mul_one _).symm rfl rfl (by omega) (fun N' hN' => ?_)
          refine Safe.one rfl rfl ?_
          refine Safe.one rfl rfl ?_
          refine Safe.stLast (cs := [nI 1, .bool false, .int .u8 0, .nilptr]) (v0 := gV 2 cs.length G) rfl rfl rfl rfl rfl rfl rfl rfl rfl ?_
          refine go 99 rfl ?_
          have hd2 : (cs ++ [V.fptr x 0]).all dryV1 = true := by rw [List.all_append, hcs]; rfl
          have hl2 : (cs ++ [V.fptr x 0]).length = cs.length + 1 := by simp
          have hsub := sub_sq (s := s) (kd := 1) (j := k) (G := some N') hd2 (sg := [(0, 0), (1, 1), (2, 4)]) (k2 := 4) rfl rfl rfl
          simp only [hl2, gV, gH] at hsub
          exact ⟨[(0, 0), (1, 1), (2, 4)], (k, cs ++ [.fptr x 0], some N'), ⟨by dsimp only; omega, hk, ⟨f, by dsimp only; omega, hE⟩, hd2, (fun h => by cases h), (by rw [hl2]; omega)⟩, (by dsimp only; omega), rfl, rfl, ⟨fit rfl, fit rfl, trivial⟩, ⟨_, List.perm_append_comm (l₁ := [(3, AObj.cells 144 [.fptr x 0] 1), (0, .cells 183 [.str s, nI k] 2), (1, .cells 229 ([nI 1, .bool false, .int .u8 0, .nilptr] ++ [.slice 4 0 (cs.length + 1) N']) 5)]) (l₂ := [(4, .cells 144 (cs ++ [.fptr x 0]) (N' * 1))]), subD hsub⟩, rfl⟩
        · rw [e3] at hE
          dsimp only at hE
          refine go 99 rfl ?_
          first | refine Safe.gsK true rfl rfl ?_ | refine Safe.gsK false rfl rfl ?_ | refine Safe.brT rfl rfl ?_ | refine Safe.brF rfl rfl ?_
          refine go 99 rfl ?_
          exact ⟨.inr rfl, rfl, rfl, .rel (m2 := [(2, .nilptr), (3, .bool false)]) (h2 := prs s k) (nx2 := 1) (sgI 1) ⟨⟨fit rfl, fit rfl, trivial⟩, ⟨_, .refl _, subK rfl rfl subN⟩, rfl⟩ (.done rfl ⟨k, hk, rfl, rfl, .inr ⟨hE, rfl⟩⟩)⟩
  · have e0 : j = s.length := by omega
    subst e0
    refine Safe.callL (rest := (1, .cells 229 ([nI 1, .bool false, .int .u8 0, .nilptr] ++ [gV 2 cs.length G]) 5) :: gH 144 1 2 cs G) (sgI 1) (rx_peekN s) rfl rfl rfl rfl (.refl _) (fun v h' nx' e => ?_)
    obtain ⟨rfl, rfl, rfl⟩ := e
    refine go 99 rfl ?_
    first | refine Safe.gsK true rfl rfl ?_ | refine Safe.gsK false rfl rfl ?_ | refine Safe.brT rfl rfl ?_ | refine Safe.brF rfl rfl ?_
    refine go 99 rfl ?_
    exact ⟨.inr rfl, rfl, rfl, fin_sq rfl rfl rfl rfl hcs (hfin (.inl (List.getElem?_eq_none (Nat.le_refl _))))⟩
end Go.Proofs.YtmohgegpcfkooaaGreatDoor.Al
end

section
namespace Go.Proofs.YtmohgegpcfkooaaGreatDoor.Al
open Go.Fw
variable [Gl]
set_option maxRecDepth 20000
set_option maxHeartbeats 4000000
theorem perm_43 {a b c d : Nat × AObj} : (d :: ([a, b] ++ [c])).Perm [a, b, c, d] := List.perm_append_comm (l₁ := [d]) (l₂ := [a, b, c])
theorem rx_choice (s : By) (i : Nat) (hs : s.length ≤ 200) (hi : i ≤ s.length) (ih : ∀ k, i ≤ k → k ≤ s.length → PAt s k) : PE s i := by
  intro f0 hf0
  refine TriL.of_safe Tryz.func162 rfl Tryz.results162 Tryz.ntmps162 rfl ?_
  refine go 99 rfl ?_
  refine Safe.loop (α := (Nat × List V × Option Nat)) (fun a => [(0, .ptr 0 0), (4, .ptr 1 0)]) (fun a => sqH s 2 a.1 a.2.1 a.2.2) 3 (fun a => s.length - a.1) (fun a => i ≤ a.1 ∧ a.1 ≤ s.length ∧ (∃ f, 2 * (s.length - a.1) + 2 ≤ f ∧ raE s f0 i = raE s f a.1) ∧ a.2.1.all dryV1 = true ∧ (a.2.2 = none → a.2.1 = [] ∧ a.2.1.length = 0) ∧ a.2.1.length ≤ a.1) (i, [], none) (sgI 3) ⟨⟨fit rfl, fit rfl, trivial⟩, ⟨_, .swap _ _ _, sub_sq rfl rfl rfl rfl⟩, rfl⟩ ⟨Nat.le_refl _, hi, ⟨f0, hf0, rfl⟩, rfl, fun _ => ⟨rfl, rfl⟩, Nat.zero_le _⟩ ?_
  rintro ⟨j, cs, G⟩ ⟨hj1, hj2, ⟨f, hf, hE⟩, hcs, hG, hn⟩
  dsimp only at hj1 hj2 hf hE hcs hG hn
  refine go 99 rfl ?_
  refine Safe.callL (rest := (1, .cells 229 ([nI 2, .bool false, .int .u8 0, .nilptr] ++ [gV 2 cs.length G]) 5) :: gH 144 1 2 cs G) (sgI 1) (rx_sequence s j hs hj2 f hf (fun k h1 h2 => ih k (by omega) h2)) rfl rfl rfl rfl (.refl _) (fun v h' nx' e => ?_)
  obtain ⟨k, hk, rfl, rfl, e⟩ := e
  rcases e with ⟨hjk, ⟨f', hf', hE'⟩, hst, x, rfl⟩ | ⟨e3, rfl⟩
  · rw [hE'] at hE
    refine go 99 rfl ?_
    first | refine Safe.gsK true rfl rfl ?_ | refine Safe.gsK false rfl rfl ?_ | refine Safe.brT rfl rfl ?_ | refine Safe.brF rfl rfl ?_
    refine go 99 rfl ?_
    refine Safe.appH (k := 2) (G := G) (us := [.fptr x 0]) (mm := 1) (len := cs.length) (h1 := [(3, .cells 144 [.fptr x 0] 1), (0, .cells 183 [.str s, nI k] 2), (1, .cells 229 ([nI 2, .bool false, .int .u8 0, .nilptr] ++ [gV 2 cs.length G]) 5)]) (h2 := []) rfl (by simp [Hp.ns]) hG (by rw [List.append_nil]; rfl) rfl rfl rfl rfl rfl (by decide) rfl (Nat.mul_one _).symm rfl rfl (by omega) (fun N' hN' => ?_)
    refine Safe.one rfl rfl ?_
    refine Safe.one rfl rfl ?_
    refine Safe.stLast (cs := [nI 2, .bool false, .int .u8 0, .nilptr]) (v0 := gV 2 cs.length G) rfl rfl rfl rfl rfl rfl rfl rfl rfl ?_
    refine go 99 rfl ?_
    have hd2 : (cs ++ [V.fptr x 0]).all dryV1 = true := by rw [List.all_append, hcs]; rfl
    have hl2 : (cs ++ [V.fptr x 0]).length = cs.length + 1 := by simp
    refine Safe.callL (rest := [(1, .cells 229 ([nI 2, V.bool false, V.int .u8 0, V.nilptr] ++ [V.slice 4 0 (cs.length + 1) N']) 5), (4, .cells 144 (cs ++ [V.fptr x 0]) (N' * 1)), (3, .cells 144 [V.fptr x 0] 1)]) (sgI 1) (rx_skip s k 124 hs hk) rfl rfl rfl rfl (List.perm_append_comm (l₁ := [(0, AObj.cells 183 [V.str s, nI k] 2), (1, AObj.cells 229 ([nI 2, V.bool false, V.int .u8 0, V.nilptr] ++ [V.slice 4 0 (cs.length + 1) N']) 5)]) (l₂ := [(4, AObj.cells 144 (cs ++ [V.fptr x 0]) (N' * 1)), (3, AObj.cells 144 [V.fptr x 0] 1)])) (fun v h' nx' e => ?_)
    obtain ⟨rfl, rfl, rfl⟩ := e
    have hsub : ∀ k', (relH [(0, 0), (1, 1), (2, 4)] (sqH s 2 k' (cs ++ [.fptr x 0]) (some N'))).Sublist ([(0, .cells 183 [.str s, nI k'] 2), (1, .cells 229 ([nI 2, .bool false, .int .u8 0, .nilptr] ++ [.slice 4 0 (cs.length + 1) N']) 5)] ++ [(4, .cells 144 (cs ++ [.fptr x 0]) (N' * 1))]) := fun k' => by
      have := sub_sq (s := s) (kd := 2) (j := k') (G := some N') hd2 (sg := [(0, 0), (1, 1), (2, 4)]) (k2 := 4) rfl rfl rfl
      simp only [hl2, gV, gH] at this
      exact this
    match f', hf', hE with
    | 0, hf', _ => exact absurd hf' (by omega)
    | f' + 1, hf', hE =>
    cases hn2 : nxt s k 124 with
    | true =>
      have hk3 : s[k]? = some 124 := by simpa [nxt] using hn2
      obtain ⟨hk4, hk5⟩ := List.getElem?_eq_some_iff.1 hk3
      rw [raE.eq_2, hk3] at hE
      dsimp only at hE
      rw [if_neg (by decide), if_pos rfl] at hE
      refine go 99 rfl ?_
      first | refine Safe.gsK true rfl rfl ?_ | refine Safe.gsK false rfl rfl ?_ | refine Safe.brT rfl rfl ?_ | refine Safe.brF rfl rfl ?_
      refine go 99 rfl ?_
      exact ⟨[(0, 0), (1, 1), (2, 4)], (k + 1, cs ++ [.fptr x 0], some N'), ⟨by dsimp only; omega, hk4, ⟨f', by dsimp only; omega, hE⟩, hd2, (fun h => by cases h), (by rw [hl2]; omega)⟩, (by dsimp only; omega), rfl, rfl, ⟨fit rfl, fit rfl, trivial⟩, ⟨_, perm_43, subD (hsub (k + 1))⟩, rfl⟩
    | false =>
      have hk3 : ¬ s[k]? = some 124 := by simpa [nxt] using hn2
      have hE2 : raE s (f' + 1) k = some k := by
        rw [raE.eq_2]
        rcases hst with h | h | h
        · rw [h]
        · exact absurd h hk3
        · rw [h]; rfl
      rw [hE2] at hE
      refine go 99 rfl ?_
      first | refine Safe.gsK true rfl rfl ?_ | refine Safe.gsK false rfl rfl ?_ | refine Safe.brT rfl rfl ?_ | refine Safe.brF rfl rfl ?_
      refine go 99 rfl ?_
      refine Safe.br rfl (fun b => ?_) (fun b => ?_)
      · have b1 : cs = [] := by have := of_decide_eq_true (p := ((cs.length + 1 : Nat) : Int) = 1) (by simpa using b); exact List.length_eq_zero_iff.1 (by omega)
        subst b1
        refine go 99 rfl ?_
        refine Safe.idxO (i := 0) (Nat.zero_lt_one) rfl rfl rfl ?_
        refine go 99 rfl ?_
        exact ⟨.inr rfl, rfl, rfl, .rel (m2 := [(2, .fptr x 0), (3, .bool true)]) (h2 := prs s k) (nx2 := 1) (sgI 1) ⟨⟨fit rfl, fit rfl, trivial⟩, ⟨_, .refl _, subK rfl rfl subN⟩, rfl⟩ (.done rfl ⟨k, hk, rfl, rfl, .inl ⟨hE, _, rfl⟩⟩)⟩
      · refine go 99 rfl ?_
        exact ⟨.inr rfl, rfl, rfl, .rel (m2 := [(2, .ptr 1 0), (3, .bool true)]) (h2 := sqH s 2 k (cs ++ [.fptr x 0]) (some N')) (nx2 := 3) [(0, 0), (1, 1), (2, 4)] ⟨⟨fit rfl, fit rfl, trivial⟩, ⟨_, perm_43, subD (hsub k)⟩, rfl⟩ (fin_sq rfl rfl rfl rfl hd2 (fun X => ⟨k, hk, rfl, rfl, .inl ⟨hE, X, rfl⟩⟩))⟩
  · rw [e3] at hE
    refine go 99 rfl ?_
    first | refine Safe.gsK true rfl rfl ?_ | refine Safe.gsK false rfl rfl ?_ | refine Safe.brT rfl rfl ?_ | refine Safe.brF rfl rfl ?_
    refine go 99 rfl ?_
    exact ⟨.inr rfl, rfl, rfl, .rel (m2 := [(2, .nilptr), (3, .bool false)]) (h2 := prs s k) (nx2 := 1) (sgI 1) ⟨⟨fit rfl, fit rfl, trivial⟩, ⟨_, .refl _, subK rfl rfl subN⟩, rfl⟩ (.done rfl ⟨k, hk, rfl, rfl, .inr ⟨hE, rfl⟩⟩)⟩
end Go.Proofs.YtmohgegpcfkooaaGreatDoor.Al
end
