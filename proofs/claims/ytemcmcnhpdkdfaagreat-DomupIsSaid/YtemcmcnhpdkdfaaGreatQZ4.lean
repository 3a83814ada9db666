/- What the claim uses of: Shelf Hgr Hidoms Hup PdomSane Hchain -/
import Derived.Shelf.Spec.SlicesInsertGrow
import Derived.Shelf.Spec.SlicesInsert
import Derived.Shelf.Small.Bits
import Derived.Shelf.Small.Wraps
import Derived.Shelf.Strconv.Itoa0
import Derived.Shelf.Sort.Plain
import Derived.Shelf.Bits.Mul64
import Derived.Shelf.Slices.Turned
import Derived.Shelf.Slices.Reverse
import Derived.Shelf.Slices.Equal
import Derived.Ground.Names2Prog
import Derived.Shelf.Slices.Clone
import Derived.Shelf.Slices.CompactI
import Derived.Shelf.Slices.SearchI
import Derived.Shelf.Slices.Cells
import Derived.Shelf.Slices.In.SortNone
import Derived.Shelf.Slices.Empties
import Derived.Shelf.Slices.Empties2
import Derived.Ground.SlgnProg
import Derived.Shelf.SlicesE.Index
import Derived.Shelf.SlicesE.Reverse
import Derived.Shelf.SlicesE.Equal
import Derived.Shelf.SlicesE.Compact
import Derived.Shelf.SlicesE.Clone
import Derived.Ground.SlgfProg
import Derived.Shelf.SlicesE.IndexFunc
import Derived.Shelf.SlicesE.DeleteFunc
import Derived.Test.YtemcmcnhpdkdfaaGreatProg
import Derived.OpenShut
import Derived.Deep.DeepMust
import Derived.Lib.OwnBridge
import Derived.Sort.OwnSortedInts
import Derived.WalkSmall
import Derived.Maps.AppendAt
import Derived.WalkMore
import Derived.OneCell
import Derived.Deep.QuietTactic
import Derived.BigQuiet
import Derived.Laws.CopyOwn
import Derived.Deep.RegionLaw
import Derived.Laws.OwnMore
import Derived.Deep.CutRange
import Derived.Deep.RegionHeld3
import Derived.RangeFuncNested
import Derived.RangeFuncBound
import Derived.RangeFuncCalls
import Derived.RangeFuncLeaves
import Derived.Shelf.Abstract
import Derived.Shelf.RegionOpen
import Derived.WalkKit
import Derived.OwnWalkIn
import Derived.TacticsInMore
import Derived.LoopNIn
import Derived.LoopIn
import Derived.RangeFuncWrites
import Derived.Test.YtemcmcnhpdkdfaaGreatQZ3
namespace Go.Proofs
open Go.Shelf
def Tryz.lays189_ren : Go.Shelf.Ren := ⟨fun | 189 => 61 | 125 => 84 | 257 => 83 | 128 => 102 | 129 => 103 | 294 => 94 | 295 => 95 | 296 => 96 | 297 => 97 | 298 => 98 | 299 => 99 | 216 => 68 | 300 => 100 | 301 => 101 | 328 => 104 | 329 => 105 | 330 => 106 | 331 => 107 | 332 => 108 | 215 => 87 | 343 => 109 | n => n, fun | 28 => 23 | 3 => 3 | 46 => 81 | 0 => 0 | 51 => 101 | 53 => 104 | 4 => 4 | 183 => 110 | 182 => 109 | 131 => 62 | 5 => 5 | 9 => 9 | 218 => 116 | 222 => 120 | 228 => 122 | 229 => 123 | n => n, fun | n => n⟩
theorem Tryz.lays189 : Go.Proofs.Lays.n189 Tryz.prog Tryz.lays189_ren := {
 mixed := by kernel_rfl
 f125 := Tryz.func84.trans (congrArg some (by kernel_rfl))
 f128 := Tryz.func102.trans (congrArg some (by kernel_rfl))
 f129 := Tryz.func103.trans (congrArg some (by kernel_rfl))
 f189 := Tryz.func61.trans (congrArg some (by kernel_rfl))
 f215 := Tryz.func87.trans (congrArg some (by kernel_rfl))
 f216 := Tryz.func68.trans (congrArg some (by kernel_rfl))
 f257 := Tryz.func83.trans (congrArg some (by kernel_rfl))
 f294 := Tryz.func94.trans (congrArg some (by kernel_rfl))
 f295 := Tryz.func95.trans (congrArg some (by kernel_rfl))
 f296 := Tryz.func96.trans (congrArg some (by kernel_rfl))
 f297 := Tryz.func97.trans (congrArg some (by kernel_rfl))
 f298 := Tryz.func98.trans (congrArg some (by kernel_rfl))
 f299 := Tryz.func99.trans (congrArg some (by kernel_rfl))
 f300 := Tryz.func100.trans (congrArg some (by kernel_rfl))
 f301 := Tryz.func101.trans (congrArg some (by kernel_rfl))
 f328 := Tryz.func104.trans (congrArg some (by kernel_rfl))
 f329 := Tryz.func105.trans (congrArg some (by kernel_rfl))
 f330 := Tryz.func106.trans (congrArg some (by kernel_rfl))
 f331 := Tryz.func107.trans (congrArg some (by kernel_rfl))
 f332 := Tryz.func108.trans (congrArg some (by kernel_rfl))
 f343 := Tryz.func109.trans (congrArg some (by kernel_rfl))
 t0 := Tryz.underlying0
 a0 := Tryz.isAgg0
 z0 := Tryz.sizeOf0
 v0 := Tryz.zeroValue0
 t3 := Tryz.underlying3
 a3 := Tryz.isAgg3
 z3 := Tryz.sizeOf3
 v3 := Tryz.zeroValue3
 t4 := Tryz.underlying4
 a4 := Tryz.isAgg4
 z4 := Tryz.sizeOf4
 v4 := Tryz.zeroValue4
 t5 := Tryz.underlying5
 a5 := Tryz.isAgg5
 z5 := Tryz.sizeOf5
 v5 := Tryz.zeroValue5
 t9 := Tryz.underlying9
 a9 := Tryz.isAgg9
 z9 := Tryz.sizeOf9
 v9 := Tryz.zeroValue9
 t28 := Tryz.underlying23
 a28 := Tryz.isAgg23
 z28 := Tryz.sizeOf23
 v28 := Tryz.zeroValue23
 t46 := Tryz.underlying81
 a46 := Tryz.isAgg81
 z46 := Tryz.sizeOf81
 v46 := Tryz.zeroValue81
 t51 := Tryz.underlying101
 a51 := Tryz.isAgg101
 z51 := Tryz.sizeOf101
 v51 := Tryz.zeroValue101
 t53 := Tryz.underlying104
 a53 := Tryz.isAgg104
 z53 := Tryz.sizeOf104
 v53 := Tryz.zeroValue104
 t131 := Tryz.underlying62
 a131 := Tryz.isAgg62
 z131 := Tryz.sizeOf62
 v131 := Tryz.zeroValue62
 t182 := Tryz.underlying109
 a182 := Tryz.isAgg109
 z182 := Tryz.sizeOf109
 v182 := Tryz.zeroValue109
 t183 := Tryz.underlying110
 a183 := Tryz.isAgg110
 z183 := Tryz.sizeOf110
 v183 := Tryz.zeroValue110
 t218 := Tryz.underlying116
 a218 := Tryz.isAgg116
 z218 := Tryz.sizeOf116
 v218 := Tryz.zeroValue116
 t222 := Tryz.underlying120
 a222 := Tryz.isAgg120
 z222 := Tryz.sizeOf120
 v222 := Tryz.zeroValue120
 t228 := Tryz.underlying122
 a228 := Tryz.isAgg122
 z228 := Tryz.sizeOf122
 v228 := Tryz.zeroValue122
 t229 := Tryz.underlying123
 a229 := Tryz.isAgg123
 z229 := Tryz.sizeOf123
 v229 := Tryz.zeroValue123 }
open Go.Sort Go.RowKit in
theorem Tryz.slices_Sort_int (blk off cap : Nat) (zs : List Int) (w : World) (hH : Holds (Value.int .i64) w blk off zs.toArray) (hblk : blk < w.heap.size) (hsz : zs.length < 4611686018427387904) :
  Calls Tryz.prog 61 #[.slice (some ⟨blk, off, none⟩) zs.length cap] w fun e w' =>
   e = .returned (.tuple #[]) ∧ ∃ n os, w' = grow (putRow (Value.int .i64) (Sort.ahead w n) blk off (zs.mergeSort fun x y => decide (x ≤ y)).toArray) os := Any.slices_Sort_int Tryz.lays189 blk off cap zs w hH hblk hsz
def Tryz.lays264_ren : Go.Shelf.Ren := ⟨fun | 264 => 90 | n => n, fun | 53 => 104 | 46 => 81 | n => n, fun | n => n⟩
theorem Tryz.lays264 : Go.Proofs.Lays.n264 Tryz.prog Tryz.lays264_ren := {
 mixed := by kernel_rfl
 f264 := Tryz.func90.trans (congrArg some (by kernel_rfl))
 t46 := Tryz.underlying81
 a46 := Tryz.isAgg81
 z46 := Tryz.sizeOf81
 v46 := Tryz.zeroValue81
 t53 := Tryz.underlying104
 a53 := Tryz.isAgg104
 z53 := Tryz.sizeOf104
 v53 := Tryz.zeroValue104 }
open Go.RowKit Go.Lib in
theorem Tryz.bits_Mul64 (x y : Nat) (hx : x < 18446744073709551616) (hy : y < 18446744073709551616) (w : World) :
  Calls Tryz.prog 90 #[.int .u64 x, .int .u64 y] w fun e w' => e = .returned (.tuple #[.int .u64 ((x * y / 18446744073709551616 : Nat) : Int), .int .u64 ((x * y % 18446744073709551616 : Nat) : Int)]) ∧ w' = w := Any.bits_Mul64 Tryz.lays264 x y hx hy w
def Tryz.lays212_ren : Go.Shelf.Ren := ⟨fun | 212 => 74 | 263 => 89 | 264 => 90 | n => n, fun | 46 => 81 | 51 => 101 | 146 => 102 | 53 => 104 | 148 => 105 | n => n, fun | n => n⟩
theorem Tryz.lays212 : Go.Proofs.Lays.n212 Tryz.prog Tryz.lays212_ren := {
 mixed := by kernel_rfl
 f212 := Tryz.func74.trans (congrArg some (by kernel_rfl))
 f263 := Tryz.func89.trans (congrArg some (by kernel_rfl))
 f264 := Tryz.func90.trans (congrArg some (by kernel_rfl))
 t46 := Tryz.underlying81
 a46 := Tryz.isAgg81
 z46 := Tryz.sizeOf81
 v46 := Tryz.zeroValue81
 t51 := Tryz.underlying101
 a51 := Tryz.isAgg101
 z51 := Tryz.sizeOf101
 v51 := Tryz.zeroValue101
 t53 := Tryz.underlying104
 a53 := Tryz.isAgg104
 z53 := Tryz.sizeOf104
 v53 := Tryz.zeroValue104
 t146 := Tryz.underlying102
 a146 := Tryz.isAgg102
 z146 := Tryz.sizeOf102
 v146 := Tryz.zeroValue102
 t148 := Tryz.underlying105
 a148 := Tryz.isAgg105
 z148 := Tryz.sizeOf105
 v148 := Tryz.zeroValue105 }
open Go.RowKit Go.Lib in
theorem Tryz.bits_Mul (x y : Nat) (hx : x < 18446744073709551616) (hy : y < 18446744073709551616) (w : World) :
  Calls Tryz.prog 74 #[.int .u64 x, .int .u64 y] w fun e w' => e = .returned (.tuple #[.int .u64 ((x * y / 18446744073709551616 : Nat) : Int), .int .u64 ((x * y % 18446744073709551616 : Nat) : Int)]) ∧ w' = w := Any.bits_Mul Tryz.lays212 x y hx hy w
def Tryz.lays112_ren : Go.Shelf.Ren := ⟨fun | 112 => 73 | n => n, fun | 28 => 23 | 3 => 3 | 4 => 4 | 0 => 0 | n => n, fun | n => n⟩
theorem Tryz.lays112 : Go.Proofs.Lays.n112 Tryz.prog Tryz.lays112_ren := {
 mixed := by kernel_rfl
 f112 := Tryz.func73.trans (congrArg some (by kernel_rfl))
 t0 := Tryz.underlying0
 a0 := Tryz.isAgg0
 z0 := Tryz.sizeOf0
 v0 := Tryz.zeroValue0
 t3 := Tryz.underlying3
 a3 := Tryz.isAgg3
 z3 := Tryz.sizeOf3
 v3 := Tryz.zeroValue3
 t4 := Tryz.underlying4
 a4 := Tryz.isAgg4
 z4 := Tryz.sizeOf4
 v4 := Tryz.zeroValue4
 t28 := Tryz.underlying23
 a28 := Tryz.isAgg23
 z28 := Tryz.sizeOf23
 v28 := Tryz.zeroValue23 }
open Go.RowKit Go.Lib Go.Sort in
theorem Tryz.slices_Reverse_int (blk off cap : Nat) (zs : List Int) (w : World) (hH : Holds (Value.int .i64) w blk off zs.toArray) (hsz : zs.length ≤ 9223372036854775807) :
  Calls Tryz.prog 73 #[.slice (some ⟨blk, off, none⟩) zs.length cap] w fun e w' => e = .returned (.tuple #[]) ∧ ∃ n, w' = putRow (Value.int .i64) (Sort.ahead w n) blk off zs.reverse.toArray := Any.slices_Reverse_int Tryz.lays112 blk off cap zs w hH hsz
open Go.RowKit Go.Lib Go.Sort in
theorem Tryz.slices_Reverse_int_empty (a : Option Addr) (cap : Nat) (w : World) :
  Calls Tryz.prog 73 #[.slice a 0 cap] w fun e w' => e = .returned (.tuple #[]) ∧ w' = w := Any.slices_Reverse_int_empty Tryz.lays112 a cap w
def Tryz.lays111_ren : Go.Shelf.Ren := ⟨fun | 111 => 38 | n => n, fun | 28 => 23 | 3 => 3 | 4 => 4 | 0 => 0 | n => n, fun | n => n⟩
theorem Tryz.lays111 : Go.Proofs.Lays.n111 Tryz.prog Tryz.lays111_ren := {
 mixed := by kernel_rfl
 f111 := Tryz.func38.trans (congrArg some (by kernel_rfl))
 t0 := Tryz.underlying0
 a0 := Tryz.isAgg0
 z0 := Tryz.sizeOf0
 v0 := Tryz.zeroValue0
 t3 := Tryz.underlying3
 a3 := Tryz.isAgg3
 z3 := Tryz.sizeOf3
 v3 := Tryz.zeroValue3
 t4 := Tryz.underlying4
 a4 := Tryz.isAgg4
 z4 := Tryz.sizeOf4
 v4 := Tryz.zeroValue4
 t28 := Tryz.underlying23
 a28 := Tryz.isAgg23
 z28 := Tryz.sizeOf23
 v28 := Tryz.zeroValue23 }
open Go.RowKit Go.Lib in
theorem Tryz.slices_Equal_int (b1 o1 n c b2 o2 m d : Nat) (xs ys : List Int) (w : World) (hx : n ≤ xs.length) (hy : m ≤ ys.length) (hbig : n ≤ 9223372036854775807) (hbig2 : m ≤ 9223372036854775807) (hc1 : ∀ j, j < xs.length → w.cell? ⟨b1, o1 + j, none⟩ = some (.int .i64 (xs.getD j 0))) (hc2 : ∀ j, j < ys.length → w.cell? ⟨b2, o2 + j, none⟩ = some (.int .i64 (ys.getD j 0))) :
  Calls Tryz.prog 38 #[.slice (some ⟨b1, o1, none⟩) n c, .slice (some ⟨b2, o2, none⟩) m d] w fun e w' => e = .returned (.bool (xs.take n == ys.take m)) ∧ ∃ q, w' = w.drewN q := Any.slices_Equal_int Tryz.lays111 b1 o1 n c b2 o2 m d xs ys w hx hy hbig hbig2 hc1 hc2
open Go.RowKit Go.Lib in
theorem Tryz.slices_Equal_int_empty (a1 a2 : Option Addr) (c m d : Nat) (w : World) (hbig2 : m ≤ 9223372036854775807) :
  Calls Tryz.prog 38 #[.slice a1 0 c, .slice a2 m d] w fun e w' => e = .returned (.bool (decide (m = 0))) ∧ w' = w := Any.slices_Equal_int_empty Tryz.lays111 a1 a2 c m d w hbig2
def Tryz.laysNm215_ren : Go.Shelf.Ren := ⟨fun | 15 => 24 | n => n, fun | 22 => 23 | 3 => 3 | 4 => 4 | n => n, fun | n => n⟩
theorem Tryz.laysNm215 : Go.Proofs.Lays2.n15 Tryz.prog Tryz.laysNm215_ren := {
 mixed := by kernel_rfl
 f15 := Tryz.func24.trans (congrArg some (by kernel_rfl))
 t3 := Tryz.underlying3
 a3 := Tryz.isAgg3
 z3 := Tryz.sizeOf3
 v3 := Tryz.zeroValue3
 t4 := Tryz.underlying4
 a4 := Tryz.isAgg4
 z4 := Tryz.sizeOf4
 v4 := Tryz.zeroValue4
 t22 := Tryz.underlying23
 a22 := Tryz.isAgg23
 z22 := Tryz.sizeOf23
 v22 := Tryz.zeroValue23
 i3 := by kernel_rfl }
open Go.RowKit Go.Lib in
theorem Tryz.slices_Clone_int (b off n c : Nat) (zs : List Int) (w : World) (hz : n ≤ zs.length) (hbig : n * 8 ≤ 140737488355328) (hc : ∀ j, j < zs.length → w.cell? ⟨b, off + j, none⟩ = some (.int .i64 (zs.getD j 0))) :
  Calls Tryz.prog 24 #[.slice (some ⟨b, off, none⟩) n c] w fun e w' => ∃ v', e = .returned v' ∧ w'.ownsRow w.heap.size 3 1 v' n ((zs.take n).map (Value.int .i64)) ∧ v' ≠ .slice none 0 0 ∧ Below w.heap.size w w' := Any.slices_Clone_int Tryz.laysNm215 b off n c zs w hz hbig hc
open Go.RowKit Go.Lib in
theorem Tryz.slices_Clone_int_nil (n c : Nat) (w : World) :
  Calls Tryz.prog 24 #[.slice none n c] w fun e w' => e = .returned (.slice none 0 0) ∧ w' = w := Any.slices_Clone_int_nil Tryz.laysNm215 n c w
open Go.RowKit Go.Lib in
theorem Tryz.slices_Clone_int_zero (a : Addr) (c : Nat) (w : World) :
  Calls Tryz.prog 24 #[.slice (some a) 0 c] w fun e w' => ∃ v', e = .returned v' ∧ w'.ownsRow w.heap.size 3 1 v' 0 [] ∧ v' ≠ .slice none 0 0 ∧ Below w.heap.size w w' := Any.slices_Clone_int_zero Tryz.laysNm215 a c w
def Tryz.laysNm220_ren : Go.Shelf.Ren := ⟨fun | 20 => 62 | n => n, fun | 22 => 23 | 3 => 3 | 4 => 4 | 0 => 0 | n => n, fun | n => n⟩
theorem Tryz.laysNm220 : Go.Proofs.Lays2.n20 Tryz.prog Tryz.laysNm220_ren := {
 mixed := by kernel_rfl
 f20 := Tryz.func62.trans (congrArg some (by kernel_rfl))
 t0 := Tryz.underlying0
 a0 := Tryz.isAgg0
 z0 := Tryz.sizeOf0
 v0 := Tryz.zeroValue0
 t3 := Tryz.underlying3
 a3 := Tryz.isAgg3
 z3 := Tryz.sizeOf3
 v3 := Tryz.zeroValue3
 t4 := Tryz.underlying4
 a4 := Tryz.isAgg4
 z4 := Tryz.sizeOf4
 v4 := Tryz.zeroValue4
 t22 := Tryz.underlying23
 a22 := Tryz.isAgg23
 z22 := Tryz.sizeOf23
 v22 := Tryz.zeroValue23
 i3 := by kernel_rfl }
open Go.RowKit Go.Lib Go.Sort in
theorem Tryz.slices_Compact_int (blk off cap : Nat) (zs : List Int) (w : World) (hH : Holds (Value.int .i64) w blk off zs.toArray) (hsz : zs.length ≤ 9223372036854775807) (hcap : zs.length ≤ cap) :
  Calls Tryz.prog 62 #[.slice (some ⟨blk, off, none⟩) zs.length cap] w fun e w' => e = .returned (.slice (some ⟨blk, off, none⟩) (Lib.compact zs).length cap) ∧ ∃ q, w' = putRow (Value.int .i64) (Sort.ahead w q) blk off (Lib.compact zs ++ List.replicate (zs.length - (Lib.compact zs).length) 0).toArray := Any.slices_Compact_int Tryz.laysNm220 blk off cap zs w hH hsz hcap
open Go.RowKit Go.Lib Go.Sort in
theorem Tryz.slices_Compact_int_empty (a : Option Addr) (cap : Nat) (w : World) :
  Calls Tryz.prog 62 #[.slice a 0 cap] w fun e w' => e = .returned (.slice a 0 cap) ∧ w' = w := Any.slices_Compact_int_empty Tryz.laysNm220 a cap w
def Tryz.laysNm225_ren : Go.Shelf.Ren := ⟨fun | 25 => 44 | 31 => 68 | 32 => 69 | 37 => 87 | n => n, fun | 22 => 23 | 3 => 3 | 4 => 4 | 40 => 81 | 0 => 0 | n => n, fun | n => n⟩
theorem Tryz.laysNm225 : Go.Proofs.Lays2.n25 Tryz.prog Tryz.laysNm225_ren := {
 mixed := by kernel_rfl
 f25 := Tryz.func44.trans (congrArg some (by kernel_rfl))
 f31 := Tryz.func68.trans (congrArg some (by kernel_rfl))
 f32 := Tryz.func69.trans (congrArg some (by kernel_rfl))
 f37 := Tryz.func87.trans (congrArg some (by kernel_rfl))
 t0 := Tryz.underlying0
 a0 := Tryz.isAgg0
 z0 := Tryz.sizeOf0
 v0 := Tryz.zeroValue0
 t3 := Tryz.underlying3
 a3 := Tryz.isAgg3
 z3 := Tryz.sizeOf3
 v3 := Tryz.zeroValue3
 t4 := Tryz.underlying4
 a4 := Tryz.isAgg4
 z4 := Tryz.sizeOf4
 v4 := Tryz.zeroValue4
 t22 := Tryz.underlying23
 a22 := Tryz.isAgg23
 z22 := Tryz.sizeOf23
 v22 := Tryz.zeroValue23
 t40 := Tryz.underlying81
 a40 := Tryz.isAgg81
 z40 := Tryz.sizeOf81
 v40 := Tryz.zeroValue81 }
open Go.RowKit Go.Lib in
theorem Tryz.slices_BinarySearch_int (b off n c : Nat) (zs : List Int) (x : Int) (w : World) (hz : n ≤ zs.length) (hbig : n < 4611686018427387904) (hc : ∀ j, j < zs.length → w.cell? ⟨b, off + j, none⟩ = some (.int .i64 (zs.getD j 0))) (hs : (zs.take n).Pairwise (· ≤ ·)) :
  Calls Tryz.prog 44 #[.slice (some ⟨b, off, none⟩) n c, .int .i64 x] w fun e w' => e = .returned (.tuple #[.int .i64 ((zs.take n).countP (· < x) : Nat), .bool ((zs.take n).contains x)]) ∧ ∃ q, w' = w.drewN q := Any.slices_BinarySearch_int Tryz.laysNm225 b off n c zs x w hz hbig hc hs
open Go.RowKit Go.Sort in
theorem Tryz.slices_Sort_int_none (p : Option Addr) (cap : Nat) (w : World) :
  Calls Tryz.prog 61 #[.slice p 0 cap] w fun e w' => e = .returned (.tuple #[]) ∧ w' = w := Any.slices_Sort_int_none Tryz.lays189 p cap w
open Go.RowKit Go.Lib in
theorem Tryz.slices_BinarySearch_int_empty (a : Option Addr) (c : Nat) (x : Int) (w : World) :
  Calls Tryz.prog 44 #[.slice a 0 c, .int .i64 x] w fun e w' => e = .returned (.tuple #[.int .i64 0, .bool false]) ∧ w' = w := Any.slices_BinarySearch_int_empty Tryz.laysNm225 a c x w
open Go.RowKit Go.Lib in
theorem Tryz.slices_Equal_int_lens (a1 a2 : Option Addr) (n c m d : Nat) (w : World) (hnm : n ≠ m) :
  Calls Tryz.prog 38 #[.slice a1 n c, .slice a2 m d] w fun e w' => e = .returned (.bool false) ∧ w' = w := Any.slices_Equal_int_lens Tryz.lays111 a1 a2 n c m d w hnm
def Tryz.laysSlH6_f82_ren : Go.Shelf.Ren := ⟨fun | 6 => 82 | n => n, fun | 22 => 23 | 23 => 3 | 25 => 49 | 3 => 3 | 0 => 0 | 4 => 4 | n => n, fun | n => n⟩
theorem Tryz.laysSlH6_f82 : Go.Proofs.SlLaysH.n6 Tryz.prog Tryz.laysSlH6_f82_ren := {
 mixed := by kernel_rfl
 f6 := ⟨Tryz.f82.name, by decide, Tryz.func82.trans (congrArg some (by kernel_rfl))⟩
 t0 := Tryz.underlying0
 a0 := Tryz.isAgg0
 z0 := Tryz.sizeOf0
 v0 := Tryz.zeroValue0
 t3 := Tryz.underlying3
 a3 := Tryz.isAgg3
 z3 := Tryz.sizeOf3
 v3 := Tryz.zeroValue3
 t4 := Tryz.underlying4
 a4 := Tryz.isAgg4
 z4 := Tryz.sizeOf4
 v4 := Tryz.zeroValue4
 t22 := Tryz.underlying23
 a22 := Tryz.isAgg23
 z22 := Tryz.sizeOf23
 v22 := Tryz.zeroValue23
 a23 := Tryz.isAgg3
 z23 := Tryz.sizeOf3
 t25 := Tryz.underlying49
 a25 := Tryz.isAgg49
 z25 := Tryz.sizeOf49
 v25 := Tryz.zeroValue49 }
open Go.RowKit Go.Lib in
theorem Tryz.slices_IndexFunc_empty {α : Type} [Inhabited α] (a : Option Addr) (c : Nat) (fv : Value) (w : World) :
  Calls Tryz.prog 82 #[.slice a 0 c, fv] w fun e w' => e = .returned (.int .i64 (-1)) ∧ w' = w := AnyE.slices_IndexFunc_empty Tryz.laysSlH6_f82 a c fv w
def Tryz.laysSlH10_f56_ren : Go.Shelf.Ren := ⟨fun | 10 => 56 | 6 => 82 | n => n, fun | 22 => 23 | 23 => 3 | 25 => 49 | 3 => 3 | 4 => 4 | 0 => 0 | n => n, fun | n => n⟩
theorem Tryz.laysSlH10_f56 : Go.Proofs.SlLaysH.n10 Tryz.prog Tryz.laysSlH10_f56_ren := {
 mixed := by kernel_rfl
 f6 := ⟨Tryz.f82.name, by decide, Tryz.func82.trans (congrArg some (by kernel_rfl))⟩
 f10 := ⟨Tryz.f56.name, by decide, Tryz.func56.trans (congrArg some (by kernel_rfl))⟩
 t0 := Tryz.underlying0
 a0 := Tryz.isAgg0
 z0 := Tryz.sizeOf0
 v0 := Tryz.zeroValue0
 t3 := Tryz.underlying3
 a3 := Tryz.isAgg3
 z3 := Tryz.sizeOf3
 v3 := Tryz.zeroValue3
 t4 := Tryz.underlying4
 a4 := Tryz.isAgg4
 z4 := Tryz.sizeOf4
 v4 := Tryz.zeroValue4
 t22 := Tryz.underlying23
 a22 := Tryz.isAgg23
 z22 := Tryz.sizeOf23
 v22 := Tryz.zeroValue23
 a23 := Tryz.isAgg3
 z23 := Tryz.sizeOf3
 t25 := Tryz.underlying49
 a25 := Tryz.isAgg49
 z25 := Tryz.sizeOf49
 v25 := Tryz.zeroValue49 }
open Go.RowKit Go.Lib Go.Sort in
theorem Tryz.slices_DeleteFunc {α : Type} [Inhabited α] (enc : α → Value) (hO : OneCell enc) (p : α → Bool) (g : Nat) (lb : Array Value) (eg : ∀ args w, (callFunc g args).run Tryz.prog w = .ok (.enter g args) w) (zr : α) (v23 : ∀ w, (zeroValue 3).run Tryz.prog w = .ok (enc zr) w) (blk off cap : Nat) (d : Array α) (w : World) (hp : PredAt Tryz.prog g lb enc p w) (hpo : PredOver Tryz.prog g lb enc p blk off d.size w) (hH : Holds enc w blk off d) (hsz : d.size ≤ 9223372036854775807) (hcap : d.size ≤ cap) :
  Calls Tryz.prog 56 #[.slice (some ⟨blk, off, none⟩) d.size cap, .func (.func g) #[] lb] w fun e w' => e = .returned (.slice (some ⟨blk, off, none⟩) (d.toList.filter fun x => !p x).length cap) ∧ ∃ q, w' = putRow enc (Sort.ahead w q) blk off ((d.toList.filter fun x => !p x) ++ List.replicate (d.size - (d.toList.filter fun x => !p x).length) zr).toArray := AnyE.slices_DeleteFunc Tryz.laysSlH10_f56 enc hO p g lb eg zr v23 blk off cap d w hp hpo hH hsz hcap
def Tryz.laysIns_ren : Go.Shelf.Ren := ⟨fun | 21 => 45 | 27 => 70 | 28 => 71 | 35 => 88 | 39 => 73 | n => n, fun | 22 => 23 | 3 => 3 | 4 => 4 | 0 => 0 | n => n, fun | n => n⟩
theorem Tryz.laysIns : Go.Proofs.Lays2.n21 Tryz.prog Tryz.laysIns_ren := {
 mixed := by kernel_rfl
 f21 := Tryz.func45.trans (congrArg some (by kernel_rfl))
 f27 := Tryz.func70.trans (congrArg some (by kernel_rfl))
 f28 := Tryz.func71.trans (congrArg some (by kernel_rfl))
 f35 := Tryz.func88.trans (congrArg some (by kernel_rfl))
 f39 := Tryz.func73.trans (congrArg some (by kernel_rfl))
 t0 := Tryz.underlying0
 a0 := Tryz.isAgg0
 z0 := Tryz.sizeOf0
 v0 := Tryz.zeroValue0
 t3 := Tryz.underlying3
 a3 := Tryz.isAgg3
 z3 := Tryz.sizeOf3
 v3 := Tryz.zeroValue3
 t4 := Tryz.underlying4
 a4 := Tryz.isAgg4
 z4 := Tryz.sizeOf4
 v4 := Tryz.zeroValue4
 t22 := Tryz.underlying23
 a22 := Tryz.isAgg23
 z22 := Tryz.sizeOf23
 v22 := Tryz.zeroValue23
 i3 := by kernel_rfl }
end Go.Proofs
namespace Go.Proofs.YtemcmcnhpdkdfaaGreat.P
open Go.RowKit Go.Lib Go.Sort Go.Proofs.YtemcmcnhpdkdfaaGreatW.PrintWords Go.Proofs.YtemcmcnhpdkdfaaGreatW.PrintLast Go.Proofs.YtemcmcnhpdkdfaaGreatW.PrintMore
abbrev dI : Kd Int := Kd.int .i64
abbrev dB : Kd Bool := Kd.bool
abbrev dG : Kd (List Int) := Kd.slice 3 (Kd.int .i64)
theorem C_ints {w : World} {A : Option Addr} {n : Nat} {xs : List Int} (h : dI.C w A n xs) (hp : 0 < n) :
  ∃ b off, A = some ⟨b, off, none⟩ ∧ xs.length = n ∧ ∀ j, j < xs.length → w.cell? ⟨b, off + j, none⟩ = some (.int .i64 (xs.getD j 0)) := by
 obtain ⟨hl, _, hc0⟩ := h
 obtain ⟨ad, rfl, hc⟩ := hc0 hp
 have hc' : ∀ i, i < xs.length → w.cell? (ad.add i) = some (.int .i64 (xs.getD i 0)) := by
  intro i hi
  obtain ⟨c, _, hk, hcc⟩ := hc i _ (List.getElem?_eq_getElem hi)
  have hk' : c = [.int .i64 xs[i]] := hk
  subst hk'
  have h2 := hcc 0 _ rfl
  rw [show i * dI.sz + 0 = i from by show i * 1 + 0 = i; omega] at h2
  rw [h2, List.getD_eq_getElem?_getD, List.getElem?_eq_getElem hi]
  rfl
 obtain ⟨b, off, rfl, h3⟩ := ints_at hc' (by omega)
 exact ⟨b, off, rfl, hl, h3⟩
theorem R_ints {w : World} {base : Nat} {ok : Nat → Prop} {v : Value} {xs : List Int} (h : dI.R 3 w base ok v xs) : w.ownsRow base 3 1 v xs.length (xs.map (Value.int .i64)) := Kd.own_of_R h
theorem ints_R {w : World} {base : Nat} {ok : Nat → Prop} {v : Value} {xs : List Int} (ho : w.ownsRow base 3 1 v xs.length (xs.map (Value.int .i64))) (hok : ∀ k, v.ownBlock = some k → ok k) : dI.R 3 w base ok v xs := Kd.R_of_own ho hok
theorem R_ints_form {w : World} {base : Nat} {ok : Nat → Prop} {v : Value} {xs : List Int} (h : dI.R 3 w base ok v xs) :
  (v = .slice none 0 0 ∧ xs = []) ∨ ∃ g cap, v = .slice (some ⟨g, 0, none⟩) xs.length cap ∧ base ≤ g ∧ g < w.heap.size ∧ xs.length ≤ cap ∧ Holds (Value.int .i64) w g 0 xs.toArray := by
 have ho := R_ints h
 by_cases hv : v = .slice none 0 0
 ·refine .inl ⟨hv, ?_⟩
  subst hv
  rcases ho.2 with ⟨_, h0⟩ | ⟨g, cap, cur, he, _⟩
  ·exact List.eq_nil_of_length_eq_zero h0
  ·cases he
 ·obtain ⟨g, cap, rfl, hb, hlt, hn, _, _, hH⟩ := holds_of_ownsRow ho hv
  exact .inr ⟨g, cap, rfl, hb, hlt, hn, hH⟩
theorem R_put {w : World} {base g n cap q : Nat} {ok : Nat → Prop} {xs zs ys : List Int} (h : dI.R 3 w base ok (.slice (some ⟨g, 0, none⟩) xs.length cap) xs) (hz : zs.length = xs.length) (hn : n = ys.length) (hy : ys = zs.take ys.length) (hle : ys.length ≤ xs.length) :
  dI.R 3 (putRow (Value.int .i64) (Sort.ahead w q) g 0 zs.toArray) base ok (.slice (some ⟨g, 0, none⟩) n cap) ys := by
 subst hn
 refine ints_R ?_ (fun k hk => h.1 k (by simpa [Value.ownBlock] using hk))
 have h1 := ownsRow_putRow (q := q) (ys := zs) (k := ys.length) (R_ints h) hz hle
 rw [← hy] at h1
 exact h1
theorem below_putRow' {w : World} {base g q : Nat} {d : Array Int} (hg : base ≤ g) : Below base w (putRow (Value.int .i64) (Sort.ahead w q) g 0 d) := below_putRow (Below.refl _ _) hg
theorem below_grow {B : Nat} {a w : World} (h : Below B a w) (hB : B ≤ w.heap.size) (os : Array Obj) : Below B a (grow w os) :=
 ⟨h.os, h.tape, h.output, by have := h.size; simp [grow]; omega, fun k hk => by
  rw [← h.block k hk]
  show (w.heap ++ os)[k]? = _
  rw [Array.getElem?_append_left (by omega)]⟩
theorem R_growos {w : World} {base : Nat} {ok : Nat → Prop} {v : Value} {xs : List Int} (h : dI.R 3 w base ok v xs) (os : Array Obj) : dI.R 3 (grow w os) base ok v xs :=
 Kd.R_below h (below_grow (Below.refl _ _) (Nat.le_refl _) os)
theorem size_alloc1 (w : World) (o : Obj) : (w.alloc o).heap.size = w.heap.size + 1 := by
 show (w.heap.push o).size = _
 simp
theorem le_alloc1 (w : World) (o : Obj) : w.heap.size + 1 ≤ (w.alloc o).heap.size := Nat.le_of_eq (size_alloc1 w o).symm
theorem box_cell {w w1 : World} {v : Value} {t : Nat} {B : Nat} (hb : Below B (w.alloc (.cells #[v] t)) w1) (hB : w.heap.size < B) : w1.cell? ⟨w.heap.size, 0, none⟩ = some v :=
 (hb.cell (p := ⟨w.heap.size, 0, none⟩) hB).trans (by simp)
theorem cell_later {w w1 : World} {B g o : Nat} {v : Value} (hb : Below B w w1) (hc : w.cell? ⟨g, o, none⟩ = some v) (hB : g < B) : w1.cell? ⟨g, o, none⟩ = some v := (hb.cell (p := ⟨g, o, none⟩) hB).trans hc
theorem one_cells {W : World} {g : Nat} (hg : g = W.heap.size) (x : Value) (t : Nat) (j : Nat) (u : Value) (h : [x][j]? = some u) : (W.alloc (.cells #[x] t)).cell? ((⟨g, 0, none⟩ : Addr).add j) = some u := by
 subst hg
 match j, h with
 | 0, h => simpa [Go.WideShapes.add_plain] using h
 | j + 1, h => simp at h
theorem two_cells {W : World} {g : Nat} (hg : g = W.heap.size) (x y : Value) (t : Nat) (j : Nat) (u : Value) (h : [x, y][j]? = some u) : (W.alloc (.cells #[x, y] t)).cell? ((⟨g, 0, none⟩ : Addr).add j) = some u := by
 subst hg
 match j, h with
 | 0, h => simpa [Go.WideShapes.add_plain] using h
 | 1, h => simpa [Go.WideShapes.add_plain] using h
 | j + 2, h => simp at h
theorem size_s (w : World) (q : Nat) (p : Addr) (u : Value) : w.heap.size = ((w.drewN q).setCell p u).heap.size := by simp [World.setCell]
theorem size_sa (w : World) (q : Nat) (p : Addr) (u : Value) (o : Obj) : (((w.drewN q).setCell p u).alloc o).heap.size = w.heap.size + 1 := by
 rw [size_alloc1]
 simp [World.setCell]
theorem S_setrow {wr w5 : World} {base go n cap k : Nat} {v5 : Value} {xs : List (List Int)} {row : List Int} (h : Kd.S dG 23 wr base (fun _ => True) (.slice (some ⟨go, 0, none⟩) n cap) xs) (hk : k < n)
  (hb : Below wr.heap.size wr w5) (ho : dI.R 3 w5 wr.heap.size (fun _ => True) v5 row) :
  (∃ u, w5.cell? ⟨go, k, none⟩ = some u ∧ w5.frozen? ⟨go, k, none⟩ = false) ∧ Kd.S dG 23 (w5.setCell ⟨go, k, none⟩ v5) base (fun _ => True) (.slice (some ⟨go, 0, none⟩) n cap) (xs.set k row) := by
 have hbase : base ≤ go ∧ go < wr.heap.size := ⟨Kd.S_base h go (by simp [Value.ownBlock]), Kd.S_lt h go (by simp [Value.ownBlock])⟩
 have hv : ∀ b, v5.ownBlock = some b → wr.heap.size ≤ b := fun b hb' => own_base (R_ints ho) b hb'
 have h2 : Kd.S dG 23 w5 base (fun b => True ∧ ¬ (some b = v5.ownBlock)) (.slice (some ⟨go, 0, none⟩) n cap) xs :=
  Kd.S_mono (Kd.S_below (Kd.S_bound h) hb) (fun b hb' => ⟨trivial, fun e => by have := hv b e.symm; have := hb'.2.2.1; omega⟩)
 obtain ⟨oki, c, hcl, _, hcc, hfr, _, hH⟩ := Kd.S_elem h2 [] (k : Int) (by omega) (by omega)
 have hs1 : dG.sz = 1 := rfl
 obtain ⟨u, rfl⟩ : ∃ u, c = [u] := List.length_eq_one_iff.1 (hcl.trans hs1)
 have hu := hcc 0 u rfl
 have hf := hfr 0
 rw [hs1, Int.toNat_natCast, Nat.mul_one, Nat.add_zero] at hu hf
 refine ⟨⟨u, hu, hf⟩, ?_⟩
 have hP := Kd.S_seg (okg := fun b => some b = v5.ownBlock) hH (by omega) (by omega) (seg := [v5]) (j := 0) (show 0 + 1 ≤ 1 from Nat.le_refl _) (x' := row) (okp := fun b => some b = v5.ownBlock)
  ⟨v5, rfl, Kd.R_lower (Kd.R_tight rfl ho) (by omega)⟩ (fun _ hb' => .inr hb') (fun b hb' => ⟨trivial, fun e => by have := hv b hb'.symm; omega⟩)
 have hP1 := hP.1
 rw [hs1, Int.toNat_natCast, Nat.mul_one, Nat.add_zero] at hP1
 exact hP1
end Go.Proofs.YtemcmcnhpdkdfaaGreat.P
namespace Go.Proofs.YtemcmcnhpdkdfaaGreat.P
open Go.RowKit Go.Lib Go.Sort Go.Shelf Go.Proofs.YtemcmcnhpdkdfaaGreatW.PrintWords Go.Proofs.YtemcmcnhpdkdfaaGreatW.PrintLast Go.Proofs.YtemcmcnhpdkdfaaGreatW.PrintMore
theorem clone_c (A : Option Addr) (c : Nat) (xs : List Int) (w : World) (h : dI.C w A xs.length xs) (hb : xs.length * 8 ≤ 140737488355328) :
  Calls Tryz.prog 24 #[.slice A xs.length c] w fun e w' => ∃ v, e = .returned v ∧ dI.R 3 w' w.heap.size (fun _ => True) v xs ∧ Below w.heap.size w w' := by
 cases A with
 | none =>
  have hn : xs.length = 0 := by
   rcases Nat.eq_zero_or_pos xs.length with h0 | h0
   ·exact h0
   ·obtain ⟨ad, he, _⟩ := h.2.2 h0
    cases he
  obtain rfl := List.eq_nil_of_length_eq_zero hn
  refine (Tryz.slices_Clone_int_nil _ _ w).mono ?_
  rintro e w' ⟨rfl, rfl⟩
  exact ⟨_, rfl, Kd.R_nil _ _ _ _ _, Below.refl _ _⟩
 | some a =>
  rcases Nat.eq_zero_or_pos xs.length with h0 | h0
  ·obtain rfl := List.eq_nil_of_length_eq_zero h0
   refine (Tryz.slices_Clone_int_zero a c w).mono ?_
   rintro e w' ⟨v, rfl, ho, _, hB⟩
   exact ⟨_, rfl, ints_R ho (fun _ _ => trivial), hB⟩
  ·obtain ⟨b, off, he, _, hc⟩ := C_ints h h0
   cases he
   refine (Tryz.slices_Clone_int b off xs.length c xs w (Nat.le_refl _) hb hc).mono ?_
   rintro e w' ⟨v, rfl, ho, _, hB⟩
   rw [List.take_length] at ho
   exact ⟨_, rfl, ints_R ho (fun _ _ => trivial), hB⟩
theorem sort_c (v : Value) (xs : List Int) (base : Nat) (ok : Nat → Prop) (w : World) (h : dI.R 3 w base ok v xs) (hb : xs.length < 4611686018427387904) (hw : base ≤ w.heap.size) :
  Calls Tryz.prog 61 #[v] w fun e w' => e = .returned (.tuple #[]) ∧ dI.R 3 w' base ok v (xs.mergeSort fun x y => decide (x ≤ y)) ∧ Below base w w' := by
 rcases R_ints_form h with ⟨rfl, rfl⟩ | ⟨g, cap, rfl, hbg, hlt, hn, hH⟩
 ·refine (Tryz.slices_Sort_int_none none 0 w).mono ?_
  rintro e w' ⟨rfl, rfl⟩
  exact ⟨rfl, by simpa using h, Below.refl _ _⟩
 ·refine (Tryz.slices_Sort_int g 0 cap xs w hH hlt hb).mono ?_
  rintro e w' ⟨rfl, n, os, rfl⟩
  refine ⟨rfl, R_growos ?_ os, below_grow (below_putRow' hbg) (by simp [putRow, mapBlock, Sort.ahead]; omega) os⟩
  exact R_put h (by simp) (by simp) (by rw [List.take_of_length_le (Nat.le_refl _)]) (by simp)
theorem compact_c (v : Value) (xs : List Int) (base : Nat) (ok : Nat → Prop) (w : World) (h : dI.R 3 w base ok v xs) (hb : xs.length ≤ 9223372036854775807) :
  Calls Tryz.prog 62 #[v] w fun e w' => ∃ v', e = .returned v' ∧ dI.R 3 w' base ok v' (Lib.compact xs) ∧ Below base w w' := by
 rcases R_ints_form h with ⟨rfl, rfl⟩ | ⟨g, cap, rfl, hbg, hlt, hn, hH⟩
 ·refine (Tryz.slices_Compact_int_empty none 0 w).mono ?_
  rintro e w' ⟨rfl, rfl⟩
  exact ⟨_, rfl, h, Below.refl _ _⟩
 ·have hle := Lib.compact_length_le xs
  refine (Tryz.slices_Compact_int g 0 cap xs w hH hb hn).mono ?_
  rintro e w' ⟨rfl, q, rfl⟩
  refine ⟨_, rfl, R_put h ?_ rfl ?_ hle, below_putRow' hbg⟩
  ·rw [List.length_append, List.length_replicate]; omega
  ·rw [List.take_left']; rfl
set_option maxHeartbeats 1000000 in
theorem del_nil_c (fv : Value) (w : World) :
  Calls Tryz.prog 56 #[.slice none 0 0, fv] w fun e w' => e = .returned (.slice none 0 0) ∧ w' = w := by
 have hi : ∀ W, Calls Tryz.prog 82 #[.slice none 0 0, fv] W fun e w' => e = .returned (.int .i64 (-1)) ∧ w' = W := fun W => Tryz.slices_IndexFunc_empty (α := Int) none 0 fv W
 go_enter Tryz.func56, Tryz.ntmps56
 go_wp2_with (go_at_call 82; refine (hi _).mono ?_; rintro e w' ⟨rfl, rfl⟩)
 go_ret
 exact ⟨rfl, rfl⟩
theorem del_c (g : Nat) (lb : Array Value) (p : Int → Bool) (eg : ∀ args w, (callFunc g args).run Tryz.prog w = .ok (.enter g args) w) (v : Value) (xs : List Int) (base : Nat) (ok : Nat → Prop) (w : World)
  (hp : ∀ W x, Below base w W → FnGives Tryz.prog g lb #[.int .i64 x] (.bool (p x)) W) (h : dI.R 3 w base ok v xs) (hb : xs.length ≤ 9223372036854775807) (hw : base ≤ w.heap.size) :
  Calls Tryz.prog 56 #[v, .func (.func g) #[] lb] w fun e w' => ∃ v', e = .returned v' ∧ dI.R 3 w' base ok v' (xs.filter fun x => !p x) ∧ Below base w w' := by
 rcases R_ints_form h with ⟨rfl, rfl⟩ | ⟨gb, cap, rfl, hbg, hlt, hn, hH⟩
 ·refine (del_nil_c _ w).mono ?_
  rintro e w' ⟨rfl, rfl⟩
  exact ⟨_, rfl, h, Below.refl _ _⟩
 ·have hle : (xs.filter fun x => !p x).length ≤ xs.length := List.length_filter_le _ _
  have hc := Tryz.slices_DeleteFunc (Value.int .i64) (fun _ => rfl) p g lb eg 0 Tryz.zeroValue3 gb 0 cap xs.toArray w
   (fun W x hB => hp W x (hB.mono hw)) (fun n os dk x hd => hp _ x (below_grow (below_putRow' hbg) (by simp [putRow, mapBlock, Sort.ahead]; omega) os)) hH (by simpa using hb) (by simpa using hn)
  simp only [List.size_toArray] at hc
  refine hc.mono ?_
  rintro e w' ⟨rfl, q, rfl⟩
  refine ⟨_, rfl, R_put h ?_ rfl ?_ hle, below_putRow' hbg⟩
  ·rw [List.length_append, List.length_replicate]; omega
  ·rw [List.take_left']; rfl
set_option maxHeartbeats 1000000 in
theorem cleanfn_gives (x : Int) (B : Nat) (A : Option Addr) (n c : Nat) (W : World) (hc : W.cell? ⟨B, 0, none⟩ = some (.slice A n c)) :
  FnGives Tryz.prog 60 #[.pointer (some ⟨B, 0, none⟩)] #[.int .i64 x] (.bool (!isN n x)) W := by
 show Calls Tryz.prog 60 #[.int .i64 x, .pointer (some ⟨B, 0, none⟩)] W _
 have hq : (!isN n x) = (!(decide (0 ≤ x) && decide (x < (n : Int)))) := by unfold isN; rw [Bool.decide_and]
 rw [hq]
 clear hq
 by_cases h1 : 0 ≤ x
 ·by_cases h2 : x < (n : Int)
  ·go_enter Tryz.func60, Tryz.ntmps60
   go_wp2
   go_ret
   exact ⟨by simp [h1, h2], 0, rfl⟩
  ·go_enter Tryz.func60, Tryz.ntmps60
   go_wp2
   go_ret
   exact ⟨by simp [h2], 0, rfl⟩
 ·go_enter Tryz.func60, Tryz.ntmps60
  go_wp2
  go_ret
  exact ⟨by simp [h1], 0, rfl⟩
set_option maxHeartbeats 1000000 in
theorem is_c (x : Int) (A : Option Addr) (n c : Nat) (w : World) : Calls Tryz.prog 43 #[.slice A n c, .int .i64 x] w fun e w' => e = .returned (.bool (isN n x)) ∧ w = w' := by
 have hq : isN n x = (decide (0 ≤ x) && decide (x < (n : Int))) := by unfold isN; rw [Bool.decide_and]
 rw [hq]
 clear hq
 by_cases h1 : 0 ≤ x
 ·by_cases h2 : x < (n : Int)
  ·go_enter Tryz.func43, Tryz.ntmps43
   go_wp2
   go_ret
   exact ⟨by simp [h1, h2], rfl⟩
  ·go_enter Tryz.func43, Tryz.ntmps43
   go_wp2
   go_ret
   exact ⟨by simp [h2], rfl⟩
 ·go_enter Tryz.func43, Tryz.ntmps43
  go_wp2
  go_ret
  exact ⟨by rw [decide_eq_false (show ¬ 0 ≤ x by omega)]; rfl, rfl⟩
theorem rd_nat (g : List (List Int)) (k : Nat) (hk : k < g.length) : rd_L1 g k = g[k] := by
 unfold rd_L1
 rw [Int.toNat_natCast, List.getD_eq_getElem?_getD, List.getElem?_eq_getElem hk]
 rfl
set_option maxHeartbeats 4000000 in
set_option maxRecDepth 100000 in
theorem graph_Clean.calls (A0 : Option Addr) (c0 : Nat) (l0 : List (List Int)) (r : List (List Int)) (w : World) (hr0 : Kd.C (Kd.slice 3 (Kd.int .i64)) w A0 l0.length l0) (hc0 : l0.length ≤ c0) (h : graph_Clean.f l0 = some r) :
  Calls Tryz.prog 39 #[.slice A0 l0.length c0] w fun e w' => ∃ v0_ : Value, e = .returned v0_ ∧ Kd.S (Kd.slice 3 (Kd.int .i64)) 23 w' w.heap.size (fun _ => True) v0_ r ∧ Below w.heap.size w w' := by
 have HR0 := Aside0.mk hr0
 have HC0 := Aside0.mk hc0
 have HF : Aside0 (fits l0 = true ∧ r = clean l0) := by
  unfold graph_Clean.f at h
  split at h
  ·exact ⟨⟨by assumption, (Option.some.inj h).symm⟩⟩
  ·cases h
 clear hr0 hc0 h
 have hn : l0.length ≤ 100000 := by
  have := HF.out.1
  unfold fits at this
  simp at this
  exact this.1
 have hz : 0 ≤ (l0.length : Int) := by omega
 go_enter Tryz.func39, Tryz.ntmps39
 go_wp2_with ((with_reducible refine gate_dst (N := 9) rfl ?_); refine Kd.S_make (Kd.slice 3 (Kd.int .i64)) (w0 := w.alloc (.cells #[.slice A0 l0.length c0] 22)) (w.heap.size + 1) 23 rfl (N := 9) rfl 22 _ _ rfl (l0.length : Int) rfl rfl Tryz.underlying22 (.slice none 0 0) 24 info23 rfl Nat.one_pos (by omega) [] (ok := fun _ => True) (okp := fun _ => True) ⟨_, rfl, Kd.R_nil _ _ _ _ _⟩ (fun _ hk => hk) trivial hz (by omega) (Below.refl _ _) (le_alloc1 _ _) ?_; intro v1 w1 ho1 hb1 hg1 hn1; clear hg1 hn1; have hbx := box_cell hb1 (Nat.lt_succ_self _); rw [Int.toNat_natCast, ← cleanSo_zero] at ho1; have HS := Aside0.mk ho1; have HB := Aside0.mk hb1; clear ho1 hb1)
 go_loopw [12] (fun v12 wr => ∃ k : Nat, v12 = .int .i64 k ∧ k ≤ l0.length ∧ Aside0 (Kd.S (Kd.slice 3 (Kd.int .i64)) 23 wr (w.heap.size + 1) (fun _ => True) v1 (cleanSo l0 k)) ∧ Aside0 (Below (w.heap.size + 1) (w.alloc (.cells #[.slice A0 l0.length c0] 22)) wr)) (fun v12 _ => l0.length - (intOf v12).toNat)
 case atStart => exact ⟨0, rfl, Nat.zero_le _, HS, HB⟩
 case round =>
  obtain ⟨k, rfl, hk, HSr, HBr⟩ := hrel
  clear HS HB hbx
  by_cases hlt : k < l0.length
  ·have hbx := box_cell HBr.out (Nat.lt_succ_self _)
   obtain ⟨ad, A1, c1, e1, hx1, hl1, hC1⟩ := at_L1 HR0.out (k : Int) (by omega) (by omega)
   subst e1
   have hBw : Below w.heap.size w wr := below_step (below_alloc (Below.refl _ _) _) (HBr.out.mono (Nat.le_of_eq (size_alloc1 _ _)))
   replace hx1 := (hBw.cell (World.block_lt_of_cell? w _ hx1)).trans hx1
   replace hC1 := Kd.C_below hC1 hBw
   rw [Int.toNat_natCast] at hx1
   have hrow : Aside0 ((rd_L1 l0 k).length ≤ 100000 ∧ cleanRow l0.length (rd_L1 l0 k) = cleanRow l0.length l0[k]) := by
    rw [rd_nat l0 k hlt]
    exact ⟨fits_row HF.out.1 hlt, rfl⟩
   obtain ⟨row, er⟩ : ∃ row, row = rd_L1 l0 k := ⟨_, rfl⟩
   rw [← er] at hx1 hl1 hC1 hrow
   clear er
   have HC1 := Aside0.mk hC1
   clear hC1 hl1
   have hwz : Aside0 (w.heap.size + 1 ≤ wr.heap.size) := ⟨Nat.le_trans (le_alloc1 _ _) HBr.out.size⟩
   obtain ⟨go, capo, e0, hgo, hgl, _⟩ := Kd.S_form HSr.out (by rw [cleanSo_len _ _ hk]; omega)
   rw [cleanSo_len _ _ hk] at e0
   subst e0
   have hgo' : Aside0 (w.heap.size + 1 ≤ go ∧ go < wr.heap.size) := ⟨hgo, hgl⟩
   clear hgo hgl
   go_wp2_with (go_at_call 24; refine (clone_c _ _ row _ HC1.out (by have := hrow.out.1; omega)).mono ?_; rintro e w2 ⟨v2, rfl, ho2, hb2⟩; have HO2 := Aside0.mk ho2; have HB2 := Aside0.mk hb2; clear ho2 hb2; have hbx2 := cell_later HB2.out hbx (by have := hwz.out; omega))
   go_wp2_with (go_at_call 56; refine (del_c 60 _ (fun x => !isN l0.length x) (enters_of Tryz.func60 (by kernel_rfl) rfl) v2 row wr.heap.size (fun _ => True) w2 (fun W x hW => cleanfn_gives x _ _ _ _ W (cell_later hW hbx2 (by have := hwz.out; omega))) HO2.out (by have := hrow.out.1; omega) HB2.out.size).mono ?_; rintro e w3 ⟨v3, rfl, ho3, hb3⟩; have HO3 := Aside0.mk ho3; have HB3 := Aside0.mk (HB2.out.trans hb3); clear ho3 hb3 HO2 HB2 hbx2)
   go_wp2_with (go_at_call 61; refine (sort_c v3 _ wr.heap.size (fun _ => True) w3 HO3.out (by have := hrow.out.1; have := List.length_filter_le (fun x => !!isN l0.length x) row; omega) HB3.out.size).mono ?_; rintro e w4 ⟨rfl, ho4, hb4⟩; have HO4 := Aside0.mk ho4; have HB4 := Aside0.mk (HB3.out.trans hb4); clear ho4 hb4 HO3 HB3)
   go_wp2_with (go_at_call 62; refine (compact_c v3 _ wr.heap.size (fun _ => True) w4 HO4.out (by simp only [List.length_mergeSort]; have := hrow.out.1; have := List.length_filter_le (fun x => !!isN l0.length x) row; omega)).mono ?_; rintro e w5 ⟨v5, rfl, ho5, hb5⟩; simp only [Bool.not_not] at ho5; have HB5 := Aside0.mk (HB4.out.trans hb5); (obtain ⟨⟨u5, hu5, hf5⟩, hs5⟩ := S_setrow HSr.out hlt HB5.out ho5); have HS5 := Aside0.mk hs5; obtain ⟨A5, c5, rfl⟩ := Kd.R_slice ho5; clear ho5 hb5 HO4 HB4 hs5)
   go_roundw
   case rel =>
    refine ⟨k + 1, by go_num, by omega, ⟨?_⟩, ⟨?_⟩⟩
    ·rw [← cleanSo_succ l0 k hlt, ← hrow.out.2]
     exact HS5.out
    ·exact HBr.out.trans ((HB5.out.mono hwz.out).setCell hgo'.out.1 _)
   case measure => simp [intOf]; omega
  ·obtain rfl : k = l0.length := by omega
   clear hlt
   go_wp2
   go_ret
   have hfin := HSr.out
   rw [cleanSo_all, ← HF.out.2] at hfin
   exact ⟨_, rfl, Kd.S_lower hfin (Nat.le_succ _), below_step (below_alloc (Below.refl _ _) _) (HBr.out.mono (Nat.le_of_eq (size_alloc1 _ _)))⟩
end Go.Proofs.YtemcmcnhpdkdfaaGreat.P
namespace Go.Proofs.YtemcmcnhpdkdfaaGreat.P
open Go.RowKit Go.Lib Go.Sort Go.Shelf Go.Proofs.YtemcmcnhpdkdfaaGreatW.PrintWords Go.Proofs.YtemcmcnhpdkdfaaGreatW.PrintLast Go.Proofs.YtemcmcnhpdkdfaaGreatW.PrintMore
def wayCells (st : List (Int × Int)) : List Value := st.reverse.flatMap fun p => [.int .i64 p.1, .int .i64 p.2]
theorem info_step : (Tryz.prog.info? 96).map (fun i => (i.zero, i.size, i.bytes)) = some (some (.agg #[.int .i64 0, .int .i64 0]), 2, 16) := by kernel_rfl
structure Fr (S : Nat → Prop) (w w' : World) : Prop where
 os : w'.os = w.os
 tape : w'.tape = w.tape
 output : w'.output = w.output
 size : w.heap.size ≤ w'.heap.size
 block : ∀ k, k < w.heap.size → ¬ S k → w'.heap[k]? = w.heap[k]?
theorem Fr.refl (S : Nat → Prop) (w : World) : Fr S w w := ⟨rfl, rfl, rfl, Nat.le_refl _, fun _ _ _ => rfl⟩
theorem Fr.trans {S S' : Nat → Prop} {a b c : World} (h : Fr S a b) (k : Fr S' b c) (hs : ∀ i, S' i → S i ∨ a.heap.size ≤ i) : Fr S a c :=
 ⟨k.os.trans h.os, k.tape.trans h.tape, k.output.trans h.output, Nat.le_trans h.size k.size, fun i hi hn => (k.block i (Nat.lt_of_lt_of_le hi h.size) (fun hh => (hs i hh).elim hn (fun h2 => by omega))).trans (h.block i hi hn)⟩
theorem Fr.below {B : Nat} {S : Nat → Prop} {a b : World} (h : Below B a b) (hS : ∀ i, B ≤ i → S i ∨ a.heap.size ≤ i) : Fr S a b :=
 ⟨h.os, h.tape, h.output, h.size, fun k hk hn => h.block k (by rcases Nat.lt_or_ge k B with h1 | h1; exact h1; rcases hS k h1 with h2 | h2; exact absurd h2 hn; omega)⟩
theorem own_pos {w : World} {base e size m : Nat} {v : Value} {xs : List Value} (h : w.ownsRow base e size v (m + 1) xs) : ∃ g cap, v = .slice (some ⟨g, 0, none⟩) (m + 1) cap ∧ base ≤ g ∧ g < w.heap.size ∧ m + 1 ≤ cap := by
 rcases h.2 with ⟨_, h0⟩ | ⟨g, cap, cur, rfl, hg, hh, hn, _⟩
 ·omega
 ·refine ⟨g, cap, rfl, hg, ?_, hn⟩
  rcases Nat.lt_or_ge g w.heap.size with h1 | h1
  ·exact h1
  ·rw [Array.getElem?_eq_none h1] at hh
   cases hh
structure EachSt (I : World → List Int → (Nat → Prop) → Prop) (g : List (List Int)) (n gm cm : Nat) (w : World) (S0 : Nat → Prop) (told : List Int) (k kq : Nat) (v7 : Value) (wr : World) (met : List Bool) (st : List (Int × Int)) (tl : List Int) (S : Nat → Prop) : Prop where
 run : dfs g kq met st tl = some told
 fuel : kq ≤ k ∧ tl.length + kq ≤ k ∧ st.length + kq ≤ k + 1
 lenm : met.length = n
 way : ∀ p ∈ st, 0 ≤ p.1 ∧ p.1 < (n : Int) ∧ 0 ≤ p.2
 own : wr.ownsRow w.heap.size 96 2 v7 st.length (wayCells st)
 omet : dB.R 4 wr w.heap.size (fun _ => True) (.slice (some ⟨gm, 0, none⟩) n cm) met
 inv : I wr tl S
 sub : ∀ i, S i → S0 i ∨ w.heap.size ≤ i
 slt : ∀ i, S i → i < wr.heap.size
 ngm : ¬ S gm
 nway : ∀ b, v7.ownBlock = some b → ¬ S b ∧ b ≠ gm
 fr : Fr S0 w wr
theorem wayCells_cons (p : Int × Int) (st : List (Int × Int)) : wayCells (p :: st) = wayCells st ++ [.int .i64 p.1, .int .i64 p.2] := by simp [wayCells]
theorem wayCells_len (st : List (Int × Int)) : (wayCells st).length = st.length * 2 := by
 induction st with
 | nil => rfl
 | cons p st ih => rw [wayCells_cons, List.length_append, ih]; simp; omega
theorem way_cells {w : World} {base e gw cw : Nat} {a i : Int} {st : List (Int × Int)} (h : w.ownsRow base e 2 (.slice (some ⟨gw, 0, none⟩) (st.length + 1) cw) (st.length + 1) (wayCells ((a, i) :: st))) :
  w.cell? ⟨gw, st.length * 2, none⟩ = some (.int .i64 a) ∧ w.cell? ⟨gw, st.length * 2 + 1, none⟩ = some (.int .i64 i) ∧ w.frozen? ⟨gw, st.length * 2 + 1, none⟩ = false := by
 refine ⟨?_, ?_, h.frozenAt _⟩
 ·rw [h.cellAt _ (by omega), wayCells_cons, List.getElem?_append_right (by rw [wayCells_len]; omega), wayCells_len, Nat.sub_self]
  rfl
 ·rw [h.cellAt _ (by omega), wayCells_cons, List.getElem?_append_right (by rw [wayCells_len]; omega), wayCells_len, Nat.add_sub_cancel_left]
  rfl
theorem below_fr {B : Nat} {S : Nat → Prop} {a w w' : World} (h : Below B a w) (hf : Fr S w w') (hS : ∀ k, S k → B ≤ k) (hB : B ≤ w.heap.size) : Below B a w' :=
 ⟨hf.os.trans h.os, hf.tape.trans h.tape, hf.output.trans h.output, Nat.le_trans h.size hf.size, fun k hk => (hf.block k (by omega) (fun hs => by have := hS k hs; omega)).trans (h.block k hk)⟩
theorem Fr.drewN (S : Nat → Prop) (w : World) (q : Nat) : Fr S w (w.drewN q) := ⟨rfl, rfl, rfl, Nat.le_refl _, fun _ _ _ => rfl⟩
theorem Fr.setCell {S : Nat → Prop} {a w : World} (h : Fr S a w) {p : Addr} (hp : S p.block ∨ a.heap.size ≤ p.block) (u : Value) : Fr S a (w.setCell p u) :=
 ⟨h.os, h.tape, h.output, by have := h.size; simp [World.setCell]; omega, fun k hk hn => by
  rw [Below.heap_setCell _ _ _ _ (fun e => by rcases hp with h1 | h1; exact hn (e ▸ h1); omega)]
  exact h.block k hk hn⟩
theorem Fr.alloc {S : Nat → Prop} {a w : World} (h : Fr S a w) (o : Obj) : Fr S a (w.alloc o) :=
 ⟨h.os, h.tape, h.output, by have := h.size; have := size_alloc1 w o; omega, fun k hk hn => by
  rw [Below.heap_alloc _ _ _ (Nat.lt_of_lt_of_le hk h.size)]
  exact h.block k hk hn⟩
theorem Fr.grown {S : Nat → Prop} {a w w' : World} {row : Option Nat} (h : Fr S a w) (hg : w.grownBy w' row) (hr : ∀ k, row = some k → S k ∨ a.heap.size ≤ k) : Fr S a w' :=
 ⟨hg.os.trans h.os, hg.tape.trans h.tape, hg.output.trans h.output, Nat.le_trans h.size hg.size, fun k hk hn => by
  rw [hg.block k (Nat.lt_of_lt_of_le hk h.size) (fun e => (hr k e.symm).elim hn (fun h1 => by omega))]
  exact h.block k hk hn⟩
section
variable {I : World → List Int → (Nat → Prop) → Prop} {g : List (List Int)} {n gm cm gw cw m : Nat} {w wr : World} {S0 : Nat → Prop} {told : List Int} {k kq : Nat} {met : List Bool} {st : List (Int × Int)} {tl : List Int} {S : Nat → Prop} {a ii b : Int}
theorem each_frame (hI : ∀ W W' l S, I W l S → W.heap.size ≤ W'.heap.size → (∀ k, S k → W'.heap[k]? = W.heap[k]?) → I W' l S) {v7 : Value} (H : EachSt I g n gm cm w S0 told k kq v7 wr met st tl S) (hv : v7.ownBlock = some gw) (hgm : w.heap.size ≤ gm) (hgw : w.heap.size ≤ gw) {W' : World}
  (hf : Fr (fun i => i = gm ∨ i = gw) wr W') : I W' tl S ∧ Fr S0 w W' :=
 ⟨hI _ _ _ _ H.inv hf.size (fun i hi => hf.block i (H.slt i hi) (fun e => by rcases e with e | e; exact H.ngm (e ▸ hi); exact (H.nway gw hv).1 (e ▸ hi))),
   H.fr.trans hf (fun i e => .inr (by rcases e with e | e <;> omega))⟩
theorem each_push (hI : ∀ W W' l S, I W l S → W.heap.size ≤ W'.heap.size → (∀ k, S k → W'.heap[k]? = W.heap[k]?) → I W' l S) (H : EachSt I g n gm cm w S0 told k (kq + 1) (.slice (some ⟨gw, 0, none⟩) (m + 1) cw) wr met ((a, ii) :: st) tl S) (hm : m = st.length)
  (hgm : w.heap.size ≤ gm ∧ gm < wr.heap.size) (hgw : w.heap.size ≤ gw ∧ gw < wr.heap.size) (hl : ii < ((g.getD a.toNat []).length : Int)) (hb : b = (g.getD a.toNat []).getD ii.toNat 0) (hbn : 0 ≤ b ∧ b < (n : Int)) (hmb : rdOf false met b = false)
  {W1 w2 : World} {v' : Value} {q : Nat} {o : Obj} (hW : W1 = ((wr.drewN q).setCell ⟨gm, b.toNat, none⟩ (.bool true)).alloc o) (ho : w2.ownsRow w.heap.size 96 2 v' (m + 1 + 1) (wayCells ((a, ii) :: st) ++ [.int .i64 b, .int .i64 0])) (hgr : W1.grownBy w2 (some gw))
  (hat : v'.ownBlock = some gw ∨ v'.ownBlock = some W1.heap.size) : EachSt I g n gm cm w S0 told k kq v' w2 (met.set b.toNat true) ((b, 0) :: (a, ii) :: st) tl S := by
 have hmgw : gw ≠ gm := (H.nway gw (by simp [Value.ownBlock])).2
 have hsz : W1.heap.size = wr.heap.size + 1 := by rw [hW, size_alloc1]; simp [World.setCell]
 have hfr : Fr (fun i => i = gm ∨ i = gw) wr w2 := by
  have h1 : Fr (fun i => i = gm ∨ i = gw) wr W1 := by rw [hW]; exact ((Fr.drewN _ wr q).setCell (.inl (.inl rfl)) _).alloc _
  exact h1.grown hgr (fun i e => .inl (.inr (by injection e with e; exact e.symm)))
 obtain ⟨h1, h2⟩ := each_frame hI H (by simp [Value.ownBlock]) hgm.1 hgw.1 hfr
 have hmt : met.getD b.toNat true = false := by
  have hlt : b.toNat < met.length := by have := H.lenm; omega
  unfold rdOf at hmb
  rw [List.getD_eq_getElem?_getD, List.getElem?_eq_getElem hlt] at hmb ⊢
  exact hmb
 refine ⟨dfs_push H.run hl hb hmt, ?_, by rw [List.length_set]; exact H.lenm, ?_, ?_, ?_, h1, H.sub, fun i hi => Nat.lt_of_lt_of_le (H.slt i hi) hfr.size, H.ngm, ?_, h2⟩
 ·have := H.fuel
  simp only [List.length_cons] at this ⊢
  omega
 ·intro p hp
  rcases List.mem_cons.1 hp with rfl | hp
  ·exact ⟨hbn.1, hbn.2, Int.le_refl _⟩
  ·exact H.way p hp
 ·rw [wayCells_cons, List.length_cons, List.length_cons, ← hm]
  exact ho
 ·have h3 : dB.R 4 W1 w.heap.size (fun _ => True) (.slice (some ⟨gm, 0, none⟩) n cm) (met.set b.toNat true) := by
   rw [hW]
   exact Kd.R_alloc (Kd.R_putn (Kd.R_drewN H.omet q) b true) o
  exact Kd.R_mono (Kd.R_grown (Kd.R_tight rfl h3) hgr (fun i hi e => by simp only [Value.ownBlock] at hi; rw [hi] at e; injection e with e; exact hmgw e.symm)) (fun _ _ => trivial)
 ·intro b' hb'
  rcases hat with e | e
  ·rw [e] at hb'
   injection hb' with hb'
   subst hb'
   exact H.nway _ (by simp [Value.ownBlock])
  ·rw [e] at hb'
   injection hb' with hb'
   refine ⟨fun hs => ?_, by omega⟩
   have := H.slt _ hs
   omega
theorem wayCells_set : (wayCells ((a, ii) :: st)).set (st.length * 2 + 1) (.int .i64 (ii + 1)) = wayCells ((a, ii + 1) :: st) := by
 rw [wayCells_cons, wayCells_cons, List.set_append_right _ _ (by rw [wayCells_len]; omega), wayCells_len, Nat.add_sub_cancel_left]
 rfl
theorem each_skip (hI : ∀ W W' l S, I W l S → W.heap.size ≤ W'.heap.size → (∀ k, S k → W'.heap[k]? = W.heap[k]?) → I W' l S) (H : EachSt I g n gm cm w S0 told k (kq + 1) (.slice (some ⟨gw, 0, none⟩) (m + 1) cw) wr met ((a, ii) :: st) tl S) (hm : m = st.length)
  (hgm : w.heap.size ≤ gm) (hgw : w.heap.size ≤ gw) (hl : ii < ((g.getD a.toNat []).length : Int)) (hb : b = (g.getD a.toNat []).getD ii.toNat 0) (hbn : 0 ≤ b ∧ b < (n : Int)) (hmb : rdOf false met b = true) (q : Nat) :
  EachSt I g n gm cm w S0 told k kq (.slice (some ⟨gw, 0, none⟩) (m + 1) cw) ((wr.drewN q).setCell ⟨gw, m * 2 + 1, none⟩ (.int .i64 (ii + 1))) met ((a, ii + 1) :: st) tl S := by
 have hmgw : gw ≠ gm := (H.nway gw (by simp [Value.ownBlock])).2
 have hfr : Fr (fun i => i = gm ∨ i = gw) wr ((wr.drewN q).setCell ⟨gw, m * 2 + 1, none⟩ (.int .i64 (ii + 1))) := (Fr.drewN _ wr q).setCell (.inl (.inr rfl)) _
 obtain ⟨h1, h2⟩ := each_frame hI H (by simp [Value.ownBlock]) hgm hgw hfr
 have hmt : met.getD b.toNat true = true := by
  have hlt : b.toNat < met.length := by have := H.lenm; omega
  unfold rdOf at hmb
  rw [List.getD_eq_getElem?_getD, List.getElem?_eq_getElem hlt] at hmb ⊢
  exact hmb
 refine ⟨dfs_skip H.run hl hb hmt, ?_, H.lenm, ?_, ?_, ?_, h1, H.sub, fun i hi => Nat.lt_of_lt_of_le (H.slt i hi) hfr.size, H.ngm, H.nway, h2⟩
 ·have := H.fuel
  simp only [List.length_cons] at this ⊢
  omega
 ·intro p hp
  rcases List.mem_cons.1 hp with rfl | hp
  ·have := H.way (a, ii) List.mem_cons_self
   exact ⟨this.1, this.2.1, by have := this.2.2; simp only at this ⊢; omega⟩
  ·exact H.way p (List.mem_cons_of_mem _ hp)
 ·have h3 := H.own
  rw [List.length_cons, ← hm] at h3 ⊢
  have h4 := World.ownsRow.stored (w := wr.drewN q) (pw_own_drewN h3 q) (m * 2 + 1) (.int .i64 (ii + 1))
  rw [hm, wayCells_set] at h4
  rw [hm]
  exact h4.1
 ·exact Kd.R_mono (Kd.R_far (Kd.R_tight rfl (Kd.R_drewN H.omet q)) (fun i hi => by simp only [Value.ownBlock] at hi; injection hi with hi; exact fun e => hmgw ((show i = gw from e).symm.trans hi)) _) (fun _ _ => trivial)
theorem each_tell (hL : ∀ W l S, I W l S → ∀ k, S k → k < W.heap.size) (H : EachSt I g n gm cm w S0 told k (kq + 1) (.slice (some ⟨gw, 0, none⟩) (m + 1) cw) wr met ((a, ii) :: st) tl S) (hm : m = st.length)
  (hgm : w.heap.size ≤ gm ∧ gm < wr.heap.size) (hgw : w.heap.size ≤ gw ∧ gw < wr.heap.size) (hl : ¬ ii < ((g.getD a.toNat []).length : Int)) {q : Nat} {W1 : World} {S1 : Nat → Prop} (hI1 : I W1 (tl ++ [a]) S1) (hS1 : ∀ k, S1 k → S k ∨ (wr.drewN q).heap.size ≤ k) (hf : Fr S (wr.drewN q) W1) :
  EachSt I g n gm cm w S0 told k kq (.slice (some ⟨gw, 0, none⟩) m cw) W1 met st (tl ++ [a]) S1 := by
 have hmgw : gw ≠ gm := (H.nway gw (by simp [Value.ownBlock])).2
 have hsw : ¬ S gw := (H.nway gw (by simp [Value.ownBlock])).1
 have hS1' : ∀ k, S1 k → S k ∨ wr.heap.size ≤ k := hS1
 have hbk : ∀ i, i < wr.heap.size → ¬ S i → W1.heap[i]? = wr.heap[i]? := fun i hi hn => hf.block i hi hn
 refine ⟨dfs_pop H.run hl, ?_, H.lenm, fun p hp => H.way p (List.mem_cons_of_mem _ hp), ?_, ?_, hI1, ?_, hL _ _ _ hI1, ?_, ?_, ?_⟩
 ·have := H.fuel
  simp only [List.length_cons, List.length_append, List.length_nil] at this ⊢
  omega
 ·have h3 := H.own
  rw [List.length_cons, ← hm, wayCells_cons] at h3
  have h4 := ownsRow_pop (by rw [wayCells_len, hm]) h3
  rw [hm] at h4 ⊢
  exact own_move h4 (fun i hi => hbk i (by simp only [Value.ownBlock] at hi; injection hi with hi; omega) (by simp only [Value.ownBlock] at hi; injection hi with hi; rw [← hi]; exact hsw))
 ·exact Kd.R_mono (Kd.R_move (Kd.R_tight rfl H.omet) (fun i hi => by simp only [Value.ownBlock] at hi; injection hi with hi; subst hi; exact hbk _ hgm.2 H.ngm)) (fun _ _ => trivial)
 ·intro i hi
  rcases hS1' i hi with h1 | h1
  ·exact H.sub i h1
  ·exact .inr (by omega)
 ·intro hs
  rcases hS1' _ hs with h1 | h1
  ·exact H.ngm h1
  ·omega
 ·intro b' hb'
  simp only [Value.ownBlock] at hb'
  injection hb' with hb'
  subst hb'
  refine ⟨fun hs => ?_, hmgw⟩
  rcases hS1' _ hs with h1 | h1
  ·exact hsw h1
  ·omega
 ·exact H.fr.trans ((Fr.drewN S wr q).trans hf (fun i h => .inl h)) (fun i h => H.sub i h)
end
set_option maxHeartbeats 4000000 in
set_option maxRecDepth 100000 in
theorem each_c (f : Nat) (lb : Array Value) (eg : ∀ args w, (callFunc f args).run Tryz.prog w = .ok (.enter f args) w) (I : World → List Int → (Nat → Prop) → Prop) (n : Nat)
  (hmove : ∀ W W' l S, I W l S → W.heap.size ≤ W'.heap.size → (∀ k, S k → W'.heap[k]? = W.heap[k]?) → I W' l S) (hlt : ∀ W l S, I W l S → ∀ k, S k → k < W.heap.size)
  (hstep : ∀ W l S a, I W l S → 0 ≤ a → a < (n : Int) → l.length < 1000000 → Calls Tryz.prog f (#[.int .i64 a] ++ lb) W fun e W' => e = .returned (.tuple #[]) ∧ ∃ S', I W' (l ++ [a]) S' ∧ (∀ k, S' k → S k ∨ W.heap.size ≤ k) ∧ Fr S W W')
  (g : List (List Int)) (hn : g.length = n) (hsm : n ≤ 100000) (hg : ∀ l ∈ g, ∀ b ∈ l, 0 ≤ b ∧ b < (n : Int)) (hgl : ∀ l ∈ g, l.length ≤ 100000)
  (A0 : Option Addr) (c0 : Nat) (S0 : Nat → Prop) (w : World) (hC : ∀ W, Fr S0 w W → dG.C W A0 n g) (from_ : Int) (h0 : 0 ≤ from_) (h1 : from_ < (n : Int)) (k : Nat) (hk : k ≤ 1000000) (told : List Int)
  (hI : I w [] S0) (hd : dfs g k ((List.replicate n false).set from_.toNat true) [(from_, 0)] [] = some told) :
  Calls Tryz.prog 58 #[.slice A0 n c0, .int .i64 from_, .func (.func f) #[] lb] w fun e w' => e = .returned (.tuple #[]) ∧ ∃ S', I w' told S' ∧ (∀ i, S' i → S0 i ∨ w.heap.size ≤ i) ∧ Fr S0 w w' := by
 have HM := Aside0.mk hmove
 have HL := Aside0.mk hlt
 have HST := Aside0.mk hstep
 have HG := Aside0.mk hg
 have HGL := Aside0.mk hgl
 have HC := Aside0.mk hC
 have HI := Aside0.mk hI
 have HD := Aside0.mk hd
 have HN := Aside0.mk hn
 clear hmove hlt hstep hg hgl hC hI hd hn
 go_enter Tryz.func58, Tryz.ntmps58
 have HIS : ∀ W, Calls Tryz.prog 43 #[.slice A0 n c0, .int .i64 from_] W fun e w' => e = .returned (.bool true) ∧ W = w' := fun W => by
  have := is_c from_ A0 n c0 W
  rw [isN_yes h0 h1] at this
  exact this
 have hz : 0 ≤ (n : Int) := by omega
 go_wp2_with (fail)
 go_step3
 go_wp2_with (first | (go_at_call 43; refine (HIS _).mono ?_; rintro e w' ⟨rfl, rfl⟩) | ((with_reducible refine gate_dst (N := 16) rfl ?_); refine Kd.R_make Kd.bool (w0 := w) w.heap.size 4 rfl (N := 16) rfl 56 _ _ rfl (n : Int) rfl rfl Tryz.underlying56 (.bool false) 1 info4 rfl Nat.one_pos Nat.one_pos false (ok := fun _ => True) (okp := fun _ => True) rfl (fun _ hk => hk) trivial hz (by omega) (Below.refl _ _) (Nat.le_refl _) ?_; intro v1 w1 ho1 hb1 hg1 hn1; clear hg1 hn1; rw [Int.toNat_natCast] at ho1; obtain ⟨gm, cm, e1, hgm1, hgm2, _⟩ := Kd.R_form ho1 (by rw [List.length_replicate]; omega); rw [List.length_replicate] at e1; subst e1; have HM1 := Aside0.mk ho1; have HB1 := Aside0.mk hb1; have HGM := Aside0.mk (And.intro hgm1 hgm2); obtain ⟨hx1, hf1⟩ := Kd.R_celln false ho1 from_ h0 h1; clear ho1 hb1 hgm1 hgm2))
 go_step3
 go_wp2
 go_loopg [7] k (fun kq v7 wr => ∃ (met : List Bool) (st : List (Int × Int)) (tl : List Int) (S : Nat → Prop), Aside0 (EachSt I g n gm cm w S0 told k kq v7 wr met st tl S))
 case atStart =>
  refine ⟨(List.replicate n false).set from_.toNat true, [(from_, 0)], [], S0, ⟨?_⟩⟩
  have hS0 : ∀ i, S0 i → i < w.heap.size := HL.out _ _ _ HI.out
  have hf : Fr (fun i => i = gm) w1 ((w1.setCell ⟨gm, from_.toNat, none⟩ (.bool true)).alloc (.cells #[.int .i64 from_, .int .i64 0] 96)) := ((Fr.refl (fun i => i = gm) w1).setCell (.inl rfl) _).alloc _
  have hf1 : Fr S0 w ((w1.setCell ⟨gm, from_.toNat, none⟩ (.bool true)).alloc (.cells #[.int .i64 from_, .int .i64 0] 96)) :=
   (Fr.below HB1.out (fun i hi => .inr hi)).trans hf (fun i e => .inr (by have := HGM.out.1; omega))
  have hsz : w1.heap.size = (w1.setCell ⟨gm, from_.toNat, none⟩ (.bool true)).heap.size := by simp [World.setCell]
  refine ⟨HD.out, ⟨Nat.le_refl _, by simp, by simp; omega⟩, by simp, ?_, ?_, ?_, ?_, fun i hi => .inl hi, fun i hi => Nat.lt_of_lt_of_le (hS0 i hi) hf1.size, fun hs => by have := hS0 _ hs; have := HGM.out.1; omega, ?_, hf1⟩
  ·intro p hp
   obtain rfl := List.mem_singleton.1 hp
   exact ⟨h0, h1, Int.le_refl _⟩
  ·rw [hsz]
   exact World.ownsRow_lit _ #[.int .i64 from_, .int .i64 0] 1 (by rw [← hsz]; exact HB1.out.size) (by decide) rfl
  ·exact Kd.R_alloc (Kd.R_putn HM1.out from_ true) _
  ·exact HM.out _ _ _ _ HI.out hf1.size (fun i hi => (hf.block i (Nat.lt_of_lt_of_le (hS0 i hi) HB1.out.size) (fun e => by have := hS0 _ hi; have := HGM.out.1; omega)).trans (HB1.out.block i (hS0 i hi)))
  ·intro b hb
   simp only [Value.ownBlock] at hb
   injection hb with hb
   have := HGM.out
   have := HB1.out.size
   exact ⟨fun hs => by have := hS0 _ hs; omega, by omega⟩
 case round =>
  obtain ⟨met, st, tl, S, HE⟩ := hrel
  cases st with
  | nil =>
   obtain ⟨A7, c7, e7⟩ := own_slice HE.out.own
   subst e7
   have hl : decide (0 < (([] : List (Int × Int)).length : Int)) = false := rfl
   have hfin : Aside0 (told = tl) := by
    have h := HE.out.run
    cases gk with
    | zero => exact absurd h (by simp [dfs])
    | succ kq => exact ⟨(Option.some.inj (by rw [dfs] at h; exact h)).symm⟩
   go_wp2
   rw [Exit.noGoto_normal]
   go_end0
   exact ⟨rfl, S, by rw [hfin.out]; exact HE.out.inv, HE.out.sub, HE.out.fr⟩
  | cons p st =>
   obtain ⟨a, i⟩ := p
   obtain ⟨gw, cw, e7, hgw1, hgw2, hcw⟩ := own_pos HE.out.own
   subst e7
   obtain ⟨m, hm⟩ : ∃ m, m = st.length := ⟨_, rfl⟩
   rw [← hm] at HE ⊢
   have HMM := Aside0.mk hm
   have hmb : m ≤ 1000001 := by have h := HE.out.fuel.2.2; simp only [List.length_cons] at h; omega
   have hgw : Aside0 (w.heap.size ≤ gw ∧ gw < wr.heap.size) := ⟨hgw1, hgw2⟩
   have hab : 0 ≤ a ∧ a < (n : Int) := ⟨(HE.out.way (a, i) (List.mem_cons_self)).1, (HE.out.way (a, i) (List.mem_cons_self)).2.1⟩
   obtain ⟨ha0, ha1⟩ := hab
   have hmc : m ≤ cw := by omega
   clear hm hgw1 hgw2 hcw
   go_upto_region 6 with (fail)
   obtain ⟨ko, rfl⟩ : ∃ ko, ko = gk := ⟨_, rfl⟩
   obtain ⟨wo, rfl⟩ : ∃ wo, wo = wr := ⟨_, rfl⟩
   go_loopg [7] ko (fun kq v7 wi => ∃ i : Int, v7 = .slice (some ⟨gw, 0, none⟩) (m + 1) cw ∧ Aside0 (EachSt I g n gm cm w S0 told k kq (.slice (some ⟨gw, 0, none⟩) (m + 1) cw) wi met ((a, i) :: st) tl S) ∧ Aside0 (kq ≤ ko))
   case atStart => exact ⟨i, rfl, HE, ⟨Nat.le_refl _⟩⟩
   case round =>
    clear HE
    obtain ⟨ii, rfl, HE, HK⟩ := hrel
    have HG1 := HC.out wr HE.out.fr
    have hown := HE.out.own
    rw [List.length_cons, ← HMM.out] at hown
    have hii : 0 ≤ ii := (HE.out.way (a, ii) (List.mem_cons_self)).2.2
    obtain ⟨hca, hci, hfi⟩ : wr.cell? ⟨gw, m * 2, none⟩ = some (.int .i64 a) ∧ wr.cell? ⟨gw, m * 2 + 1, none⟩ = some (.int .i64 ii) ∧ wr.frozen? ⟨gw, m * 2 + 1, none⟩ = false := by
     have h := HMM.out
     subst h
     exact way_cells hown
    obtain ⟨ad, A1, c1, e1, hx1, hl1, hC1⟩ := at_L1 HG1 a ha0 ha1
    obtain ⟨row, er⟩ : ∃ row, row = rd_L1 g a := ⟨_, rfl⟩
    rw [← er] at hx1 hl1 hC1
    have HR := Aside0.mk er
    have HC1 := Aside0.mk hC1
    clear er hC1 HG1 hown
    cases gk with
    | zero => exact absurd HE.out.run (by simp [dfs])
    | succ kq =>
     by_cases hlt : ii < (row.length : Int)
     ·have hdl : decide (ii < (row.length : Int)) = true := decide_eq_true hlt
      subst e1
      obtain ⟨rb, ro, e2, _, hrc⟩ := C_ints HC1.out (by omega)
      subst e2
      have hcb := hrc ii.toNat (by omega)
      clear hrc
      obtain ⟨b, eb⟩ : ∃ b, b = row.getD ii.toNat 0 := ⟨_, rfl⟩
      rw [← eb] at hcb
      have hb : 0 ≤ b ∧ b < (n : Int) := by
       have hmem : row ∈ g := by
        rw [HR.out]
        unfold rd_L1
        rw [List.getD_eq_getElem?_getD, List.getElem?_eq_getElem (by have := HN.out; omega)]
        exact List.getElem_mem _
       refine HG.out row hmem b ?_
       rw [eb, List.getD_eq_getElem?_getD, List.getElem?_eq_getElem (by omega)]
       exact List.getElem_mem _
      have HBB := Aside0.mk eb
      clear eb
      have hrow : row = g.getD a.toNat [] := HR.out
      have hHL : Aside0 (ii < ((g.getD a.toNat []).length : Int) ∧ b = (g.getD a.toNat []).getD ii.toNat 0) := by
       rw [← hrow]
       exact ⟨hlt, HBB.out⟩
      clear hrow
      obtain ⟨hb0, hb1⟩ := hb
      have HGW : Aside0 ((w.heap.size ≤ gm ∧ gm < wr.heap.size) ∧ (w.heap.size ≤ gw ∧ gw < wr.heap.size)) := by
       refine ⟨⟨HGM.out.1, ?_⟩, ⟨hgw.out.1, ?_⟩⟩
       ·exact Kd.R_lt HE.out.omet gm (by simp [Value.ownBlock])
       ·exact (own_lt HE.out.own gw (by simp [Value.ownBlock]))
      obtain ⟨hcm, hfm⟩ := Kd.R_celln false HE.out.omet b hb0 hb1
      by_cases hmb : rdOf false met b = true
      ·rw [hmb] at hcm
       have hi1 : ii + 1 ≤ 100001 := by
        have hmem : row ∈ g := by
         rw [HR.out]
         unfold rd_L1
         rw [List.getD_eq_getElem?_getD, List.getElem?_eq_getElem (by have := HN.out; omega)]
         exact List.getElem_mem _
        have := HGL.out row hmem
        omega
       have hmb' := Aside0.mk hmb
       clear hmb
       go_wp2
       go_quiet (fail)
       go_wp2
       go_quiet (fail)
       go_wp2
       go_roundg kq
       case measure => exact Nat.lt_succ_self _
       case rel =>
        exact ⟨ii + 1, rfl, ⟨each_skip HM.out HE.out HMM.out HGM.out.1 hgw.out.1 hHL.out.1 hHL.out.2 ⟨hb0, hb1⟩ hmb'.out _⟩, ⟨by have := HK.out; omega⟩⟩
      ·rw [Bool.not_eq_true] at hmb
       rw [hmb] at hcm
       have hmb' := Aside0.mk hmb
       clear hmb
       obtain ⟨ti, hti, hz0, hz1, hz2⟩ := info_parts info_step
       have HTI := Aside0.mk (And.intro hti (And.intro hz0 (And.intro hz1 hz2)))
       clear hti hz0 hz1 hz2
       go_wp2
       go_quiet (fail)
       go_wp2
       go_quiet (fail)
       go_upto_region 11 with (fail)
       go_wp2_with (at_builtin; refine wpList_append_own_at _ rfl _ _ 97 rfl w.heap.size 96 ti (.agg #[.int .i64 0, .int .i64 0]) 2 16 Tryz.underlying97 HTI.out.1 HTI.out.2.1 HTI.out.2.2.1 HTI.out.2.2.2 rfl (by decide) _ _ _ rfl ((own_setCell (pw_own_drewN (by have h := HE.out.own; rw [List.length_cons, ← HMM.out] at h; exact h) _) (by simp only [Value.ownBlock]; intro e; injection e with e; exact (HE.out.nway gw (by simp [Value.ownBlock])).2 e.symm) _).alloc _) ⟨_, 0, none⟩ 1 1 [.int .i64 b, .int .i64 0] rfl rfl (two_cells (size_s _ _ _ _) _ _ _) (fun u hu => by simp at hu; rcases hu with rfl | rfl <;> rfl) (by unfold maxLen; omega) (by omega) (by rw [size_sa]; have := HE.out.fr.size; omega) ?_; intro v2 w2 ho2 hg2 _ hat2; have HE2 := Aside0.mk (each_push HM.out HE.out HMM.out HGW.out.1 HGW.out.2 hHL.out.1 hHL.out.2 ⟨hb0, hb1⟩ hmb'.out rfl ho2 hg2 hat2); clear ho2 hg2 hat2)
       go_roundg kq
       case measure => have := HK.out; omega
       case rel => exact ⟨_, _, _, _, HE2⟩
     ·have hdl : decide (ii < (row.length : Int)) = false := decide_eq_false hlt
      subst e1
      have hrow : row = g.getD a.toNat [] := HR.out
      have hHL : Aside0 (¬ ii < ((g.getD a.toNat []).length : Int)) := by
       rw [← hrow]
       exact ⟨hlt⟩
      clear hrow
      have HGW : Aside0 ((w.heap.size ≤ gm ∧ gm < wr.heap.size) ∧ (w.heap.size ≤ gw ∧ gw < wr.heap.size)) := by
       refine ⟨⟨HGM.out.1, ?_⟩, ⟨hgw.out.1, ?_⟩⟩
       ·exact Kd.R_lt HE.out.omet gm (by simp [Value.ownBlock])
       ·exact (own_lt HE.out.own gw (by simp [Value.ownBlock]))
      have hcall : ∀ q, Calls Tryz.prog f (#[.int .i64 a] ++ lb) (wr.drewN q) fun e W' => e = .returned (.tuple #[]) ∧ ∃ S', I W' (tl ++ [a]) S' ∧ (∀ k, S' k → S k ∨ (wr.drewN q).heap.size ≤ k) ∧ Fr S (wr.drewN q) W' :=
       fun q => HST.out _ tl S a (HM.out wr _ tl S HE.out.inv (Nat.le_refl _) (fun _ _ => rfl)) ha0 ha1 (by have := HE.out.fuel; omega)
      go_wp2
      go_quiet (fail)
      go_wp2_with (go_at_fn f; refine (hcall _).mono ?_; rintro e w2 ⟨rfl, S1, hI1, hS1, hf1⟩; have HE2 := Aside0.mk (each_tell HL.out HE.out HMM.out HGW.out.1 HGW.out.2 (by have := hHL.out; omega) hI1 hS1 hf1); clear hI1 hS1 hf1)
      go_roundg kq
      case measure => have := HK.out; omega
      case rel => exact ⟨_, _, _, _, HE2⟩
end Go.Proofs.YtemcmcnhpdkdfaaGreat.P
namespace Go.Proofs.YtemcmcnhpdkdfaaGreat.P
open Go.RowKit Go.Lib Go.Sort Go.Shelf Go.Proofs.YtemcmcnhpdkdfaaGreatW.PrintWords Go.Proofs.YtemcmcnhpdkdfaaGreatW.PrintLast Go.Proofs.YtemcmcnhpdkdfaaGreatW.PrintMore
def ITold (Bv base : Nat) (W : World) (l : List Int) (S : Nat → Prop) : Prop :=
 ∃ v, W.heap[Bv]? = some (.cells #[v] 23 (0, 0)) ∧ dI.R 3 W base (fun _ => True) v l ∧ ∀ k, S k ↔ k = Bv ∨ v.ownBlock = some k
theorem ITold.move {Bv base : Nat} (W W' : World) (l : List Int) (S : Nat → Prop) (h : ITold Bv base W l S) (_ : W.heap.size ≤ W'.heap.size) (hs : ∀ k, S k → W'.heap[k]? = W.heap[k]?) : ITold Bv base W' l S := by
 obtain ⟨v, h1, h2, h3⟩ := h
 exact ⟨v, (hs Bv ((h3 Bv).2 (.inl rfl))).trans h1, Kd.R_mono (Kd.R_move (Kd.R_tight rfl h2) (fun k hk => hs k ((h3 k).2 (.inr hk.symm)))) (fun _ _ => trivial), h3⟩
theorem ITold.lt {Bv base : Nat} (W : World) (l : List Int) (S : Nat → Prop) (h : ITold Bv base W l S) (k : Nat) (hk : S k) : k < W.heap.size := by
 obtain ⟨v, h1, h2, h3⟩ := h
 rcases (h3 k).1 hk with rfl | e
 ·exact lt_of_block h1
 ·exact own_lt (R_ints h2) k e
theorem row_apart {w : World} {B base : Nat} {ok : Nat → Prop} {u v : Value} {xs : List Int} (hb : w.heap[B]? = some (.cells #[u] 23 (0, 0))) (h : dI.R 3 w base ok v xs) : v.ownBlock ≠ some B := by
 intro e
 obtain ⟨cells, hc⟩ := own_typed (R_ints h) B e
 rw [hb] at hc
 injection hc with hc
 injection hc with _ hc
 exact absurd hc (by decide)
theorem ITold.app {Bv base : Nat} {W w2 : World} {l : List Int} {S : Nat → Prop} {v v2 : Value} {a : Int} {o : Obj} (h1 : W.heap[Bv]? = some (.cells #[v] 23 (0, 0))) (h2 : dI.R 3 W base (fun _ => True) v l) (h3 : ∀ k, S k ↔ k = Bv ∨ v.ownBlock = some k)
  (ho : w2.ownsRow base 3 1 v2 (l.length + 1) (l.map (Value.int .i64) ++ [.int .i64 a])) (hg : (W.alloc o).grownBy w2 v.ownBlock) (hat : v2.ownBlock = v.ownBlock ∨ v2.ownBlock = some (W.heap.size + 1)) :
  w2.heap[Bv]? = some (.cells #[v] 23 (0, 0)) ∧ ∃ S', ITold Bv base (w2.setCell ⟨Bv, 0, none⟩ v2) (l ++ [a]) S' ∧ (∀ k, S' k → S k ∨ W.heap.size ≤ k) ∧ Fr S W (w2.setCell ⟨Bv, 0, none⟩ v2) := by
 have hlt := lt_of_block h1
 have hne : v.ownBlock ≠ some Bv := by
  intro e
  obtain ⟨cells, hc⟩ := own_typed (R_ints h2) Bv e
  rw [h1] at hc
  injection hc with hc
  injection hc with _ hc
  exact absurd hc (by decide)
 have e2 : w2.heap[Bv]? = some (.cells #[v] 23 (0, 0)) := by
  rw [hg.block Bv (by rw [size_alloc1]; omega) (fun e => hne e.symm), Below.heap_alloc _ _ _ hlt]
  exact h1
 have hne2 : v2.ownBlock ≠ some Bv := by
  rcases hat with e | e
  ·rw [e]; exact hne
  ·rw [e]; intro h; injection h with h; omega
 refine ⟨e2, fun k => k = Bv ∨ v2.ownBlock = some k, ⟨v2, one_setCell e2, ?_, fun _ => Iff.rfl⟩, ?_, ?_⟩
 ·refine ints_R ?_ (fun _ _ => trivial)
  rw [List.length_append, List.length_singleton, List.map_append]
  exact ownsRow_setCell_other ho hne2 _
 ·intro k hk
  rcases hk with hk | hk
  ·exact .inl ((h3 k).2 (.inl hk))
  ·rcases hat with e | e
   ·exact .inl ((h3 k).2 (.inr (by rw [← e]; exact hk)))
   ·rw [e] at hk
    injection hk with hk
    exact .inr (by omega)
 ·exact ((Fr.refl S W).alloc o |>.grown hg (fun k e => .inl ((h3 k).2 (.inr e)))).setCell (.inl ((h3 Bv).2 (.inl rfl))) _
set_option maxHeartbeats 4000000 in
set_option maxRecDepth 100000 in
theorem ITold.step {Bv base : Nat} (hb : base ≤ Bv) (W : World) (l : List Int) (S : Nat → Prop) (a : Int) (h : ITold Bv base W l S) (hl : l.length < 1000000) :
  Calls Tryz.prog 72 (#[.int .i64 a] ++ #[.pointer (some ⟨Bv, 0, none⟩)]) W fun e W' => e = .returned (.tuple #[]) ∧ ∃ S', ITold Bv base W' (l ++ [a]) S' ∧ (∀ k, S' k → S k ∨ W.heap.size ≤ k) ∧ Fr S W W' := by
 show Calls Tryz.prog 72 #[.int .i64 a, .pointer (some ⟨Bv, 0, none⟩)] W _
 obtain ⟨v, h1, h2, h3⟩ := h
 have hlt := lt_of_block h1
 have hc := cell_of_one h1
 have hf := free_of_one h1
 have HO := Aside0.mk (R_ints h2)
 have H1 := Aside0.mk h1
 have H3 := Aside0.mk h3
 have H2 := Aside0.mk h2
 clear h1 h2 h3
 obtain ⟨ti, hti, hz0, hz1, hz2⟩ := info_parts info3
 have HTI := Aside0.mk (And.intro hti (And.intro hz0 (And.intro hz1 hz2)))
 clear hti hz0 hz1 hz2
 go_enter Tryz.func72, Tryz.ntmps72
 go_wp2_with (at_builtin; refine wpList_append_own_at _ rfl _ _ 23 rfl base 3 ti (.int .i64 0) 1 8 Tryz.underlying23 HTI.out.1 HTI.out.2.1 HTI.out.2.2.1 HTI.out.2.2.2 rfl (by decide) v l.length _ rfl (HO.out.alloc _) ⟨_, 0, none⟩ 1 1 [.int .i64 a] rfl rfl (one_cells rfl _ _) (fun u hu => by simp at hu; subst hu; rfl) (by unfold maxLen; omega) (by omega) (by rw [size_alloc1]; omega) ?_; intro v2 w2 ho2 hg2 _ hat2; rw [size_alloc1] at hat2; (have happ := ITold.app H1.out H2.out H3.out ho2 hg2 hat2); obtain ⟨A2, c2, rfl⟩ := own_slice ho2; have hc2 := cell_of_one happ.1; have hf2 := free_of_one happ.1; have HA := Aside0.mk happ.2; clear ho2 hg2 hat2 happ)
 go_end0
 exact ⟨rfl, HA.out⟩
theorem marks_snoc (n : Nat) (l : List Int) (a : Int) : marks n (l ++ [a]) = (marks n l).set a.toNat true := by simp [marks]
def IMark (Bv base go n cap : Nat) (W : World) (l : List Int) (S : Nat → Prop) : Prop :=
 W.heap[Bv]? = some (.cells #[.slice (some ⟨go, 0, none⟩) n cap] 56 (0, 0)) ∧ dB.R 4 W base (fun _ => True) (.slice (some ⟨go, 0, none⟩) n cap) (marks n l) ∧ go ≠ Bv ∧ ∀ k, S k ↔ k = Bv ∨ k = go
theorem IMark.move {Bv base go n cap : Nat} (W W' : World) (l : List Int) (S : Nat → Prop) (h : IMark Bv base go n cap W l S) (_ : W.heap.size ≤ W'.heap.size) (hs : ∀ k, S k → W'.heap[k]? = W.heap[k]?) : IMark Bv base go n cap W' l S := by
 obtain ⟨h1, h2, h4, h3⟩ := h
 exact ⟨(hs Bv ((h3 Bv).2 (.inl rfl))).trans h1, Kd.R_mono (Kd.R_move (Kd.R_tight rfl h2) (fun k hk => hs k ((h3 k).2 (.inr (by simp only [Value.ownBlock] at hk; injection hk))))) (fun _ _ => trivial), h4, h3⟩
theorem IMark.lt {Bv base go n cap : Nat} (W : World) (l : List Int) (S : Nat → Prop) (h : IMark Bv base go n cap W l S) (k : Nat) (hk : S k) : k < W.heap.size := by
 obtain ⟨h1, h2, _, h3⟩ := h
 rcases (h3 k).1 hk with rfl | rfl
 ·exact lt_of_block h1
 ·exact Kd.R_lt h2 k (by simp [Value.ownBlock])
set_option maxHeartbeats 4000000 in
set_option maxRecDepth 100000 in
theorem IMark.step {Bv base go n cap : Nat} (W : World) (l : List Int) (S : Nat → Prop) (a : Int) (h : IMark Bv base go n cap W l S) (h0 : 0 ≤ a) (h1 : a < (n : Int)) :
  Calls Tryz.prog 59 (#[.int .i64 a] ++ #[.pointer (some ⟨Bv, 0, none⟩)]) W fun e W' => e = .returned (.tuple #[]) ∧ ∃ S', IMark Bv base go n cap W' (l ++ [a]) S' ∧ (∀ k, S' k → S k ∨ W.heap.size ≤ k) ∧ Fr S W W' := by
 show Calls Tryz.prog 59 #[.int .i64 a, .pointer (some ⟨Bv, 0, none⟩)] W _
 obtain ⟨h4, h2, h5, h3⟩ := h
 have hc := cell_of_one h4
 obtain ⟨hcg, hfg⟩ := Kd.R_celln false h2 a h0 h1
 have HA : Aside0 (∃ S', IMark Bv base go n cap (W.setCell ⟨go, a.toNat, none⟩ (.bool true)) (l ++ [a]) S' ∧ (∀ k, S' k → S k ∨ W.heap.size ≤ k) ∧ Fr S W (W.setCell ⟨go, a.toNat, none⟩ (.bool true))) := by
  refine ⟨S, ⟨?_, ?_, h5, h3⟩, fun k hk => .inl hk, (Fr.refl S W).setCell (.inl ((h3 go).2 (.inr rfl))) _⟩
  ·rw [Below.heap_setCell _ _ _ _ (fun e => h5 e.symm)]
   exact h4
  ·rw [marks_snoc]
   exact Kd.R_putn h2 a true
 clear h2 h3 h4 h5
 go_enter Tryz.func59, Tryz.ntmps59
 go_wp2
 go_end0
 exact ⟨rfl, HA.out⟩
set_option maxHeartbeats 1000000 in
theorem each_no (fv : Value) (A0 : Option Addr) (n c0 : Nat) (from_ : Int) (w : World) (h : isN n from_ = false) :
  Calls Tryz.prog 58 #[.slice A0 n c0, .int .i64 from_, fv] w fun e w' => e = .returned (.tuple #[]) ∧ w = w' := by
 have HIS : ∀ W, Calls Tryz.prog 43 #[.slice A0 n c0, .int .i64 from_] W fun e w' => e = .returned (.bool false) ∧ W = w' := fun W => by
  have := is_c from_ A0 n c0 W
  rw [h] at this
  exact this
 clear h
 go_enter Tryz.func58, Tryz.ntmps58
 go_wp2_with (fail)
 go_step3
 go_wp2_with (go_at_call 43; refine (HIS _).mono ?_; rintro e w' ⟨rfl, rfl⟩)
 rw [Exit.noGoto_ret]
 refine bodyPost_ret (results_none rfl _ _ _) rfl ?_
 exact ⟨rfl, rfl⟩
theorem each_told (f : Nat) (lb : Array Value) (eg : ∀ args w, (callFunc f args).run Tryz.prog w = .ok (.enter f args) w) (I : World → List Int → (Nat → Prop) → Prop) (n : Nat)
  (hmove : ∀ W W' l S, I W l S → W.heap.size ≤ W'.heap.size → (∀ k, S k → W'.heap[k]? = W.heap[k]?) → I W' l S) (hlt : ∀ W l S, I W l S → ∀ k, S k → k < W.heap.size)
  (hstep : ∀ W l S a, I W l S → 0 ≤ a → a < (n : Int) → l.length < 1000000 → Calls Tryz.prog f (#[.int .i64 a] ++ lb) W fun e W' => e = .returned (.tuple #[]) ∧ ∃ S', I W' (l ++ [a]) S' ∧ (∀ k, S' k → S k ∨ W.heap.size ≤ k) ∧ Fr S W W')
  (g : List (List Int)) (hn : g.length = n) (hsm : n ≤ 100000) (hg : ∀ l ∈ g, ∀ b ∈ l, 0 ≤ b ∧ b < (n : Int)) (hgl : ∀ l ∈ g, l.length ≤ 100000)
  (A0 : Option Addr) (c0 : Nat) (S0 : Nat → Prop) (w : World) (hC : ∀ W, Fr S0 w W → dG.C W A0 n g) (from_ : Int) (told : List Int) (hI : I w [] S0) (hd : toldOf g from_ = some told) :
  Calls Tryz.prog 58 #[.slice A0 n c0, .int .i64 from_, .func (.func f) #[] lb] w fun e w' => e = .returned (.tuple #[]) ∧ ∃ S', I w' told S' ∧ (∀ i, S' i → S0 i ∨ w.heap.size ≤ i) ∧ Fr S0 w w' := by
 unfold toldOf at hd
 split at hd
 ·rename_i h
  rw [hn] at h hd
  obtain ⟨h0, h1⟩ := isN_iff.1 h
  exact each_c f lb eg I n hmove hlt hstep g hn hsm hg hgl A0 c0 S0 w hC from_ h0 h1 1000000 (Nat.le_refl _) told hI hd
 ·rename_i h
  rw [hn, Bool.not_eq_true] at h
  obtain rfl := Option.some.inj hd
  refine (each_no _ A0 n c0 from_ w h).mono ?_
  rintro e w' ⟨rfl, rfl⟩
  exact ⟨rfl, S0, hI, fun i hi => .inl hi, Fr.refl _ _⟩
theorem clean_stays {w : World} {base : Nat} {A : Option Addr} {n c : Nat} {xs : List (List Int)} {S : Nat → Prop} (h : Kd.S dG 23 w base (fun _ => True) (.slice A n c) xs) (hn : n = xs.length) (hS : ∀ k, S k → k < base) (W : World) (hf : Fr S w W) : dG.C W A n xs := by
 have h1 := Kd.S_step (w1 := W) (Kd.S_bound h) (fun k hk hlt => hf.block k hlt (fun hs => by have := hS k hs; have := hk.2.1; omega))
 have h2 := (Kd.S_reads' h1).2.2
 rw [← (Kd.S_reads' h1).1] at h2
 rw [hn] at h2 ⊢
 exact h2
theorem row_stays {w : World} {base : Nat} {A : Option Addr} {n c : Nat} {xs : List (List Int)} {S : Nat → Prop} (h : Kd.S dG 23 w base (fun _ => True) (.slice A n c) xs) (hS : ∀ k, S k → k < base) {k : Nat} (hk : k < n) :
  ∃ g A1 c1, A = some ⟨g, 0, none⟩ ∧ (xs.getD k []).length ≤ c1 ∧ ∀ W, Fr S w W → W.cell? ⟨g, k, none⟩ = some (.slice A1 (xs.getD k []).length c1) ∧ dI.C W A1 (xs.getD k []).length (xs.getD k []) := by
 have hn := (Kd.S_reads' h).1
 obtain ⟨g, cap, e, hb, hl, _⟩ := Kd.S_form h (by omega)
 injection e with e1 e2 e3
 subst e1
 obtain ⟨oki, cc, hcl, hM, hcc, _, _, _⟩ := Kd.S_elem h [] (k : Int) (by omega) (by omega)
 have hs1 : dG.sz = 1 := rfl
 obtain ⟨u, rfl⟩ : ∃ u, cc = [u] := List.length_eq_one_iff.1 (hcl.trans hs1)
 have hu := hcc 0 u rfl
 rw [hs1, Int.toNat_natCast, Nat.mul_one, Nat.add_zero] at hu
 rw [Int.toNat_natCast] at hM
 obtain ⟨u', e', hR⟩ := hM
 injection e' with e'
 subst e'
 obtain ⟨A1, c1, e4, hl1, _⟩ := Kd.R_reads hR
 subst e4
 refine ⟨g, A1, c1, rfl, hl1, fun W hf => ⟨?_, ?_⟩⟩
 ·have hbk := hf.block g hl (fun hs => by have := hS g hs; omega)
  simp only [World.cell?, hbk]
  exact hu
 ·have h2 := Kd.R_step (w1 := W) (Kd.R_bound hR) (fun b hbk hlt => hf.block b hlt (fun hs => by have := hS b hs; have := hbk.2.1; omega))
  exact (Kd.R_reads' h2).2.2
theorem fr_putRow (w : World) (g q : Nat) (d : Array Int) : Fr (fun k => k = g) w (putRow (Value.int .i64) (Sort.ahead w q) g 0 d) :=
 ⟨rfl, rfl, rfl, by simp [putRow, mapBlock, Sort.ahead], fun k _ hn => by
  have hn' : ¬ g = k := fun e => hn e.symm
  simp [putRow, mapBlock, Sort.ahead, Array.getElem?_modify, hn']⟩
theorem reverse_c (v : Value) (xs : List Int) (base : Nat) (ok : Nat → Prop) (w : World) (h : dI.R 3 w base ok v xs) (hb : xs.length ≤ 9223372036854775807) :
  Calls Tryz.prog 73 #[v] w fun e w' => e = .returned (.tuple #[]) ∧ dI.R 3 w' base ok v xs.reverse ∧ Fr (fun k => v.ownBlock = some k) w w' := by
 rcases R_ints_form h with ⟨rfl, rfl⟩ | ⟨g, cap, rfl, hbg, hlt, hn, hH⟩
 ·refine (Tryz.slices_Reverse_int_empty none 0 w).mono ?_
  rintro e w' ⟨rfl, rfl⟩
  exact ⟨rfl, h, Fr.refl _ _⟩
 ·refine (Tryz.slices_Reverse_int g 0 cap xs w hH hb).mono ?_
  rintro e w' ⟨rfl, n, rfl⟩
  refine ⟨rfl, R_put h (by simp) (by simp) (by rw [List.take_of_length_le (Nat.le_refl _)]) (by simp), ?_⟩
  have := fr_putRow w g n xs.reverse.toArray
  exact ⟨this.os, this.tape, this.output, this.size, fun k hk hn => this.block k hk (fun e => hn (by simp [Value.ownBlock, e]))⟩
set_option maxHeartbeats 4000000 in
set_option maxRecDepth 100000 in
theorem graph_Order.calls (A0 : Option Addr) (c0 : Nat) (l0 : List (List Int)) (a1 : Int) (r : List Int) (w : World) (hr0 : Kd.C (Kd.slice 3 (Kd.int .i64)) w A0 l0.length l0) (hc0 : l0.length ≤ c0) (h : graph_Order.f l0 a1 = some r) :
  Calls Tryz.prog 47 #[.slice A0 l0.length c0, .int .i64 a1] w fun e w' => ∃ v0_ : Value, e = .returned v0_ ∧ Kd.R (Kd.int .i64) 3 w' w.heap.size (fun _ => True) v0_ r ∧ Below w.heap.size w w' := by
 have HR0 := Aside0.mk hr0
 have HC0 := Aside0.mk hc0
 obtain ⟨hfit, t, ht, rfl⟩ : fits l0 = true ∧ ∃ t, toldOf (clean l0) a1 = some t ∧ t.reverse = r := by
  unfold graph_Order.f at h
  split at h
  ·exact ⟨by assumption, by simpa using h⟩
  ·cases h
 have HF := Aside0.mk hfit
 have HT := Aside0.mk ht
 clear hr0 hc0 h hfit ht
 have HCL : ∀ o, Calls Tryz.prog 39 #[.slice A0 l0.length c0] (w.alloc o) fun e w' => ∃ v0_ : Value, e = .returned v0_ ∧ Kd.S (Kd.slice 3 (Kd.int .i64)) 23 w' (w.alloc o).heap.size (fun _ => True) v0_ (clean l0) ∧ Below (w.alloc o).heap.size (w.alloc o) w' :=
  fun o => graph_Clean.calls A0 c0 l0 (clean l0) (w.alloc o) (Kd.C_alloc HR0.out o) HC0.out (by unfold graph_Clean.f; rw [if_pos HF.out])
 go_enter Tryz.func47, Tryz.ntmps47
 go_wp2_with (go_at_call 39; refine (HCL _).mono ?_; rintro e w2 ⟨v2, rfl, ho2, hb2⟩; obtain ⟨A2, c2, e2, hl2, _⟩ := Kd.S_reads ho2; rw [clean_len] at e2 hl2; subst e2; rw [size_alloc1] at ho2 hb2; have HO2 := Aside0.mk ho2; have HB2 := Aside0.mk hb2; clear ho2 hb2)
 have HN : Aside0 (l0.length ≤ 100000) := by
  have := HF.out
  unfold fits at this
  simp only [Bool.and_eq_true, decide_eq_true_eq] at this
  exact ⟨this.1⟩
 have hbv : w2.heap[w.heap.size]? = some (.cells #[.slice none 0 0] 23 (0, 0)) := (HB2.out.block w.heap.size (Nat.lt_succ_self _)).trans (heap_alloc_new w _)
 have HEA := each_told 72 #[.pointer (some ⟨w.heap.size, 0, none⟩)] (enters_of Tryz.func72 (by kernel_rfl) rfl) (ITold w.heap.size w.heap.size) l0.length ITold.move ITold.lt (fun W l S a h _ _ hl => ITold.step (Nat.le_refl _) W l S a h hl)
  (clean l0) (clean_len l0) HN.out clean_valid (clean_small HF.out) A2 c2 (fun k => k = w.heap.size) w2 (fun W hf => clean_stays HO2.out (clean_len l0).symm (fun k hk => by omega) W hf) a1 t ⟨_, hbv, Kd.R_nil _ _ _ _ _, fun k => by simp [Value.ownBlock]⟩ HT.out
 have HEA' := Aside0.mk HEA
 clear HEA hbv
 go_wp2_with (go_at_call 58; refine HEA'.out.mono ?_; rintro e w3 ⟨rfl, S3, hI3, hS3, hf3⟩; obtain ⟨v3, hb3, ho3, hs3⟩ := hI3; have hc3 := cell_of_one hb3; have HO3 := Aside0.mk ho3; have HF3 := Aside0.mk hf3; have HB3 := Aside0.mk hb3; clear hb3 ho3 hs3 hf3 hS3)
 have hlen : Aside0 (t.length ≤ 1000000) := ⟨toldOf_len HT.out⟩
 go_wp2_with (go_at_call 73; refine (reverse_c _ _ _ _ _ HO3.out (by have := hlen.out; omega)).mono ?_; rintro e w4 ⟨rfl, ho4, hf4⟩; (have hc4 : w4.cell? ⟨w.heap.size, 0, none⟩ = some v3 := cell_of_one ((hf4.block _ (lt_of_block HB3.out) (row_apart HB3.out HO3.out)).trans HB3.out)); have HO4 := Aside0.mk ho4; have HF4 := Aside0.mk hf4; clear ho4 hf4)
 go_ret
 refine ⟨_, rfl, HO4.out, ?_⟩
 have h2 : Below w.heap.size w w2 := (below_alloc (Below.refl _ _) _).trans (HB2.out.mono (Nat.le_succ _))
 have h3 : Below w.heap.size w w3 := below_fr h2 HF3.out (fun k hk => by omega) h2.size
 exact below_fr h3 HF4.out (fun k hk => own_base (R_ints HO3.out) k hk) h3.size
theorem R_form' {α : Type} {d : Kd α} {e b : Nat} {w : World} {base : Nat} {ok : Nat → Prop} {v : Value} {xs : List α} (h : d.R e w base ok v xs) (hb : v.ownBlock = some b) : ∃ cap, v = .slice (some ⟨b, 0, none⟩) xs.length cap := by
 obtain ⟨_, inner, ho, _⟩ := h
 rcases ho.2 with ⟨rfl, _⟩ | ⟨g, cap, cur, rfl, _⟩
 ·simp [Value.ownBlock] at hb
 ·simp only [Value.ownBlock] at hb
  injection hb with hb
  subst hb
  exact ⟨cap, rfl⟩
set_option maxHeartbeats 4000000 in
set_option maxRecDepth 100000 in
theorem graph_Reach.calls (A0 : Option Addr) (c0 : Nat) (l0 : List (List Int)) (a1 : Int) (r : List Bool) (w : World) (hr0 : Kd.C (Kd.slice 3 (Kd.int .i64)) w A0 l0.length l0) (hc0 : l0.length ≤ c0) (h : graph_Reach.f l0 a1 = some r) :
  Calls Tryz.prog 34 #[.slice A0 l0.length c0, .int .i64 a1] w fun e w' => ∃ v0_ : Value, e = .returned v0_ ∧ Kd.R Kd.bool 4 w' w.heap.size (fun _ => True) v0_ r ∧ Below w.heap.size w w' := by
 have HR0 := Aside0.mk hr0
 have HC0 := Aside0.mk hc0
 obtain ⟨hfit, t, ht, rfl⟩ : fits l0 = true ∧ ∃ t, toldOf (clean l0) a1 = some t ∧ marks l0.length t = r := by
  unfold graph_Reach.f at h
  split at h
  ·exact ⟨by assumption, by simpa using h⟩
  ·cases h
 have HF := Aside0.mk hfit
 have HT := Aside0.mk ht
 have hn : l0.length ≤ 100000 := by
  unfold fits at hfit
  simp only [Bool.and_eq_true, decide_eq_true_eq] at hfit
  exact hfit.1
 clear hr0 hc0 h hfit ht
 have hz : 0 ≤ (l0.length : Int) := by omega
 have HCL : ∀ W, Below w.heap.size w W → Calls Tryz.prog 39 #[.slice A0 l0.length c0] W fun e w' => ∃ v0_ : Value, e = .returned v0_ ∧ Kd.S (Kd.slice 3 (Kd.int .i64)) 23 w' W.heap.size (fun _ => True) v0_ (clean l0) ∧ Below W.heap.size W w' :=
  fun W hW => graph_Clean.calls A0 c0 l0 (clean l0) W (Kd.C_below HR0.out hW) HC0.out (by unfold graph_Clean.f; rw [if_pos HF.out])
 have HCL' := Aside0.mk HCL
 clear HCL
 go_enter Tryz.func34, Tryz.ntmps34
 go_wp2_with (first | ((with_reducible refine gate_dst (N := 8) rfl ?_); refine Kd.R_make Kd.bool (w0 := w) w.heap.size 4 rfl (N := 8) rfl 56 _ _ rfl (l0.length : Int) rfl rfl Tryz.underlying56 (.bool false) 1 info4 rfl Nat.one_pos Nat.one_pos false (ok := fun _ => True) (okp := fun _ => True) rfl (fun _ hk => hk) trivial hz (by omega) (Below.refl _ _) (Nat.le_refl _) ?_; intro v1 w1 ho1 hb1 hg1 hn1; clear hg1; obtain ⟨go, hn1, _⟩ := hn1; obtain ⟨cap, e1⟩ := R_form' ho1 hn1; rw [List.length_replicate, Int.toNat_natCast] at e1; subst e1; rw [Int.toNat_natCast] at ho1; have HO1 := Aside0.mk ho1; have HB1 := Aside0.mk hb1; clear ho1 hb1 hn1) | (go_at_call 39; refine (HCL'.out _ (below_alloc HB1.out _)).mono ?_; rintro e w2 ⟨v2, rfl, ho2, hb2⟩; obtain ⟨A2, c2, e2, hl2, _⟩ := Kd.S_reads ho2; rw [clean_len] at e2 hl2; subst e2; rw [size_alloc1] at ho2 hb2; have HO2 := Aside0.mk ho2; have HB2 := Aside0.mk hb2; clear ho2 hb2))
 have hgo : go < w1.heap.size := Kd.R_lt HO1.out go (by simp [Value.ownBlock])
 have hgb : w.heap.size ≤ go := Kd.R_base HO1.out go (by simp [Value.ownBlock])
 have hbv : w2.heap[w1.heap.size]? = some (.cells #[.slice (some ⟨go, 0, none⟩) l0.length cap] 56 (0, 0)) := (HB2.out.block w1.heap.size (Nat.lt_succ_self _)).trans (heap_alloc_new w1 _)
 have hrow : Kd.R Kd.bool 4 w2 w.heap.size (fun _ => True) (.slice (some ⟨go, 0, none⟩) l0.length cap) (List.replicate l0.length false) := Kd.R_below (Kd.R_alloc HO1.out _) (by rw [size_alloc1]; exact HB2.out)
 have HEA := Aside0.mk (each_told 59 #[.pointer (some ⟨w1.heap.size, 0, none⟩)] (enters_of Tryz.func59 (by kernel_rfl) rfl) (IMark w1.heap.size w.heap.size go l0.length cap) l0.length IMark.move IMark.lt (fun W l S a h h0 h1 _ => IMark.step W l S a h h0 h1)
  (clean l0) (clean_len l0) hn clean_valid (clean_small HF.out) A2 c2 (fun k => k = w1.heap.size ∨ k = go) w2 (fun W hf => clean_stays HO2.out (clean_len l0).symm (fun k hk => by omega) W hf) a1 t ⟨hbv, hrow, by omega, fun k => Iff.rfl⟩ HT.out)
 have HG := Aside0.mk (And.intro hgo hgb)
 clear hbv hrow hgo hgb
 go_wp2_with (go_at_call 58; refine HEA.out.mono ?_; rintro e w3 ⟨rfl, S3, hI3, hS3, hf3⟩; obtain ⟨hb3, ho3, _, hs3⟩ := hI3; have hc3 := cell_of_one hb3; have HO3 := Aside0.mk ho3; have HF3 := Aside0.mk hf3; clear hb3 ho3 hs3 hf3 hS3)
 go_ret
 refine ⟨_, rfl, HO3.out, ?_⟩
 have h2 : Below w.heap.size w w2 := (below_alloc HB1.out _).trans (HB2.out.mono (by have := HB1.out.size; omega))
 exact below_fr h2 HF3.out (fun k hk => by have := HG.out; rcases hk with hk | hk <;> omega) h2.size
end Go.Proofs.YtemcmcnhpdkdfaaGreat.P
namespace Go.Proofs.YtemcmcnhpdkdfaaGreat.P
open Go.RowKit Go.Lib Go.Sort Go.Shelf Go.Proofs.YtemcmcnhpdkdfaaGreatW.PrintWords Go.Proofs.YtemcmcnhpdkdfaaGreatW.PrintLast Go.Proofs.YtemcmcnhpdkdfaaGreatW.PrintMore
theorem S_appelem {w : World} {base go n cap j : Nat} {xs : List (List Int)} {ok : Nat → Prop} (h : Kd.S dG 23 w base ok (.slice (some ⟨go, 0, none⟩) n cap) xs) (hnew : ∀ k, w.heap.size ≤ k → ok k) (hj : j < n) :
  ∃ A c, w.cell? ⟨go, j, none⟩ = some (.slice A (xs.getD j []).length c) ∧ w.ownsRow base 3 1 (.slice A (xs.getD j []).length c) (xs.getD j []).length ((xs.getD j []).map (Value.int .i64)) ∧ (∀ k, (Value.slice A (xs.getD j []).length c).ownBlock = some k → ok k) ∧ ok go ∧
   ∀ o w2 v2 a, w2.ownsRow base 3 1 v2 ((xs.getD j []).length + 1) ((xs.getD j []).map (Value.int .i64) ++ [.int .i64 a]) → (w.alloc o).grownBy w2 (Value.slice A (xs.getD j []).length c).ownBlock →
    (v2.ownBlock = (Value.slice A (xs.getD j []).length c).ownBlock ∨ v2.ownBlock = some (w.heap.size + 1)) →
    (∃ u, w2.cell? ⟨go, j, none⟩ = some u ∧ w2.frozen? ⟨go, j, none⟩ = false) ∧ Kd.S dG 23 (w2.setCell ⟨go, j, none⟩ v2) base ok (.slice (some ⟨go, 0, none⟩) n cap) (xs.set j (xs.getD j [] ++ [a])) := by
 have hgo : go < w.heap.size := Kd.S_lt h go (by simp [Value.ownBlock])
 have hgb : base ≤ go := Kd.S_base h go (by simp [Value.ownBlock])
 have h2 : Kd.S dG 23 w base (fun k => ok k ∧ ¬ (w.heap.size ≤ k)) (.slice (some ⟨go, 0, none⟩) n cap) xs := Kd.S_mono (Kd.S_bound h) (fun k hk => ⟨hk.1, by have := hk.2.2.1; omega⟩)
 obtain ⟨oki, c, hcl, hM, hcc, hfr, hoki, hH⟩ := Kd.S_elem h2 [] (j : Int) (by omega) (by omega)
 have hs1 : dG.sz = 1 := rfl
 obtain ⟨u, rfl⟩ : ∃ u, c = [u] := List.length_eq_one_iff.1 (hcl.trans hs1)
 have hu := hcc 0 u rfl
 have hf := hfr 0
 rw [hs1, Int.toNat_natCast, Nat.mul_one, Nat.add_zero] at hu
 rw [Int.toNat_natCast] at hM
 obtain ⟨u', e, hR⟩ := hM
 injection e with e
 subst e
 obtain ⟨A, cc, rfl⟩ := Kd.R_slice hR
 refine ⟨A, cc, hu, R_ints hR, fun k hk => (hoki k (hR.1 k hk)).1.1, (Kd.S_R h).1 go (by simp [Value.ownBlock]), fun o w2 v2 a ho hg hat => ?_⟩
 have hb : ∀ k, (Value.slice A (xs.getD j []).length cc).ownBlock = some k → oki k := fun k hk => hR.1 k hk
 have hH2 := Kd.H_grown (Kd.H_alloc hH o) hg hb
 have hs2 := hg.size
 rw [size_alloc1] at hs2

 have hne : (Value.slice A (xs.getD j []).length cc).ownBlock ≠ some go := fun e => (hoki go (hb go e)).2 rfl
 have hbk : w2.heap[go]? = w.heap[go]? := by
  rw [hg.block go (by rw [size_alloc1]; omega) (fun e => hne e.symm), Below.heap_alloc _ _ _ hgo]
 have hcell : ∀ p : Nat, w2.cell? ⟨go, p, none⟩ = w.cell? ⟨go, p, none⟩ := fun p => by simp only [World.cell?, hbk]
 have hfrz : ∀ p : Nat, w2.frozen? ⟨go, p, none⟩ = w.frozen? ⟨go, p, none⟩ := fun p => by simp only [World.frozen?, hbk]
 refine ⟨⟨_, (hcell j).trans hu, (hfrz j).trans (by rw [hs1, Int.toNat_natCast, Nat.mul_one, Nat.add_zero] at hf; exact hf)⟩, ?_⟩
 have hbase2 : ∀ k, v2.ownBlock = some k → base ≤ k := fun k hk => own_base ho k hk
 have hR2 : dI.R 3 w2 base (fun k => oki k ∨ w.heap.size ≤ k) v2 (xs.getD j [] ++ [a]) := by
  refine ints_R ?_ (fun k hk => ?_)
  ·rw [List.length_append, List.length_singleton, List.map_append]
   exact ho
  ·rcases hat with e | e
   ·exact .inl (hb k (by rw [← e]; exact hk))
   ·rw [e] at hk
    injection hk with hk
    exact .inr (by omega)
 have hP := Kd.S_seg (okg := fun k => w.heap.size ≤ k) hH2 (by omega) (by omega) (seg := [v2]) (j := 0) (show 0 + 1 ≤ 1 from Nat.le_refl _) (x' := xs.getD j [] ++ [a]) (okp := fun k => oki k ∨ w.heap.size ≤ k)
  ⟨v2, rfl, hR2⟩ (fun k hk => hk) (fun k hk => ⟨hnew k hk, by omega⟩)
 have hP1 := hP.1
 rw [hs1, Int.toNat_natCast, Nat.mul_one, Nat.add_zero] at hP1
 exact hP1
set_option maxHeartbeats 4000000 in
set_option maxRecDepth 100000 in
theorem graph_Turn.calls (A0 : Option Addr) (c0 : Nat) (l0 : List (List Int)) (r : List (List Int)) (w : World) (hr0 : Kd.C (Kd.slice 3 (Kd.int .i64)) w A0 l0.length l0) (hc0 : l0.length ≤ c0) (h : graph_Turn.f l0 = some r) :
  Calls Tryz.prog 46 #[.slice A0 l0.length c0] w fun e w' => ∃ v0_ : Value, e = .returned v0_ ∧ Kd.S (Kd.slice 3 (Kd.int .i64)) 23 w' w.heap.size (fun _ => True) v0_ r ∧ Below w.heap.size w w' := by
 have HR0 := Aside0.mk hr0
 have HC0 := Aside0.mk hc0
 have HF : Aside0 (fits l0 = true ∧ r = turn (clean l0)) := by
  unfold graph_Turn.f at h
  split at h
  ·exact ⟨⟨by assumption, (Option.some.inj h).symm⟩⟩
  ·cases h
 clear hr0 hc0 h
 have hn : l0.length ≤ 100000 := by
  have := HF.out.1
  unfold fits at this
  simp at this
  exact this.1
 have hz : 0 ≤ (l0.length : Int) := by omega
 have HCL' : Aside0 (∀ W, Below w.heap.size w W → Calls Tryz.prog 39 #[.slice A0 l0.length c0] W fun e w' => ∃ v0_ : Value, e = .returned v0_ ∧ Kd.S (Kd.slice 3 (Kd.int .i64)) 23 w' W.heap.size (fun _ => True) v0_ (clean l0) ∧ Below W.heap.size W w') :=
  ⟨fun W hW => graph_Clean.calls A0 c0 l0 (clean l0) W (Kd.C_below HR0.out hW) HC0.out (by unfold graph_Clean.f; rw [if_pos HF.out.1])⟩
 go_enter Tryz.func46, Tryz.ntmps46
 go_wp2_with (first | ((with_reducible refine gate_dst (N := 10) rfl ?_); refine Kd.S_make (Kd.slice 3 (Kd.int .i64)) (w0 := w) w.heap.size 23 rfl (N := 10) rfl 22 _ _ rfl (l0.length : Int) rfl rfl Tryz.underlying22 (.slice none 0 0) 24 info23 rfl Nat.one_pos (by omega) [] (ok := fun _ => True) (okp := fun _ => True) ⟨_, rfl, Kd.R_nil _ _ _ _ _⟩ (fun _ hk => hk) trivial hz (by omega) (Below.refl _ _) (Nat.le_refl _) ?_; intro v1 w1 ho1 hb1 hg1 hn1; clear hg1; obtain ⟨go, hn1, _⟩ := hn1; obtain ⟨cap, e1⟩ := R_form' (Kd.S_R ho1) hn1; rw [List.length_replicate, Int.toNat_natCast] at e1; subst e1; rw [Int.toNat_natCast] at ho1; have HO1 := Aside0.mk ho1; have HB1 := Aside0.mk hb1; clear ho1 hb1 hn1) | (go_at_call 39; refine (HCL'.out _ HB1.out).mono ?_; rintro e w2 ⟨v2, rfl, ho2, hb2⟩; obtain ⟨A2, c2, e2, hl2, _⟩ := Kd.S_reads ho2; rw [clean_len] at e2 hl2; subst e2; have HO2 := Aside0.mk ho2; have HB2 := Aside0.mk hb2; clear ho2 hb2))
 have HS1 : Aside0 (Kd.S dG 23 w2 w.heap.size (fun k => k < w1.heap.size ∨ w2.heap.size ≤ k) (.slice (some ⟨go, 0, none⟩) l0.length cap) (turnSo (clean l0) 0)) := by
  rw [turnSo, clean_len]
  exact ⟨Kd.S_mono (Kd.S_below (Kd.S_bound HO1.out) HB2.out) (fun k hk => .inl hk.2.2.1)⟩
 have hlen : (turnSo (clean l0) 0).length = l0.length := by rw [turnSo_len, clean_len]
 go_loopw [14] (fun v14 wr => ∃ k : Nat, v14 = .int .i64 k ∧ k ≤ l0.length ∧ Aside0 (Kd.S dG 23 wr w.heap.size (fun k => k < w1.heap.size ∨ w2.heap.size ≤ k) (.slice (some ⟨go, 0, none⟩) l0.length cap) (turnSo (clean l0) k)) ∧ Aside0 (NoLonger (turnSo (clean l0) k) (k * 100000)) ∧ Aside0 (Fr (fun k => w.heap.size ≤ k ∧ k < w1.heap.size) w2 wr)) (fun v14 _ => l0.length - (intOf v14).toNat)
 case atStart => exact ⟨0, rfl, Nat.zero_le _, HS1, ⟨fun j => by rw [turnSo]; simp [List.getD_eq_getElem?_getD, List.getElem?_replicate]; split <;> simp⟩, ⟨Fr.refl _ _⟩⟩
 case round =>
  obtain ⟨k, rfl, hk, HSr, HNL, HFr⟩ := hrel
  clear HS1
  by_cases hlt : k < l0.length
  ·obtain ⟨wo, rfl⟩ : ∃ wo, wo = wr := ⟨_, rfl⟩
   obtain ⟨g2, A1, c1, e1, hl1, hst⟩ := row_stays HO2.out (S := fun k => w.heap.size ≤ k ∧ k < w1.heap.size) (fun k hk => hk.2) hlt
   subst e1
   obtain ⟨rw_, er⟩ : ∃ x, x = (clean l0).getD k [] := ⟨_, rfl⟩
   rw [← er] at hst hl1
   have HER := Aside0.mk er
   have hrl : Aside0 (rw_.length ≤ 100000 ∧ ∀ b ∈ rw_, 0 ≤ b ∧ b < (l0.length : Int)) := by
    have hm : rw_ ∈ clean l0 := by
     rw [er, List.getD_eq_getElem?_getD, List.getElem?_eq_getElem (by rw [clean_len]; exact hlt)]
     exact List.getElem_mem _
    exact ⟨clean_small HF.out.1 _ hm, clean_valid _ hm⟩
   have hrb : rw_.length ≤ 100000 := hrl.out.1
   obtain ⟨hx1, _⟩ := hst wo HFr.out
   have HST := Aside0.mk hst
   clear er hst hl1
   go_wp2_with (fail)
   go_loopw [21] (fun v21 wr => ∃ j : Nat, v21 = .int .i64 j ∧ j ≤ rw_.length ∧ Aside0 (Kd.S dG 23 wr w.heap.size (fun k => k < w1.heap.size ∨ w2.heap.size ≤ k) (.slice (some ⟨go, 0, none⟩) l0.length cap) ((rw_.take j).foldl (turnStep (k : Int)) (turnSo (clean l0) k))) ∧ Aside0 (NoLonger ((rw_.take j).foldl (turnStep (k : Int)) (turnSo (clean l0) k)) (k * 100000 + j)) ∧ Aside0 (Fr (fun k => w.heap.size ≤ k ∧ k < w1.heap.size) w2 wr)) (fun v21 _ => rw_.length - (intOf v21).toNat)
   case atStart =>
    refine ⟨0, rfl, Nat.zero_le _, ?_, ?_, HFr⟩
    ·rw [List.take_zero, List.foldl_nil]
     exact HSr
    ·rw [List.take_zero, List.foldl_nil, Nat.add_zero]
     exact HNL
   case round =>
    clear HSr HNL HFr hx1
    obtain ⟨j, rfl, hj, HSr, HNL, HFr⟩ := hrel
    by_cases hjl : j < rw_.length
    ·obtain ⟨xs, exs⟩ : ∃ xs, xs = (rw_.take j).foldl (turnStep (k : Int)) (turnSo (clean l0) k) := ⟨_, rfl⟩
     rw [← exs] at HSr HNL
     have HXS := Aside0.mk exs
     obtain ⟨_, hC1⟩ := HST.out wr HFr.out
     obtain ⟨rb, ro, e2, _, hrc⟩ := C_ints hC1 (by omega)
     subst e2
     have hcb := hrc j hjl
     obtain ⟨b, eb⟩ : ∃ b, b = rw_.getD j 0 := ⟨_, rfl⟩
     rw [← eb] at hcb
     have hbm : 0 ≤ b ∧ b < (l0.length : Int) := by
      refine hrl.out.2 b ?_
      rw [eb, List.getD_eq_getElem?_getD, List.getElem?_eq_getElem hjl]
      exact List.getElem_mem _
     have HBB := Aside0.mk eb
     obtain ⟨hb0, hb1⟩ := hbm
     have hnew : ∀ k, wr.heap.size ≤ k → k < w1.heap.size ∨ w2.heap.size ≤ k := fun k hk => .inr (by have := HFr.out.size; omega)
     obtain ⟨Ab, cb, hxb, hob, hokb, hokg, happ⟩ := S_appelem HSr.out hnew (j := b.toNat) (by omega)
     have hnl := HNL.out b.toNat
     have hk9 : k * 100000 ≤ 10000000000 := by
      have := Nat.mul_le_mul_right 100000 (show k ≤ 100000 by omega)
      omega
     obtain ⟨m, em⟩ : ∃ m, m = (xs.getD b.toNat []).length := ⟨_, rfl⟩
     rw [← em] at hxb hnl hob
     have hmb : m ≤ 10000100000 := by omega
     have HOB := Aside0.mk hob
     have HAP := Aside0.mk (And.intro hokb (And.intro hokg happ))
     have HEM := Aside0.mk em
     have HW := Aside0.mk (Nat.le_trans HB2.out.size HFr.out.size)
     obtain ⟨ti, hti, hz0, hz1, hz2⟩ := info_parts info3
     have HTI := Aside0.mk (And.intro hti (And.intro hz0 (And.intro hz1 hz2)))
     clear exs hC1 hrc eb hnew hob hokb hokg happ hnl hk9 em hti hz0 hz1 hz2
     go_wp2_with (at_builtin; refine wpList_append_own_at _ rfl _ _ 23 rfl w.heap.size 3 ti (.int .i64 0) 1 8 Tryz.underlying23 HTI.out.1 HTI.out.2.1 HTI.out.2.2.1 HTI.out.2.2.2 rfl (by decide) (.slice Ab m cb) m _ rfl (HOB.out.alloc _) ⟨_, 0, none⟩ 1 1 [.int .i64 k] rfl rfl (one_cells rfl _ _) (fun u hu => by simp at hu; subst hu; rfl) (by unfold maxLen; omega) (by omega) (by rw [size_alloc1]; have := HW.out; have := HB1.out.size; omega) ?_; intro v3 w3 ho3 hg3 _ hat3; rw [size_alloc1] at hat3; (obtain ⟨⟨u5, hu5, hf5⟩, hs5⟩ := HAP.out.2.2 _ w3 v3 (k : Int) (by rw [← HEM.out]; exact ho3) (by rw [← HEM.out]; exact hg3) (by rw [← HEM.out]; exact hat3)); have HS5 := Aside0.mk hs5; have HG3 := Aside0.mk hg3; obtain ⟨A3, c3, rfl⟩ := own_slice ho3; clear ho3 hg3 hat3 hs5)
     go_roundw
     case rel =>
      have etk : rw_.take (j + 1) = rw_.take j ++ [b] := by
       rw [List.take_succ_eq_append_getElem hjl, HBB.out, List.getD_eq_getElem?_getD, List.getElem?_eq_getElem hjl]
       rfl
      have ef : (rw_.take (j + 1)).foldl (turnStep (k : Int)) (turnSo (clean l0) k) = turnStep (k : Int) xs b := by
       rw [etk, List.foldl_append, ← HXS.out]
       rfl
      refine ⟨j + 1, by go_num, by omega, ?_, ?_, ⟨?_⟩⟩
      ·rw [ef]
       exact HS5
      ·rw [ef]
       have hst := HNL.out.step (a := (k : Int)) (b := b)
       rw [Nat.add_assoc] at hst
       exact ⟨hst⟩
      ·refine ((HFr.out.alloc _).grown HG3.out (fun q e => ?_)).setCell ?_ _
       ·rcases HAP.out.1 q (by rw [← HEM.out]; exact e) with h1 | h1
        ·exact .inl ⟨own_base HOB.out q e, h1⟩
        ·exact .inr h1
       ·rcases HAP.out.2.1 with h1 | h1
        ·exact .inl ⟨Kd.S_base HS5.out go (by simp [Value.ownBlock]), h1⟩
        ·exact .inr h1
     case measure => simp [intOf]; omega
    ·obtain rfl : j = rw_.length := by omega
     clear hjl
     go_wp2
     go_roundw
     case rel =>
      have ef : turnSo (clean l0) (k + 1) = (rw_.take rw_.length).foldl (turnStep (k : Int)) (turnSo (clean l0) k) := by
       rw [turnSo, ← HER.out, List.take_length]
      refine ⟨k + 1, by go_num, by omega, ?_, ?_, HFr⟩
      ·rw [ef]
       exact HSr
      ·rw [ef]
       refine ⟨fun q => Nat.le_trans (HNL.out q) ?_⟩
       have := hrl.out.1
       rw [Nat.succ_mul]
       omega
     case measure => simp [intOf]; omega
  ·obtain rfl : k = l0.length := by omega
   clear hlt
   go_wp2
   go_ret
   have hfin := HSr.out
   rw [show turnSo (clean l0) l0.length = r from by rw [HF.out.2, turn, clean_len]] at hfin
   refine ⟨_, rfl, Kd.S_mono hfin (fun _ _ => trivial), ?_⟩
   have h2 : Below w.heap.size w w2 := HB1.out.trans (HB2.out.mono HB1.out.size)
   exact below_fr h2 HFr.out (fun k hk => hk.1) h2.size
end Go.Proofs.YtemcmcnhpdkdfaaGreat.P
namespace Go.Proofs.YtemcmcnhpdkdfaaGreat.P
open Go.RowKit Go.Shelf Go.Lib Go.Sort Go.Proofs.YtemcmcnhpdkdfaaGreatW.PrintWords Go.Proofs.YtemcmcnhpdkdfaaGreatW.PrintLast Go.Proofs.YtemcmcnhpdkdfaaGreatW.PrintMore
def meetA (n : Nat) (at' d : List Int) : Nat → Int → Int → Option Int
 | 0, _, _ => none
 | k + 1, a, b => if isN n a = true ∧ isN n b = true then (if rd at' b < rd at' a then meetA n at' d k (rd d a) b else some a) else none
def meetO (n : Nat) (at' d : List Int) : Nat → Int → Int → Option Int
 | 0, _, _ => none
 | k + 1, a, b => if a = b then some a else (meetA n at' d k a b).bind fun a' => (meetA n at' d k b a').bind fun b' => meetO n at' d k a' b'
structure Solv (w : World) (s n ga ca gd cd : Nat) (vp vo : Value) (at' d : List Int) : Prop where
 blk : w.heap[s]? = some (.cells #[vp, vo, .slice (some ⟨ga, 0, none⟩) n ca, .slice (some ⟨gd, 0, none⟩) n cd] 69 (0, 0))
 at_ : ∀ i, i < n → w.cell? ⟨ga, i, none⟩ = some (.int .i64 (at'.getD i 0))
 d_ : ∀ i, i < n → w.cell? ⟨gd, i, none⟩ = some (.int .i64 (d.getD i 0))
theorem Solv.drewN {w : World} {s n ga ca gd cd : Nat} {vp vo : Value} {at' d : List Int} (h : Solv w s n ga ca gd cd vp vo at' d) (m : Nat) : Solv (w.drewN m) s n ga ca gd cd vp vo at' d := ⟨h.blk, h.at_, h.d_⟩
theorem cells4 {w : World} {b t : Nat} {v0 v1 v2 v3 : Value} (h : w.heap[b]? = some (.cells #[v0, v1, v2, v3] t (0, 0))) : w.cell? ⟨b, 0, none⟩ = some v0 ∧ w.cell? ⟨b, 1, none⟩ = some v1 ∧ w.cell? ⟨b, 2, none⟩ = some v2 ∧ w.cell? ⟨b, 3, none⟩ = some v3 := by
 refine ⟨?_, ?_, ?_, ?_⟩ <;> simp [World.cell?, h]
set_option maxHeartbeats 8000000 in
set_option maxRecDepth 100000 in
theorem meet_c {w : World} {s n ga ca gd cd : Nat} {vp vo : Value} {at' d : List Int} (h : Solv w s n ga ca gd cd vp vo at' d) (k : Nat) (a b r : Int) (hr : meetO n at' d k a b = some r) :
  Calls Tryz.prog 75 #[.pointer (some ⟨s, 0, none⟩), .int .i64 a, .int .i64 b] w fun e w' => e = .returned (.int .i64 r) ∧ ∃ m, w' = w.drewN m := by
 have HA := Aside0.mk h.at_
 have HD := Aside0.mk h.d_
 obtain ⟨_, _, s2, s3⟩ := cells4 h.blk
 have H' := Aside0.mk hr
 clear h hr
 go_enter Tryz.func75, Tryz.ntmps75
 go_wp2
 go_loopg [1, 2] k (fun kq v1 v2 w' => ∃ x y : Int, v1 = .int .i64 x ∧ v2 = .int .i64 y ∧ Aside0 (meetO n at' d kq x y = some r) ∧ ∃ m, w' = w.drewN m)
 case atStart => exact ⟨a, b, rfl, rfl, H', 0, rfl⟩
 case round =>
  clear H'
  obtain ⟨x, y, rfl, rfl, HM, m, rfl⟩ := hrel
  cases gk with
  | zero => exact absurd HM.out (by simp [meetO])
  | succ k1 =>
   have H := HM.out
   rw [meetO] at H
   by_cases hxy : x = y
   ·rw [if_pos hxy] at H
    obtain rfl := Option.some.inj H
    subst hxy
    clear H
    go_wp2
    go_ret
    exact ⟨rfl, m, rfl⟩
   ·rw [if_neg hxy] at H
    obtain ⟨x', hx', H⟩ := Option.bind_eq_some_iff.1 H
    obtain ⟨y', hy', H⟩ := Option.bind_eq_some_iff.1 H
    have HX := Aside0.mk hx'
    have HY := Aside0.mk hy'
    have HZ := Aside0.mk H
    clear hx' hy' H
    go_wp2
    go_loopg [1] k1 (fun kq v w' => ∃ x1 : Int, v = .int .i64 x1 ∧ Aside0 (meetA n at' d kq x1 y = some x') ∧ ∃ m, w' = w.drewN m)
    case atStart => exact ⟨x, rfl, HX, m, rfl⟩
    case round =>
     clear HX
     obtain ⟨x1, rfl, HM1, m1, rfl⟩ := hrel
     cases gk with
     | zero => exact absurd HM1.out (by simp [meetA])
     | succ k2 =>
      have H := HM1.out
      rw [meetA] at H
      by_cases hin : isN n x1 = true ∧ isN n y = true
      ·rw [if_pos hin] at H
       have b1 := isN_iff.1 hin.1
       have b2 := isN_iff.1 hin.2
       obtain ⟨i, rfl⟩ : ∃ i : Nat, x1 = (i : Int) := ⟨x1.toNat, by omega⟩
       obtain ⟨j, rfl⟩ : ∃ j : Nat, y = (j : Int) := ⟨y.toNat, by omega⟩
       have hi : i < n := by omega
       have hj : j < n := by omega
       have ci := HA.out i hi
       have cj := HA.out j hj
       have di := HD.out i hi
       have ri : rd at' (i : Int) = at'.getD i 0 := by show at'.getD (Int.toNat (i : Int)) 0 = _; rw [Int.toNat_natCast]
       have rj : rd at' (j : Int) = at'.getD j 0 := by show at'.getD (Int.toNat (j : Int)) 0 = _; rw [Int.toNat_natCast]
       have rdi : rd d (i : Int) = d.getD i 0 := by show d.getD (Int.toNat (i : Int)) 0 = _; rw [Int.toNat_natCast]
       rw [ri, rj, rdi] at H
       obtain ⟨pi, epi⟩ : ∃ p, p = at'.getD i 0 := ⟨_, rfl⟩
       obtain ⟨pj, epj⟩ : ∃ p, p = at'.getD j 0 := ⟨_, rfl⟩
       obtain ⟨qi, eqi⟩ : ∃ q, q = d.getD i 0 := ⟨_, rfl⟩
       rw [← epi, ← epj, ← eqi] at H
       rw [← epi] at ci
       rw [← epj] at cj
       rw [← eqi] at di
       clear ri rj rdi epi epj eqi b1 b2 hin
       by_cases hlt : pj < pi
       ·rw [if_pos hlt] at H
        have HN := Aside0.mk H
        have c0 : decide (pj < pi) = true := decide_eq_true hlt
        clear H
        go_wp2
        go_quiet ((fail))
        go_wp2
        go_roundg k2
        case measure => omega
        case rel => exact ⟨qi, rfl, HN, _, rfl⟩
       ·rw [if_neg hlt] at H
        have c0 : decide (pj < pi) = false := decide_eq_false hlt
        obtain rfl := Option.some.inj H
        clear H hlt HM1
        go_wp2
        go_quiet ((fail))
        go_wp2
        clear c0 cj di hj ci
        go_loopg [2] k1 (fun kq v w' => ∃ y1 : Int, v = .int .i64 y1 ∧ Aside0 (meetA n at' d kq y1 (i : Int) = some y') ∧ ∃ m, w' = w.drewN m)
        case atStart => exact ⟨_, rfl, HY, _, World.drewN_drewN _ _ _⟩
        case round =>
         clear HY
         obtain ⟨y1, rfl, HM2, m2, rfl⟩ := hrel
         cases gk with
         | zero => exact absurd HM2.out (by simp [meetA])
         | succ k3 =>
          have H := HM2.out
          rw [meetA] at H
          by_cases hin : isN n y1 = true ∧ isN n (i : Int) = true
          ·rw [if_pos hin] at H
           have b1 := isN_iff.1 hin.1
           obtain ⟨l, rfl⟩ : ∃ l : Nat, y1 = (l : Int) := ⟨y1.toNat, by omega⟩
           have hl : l < n := by omega
           have cl := HA.out l hl
           have dl := HD.out l hl
           have ci := HA.out i hi
           have ri : rd at' (i : Int) = at'.getD i 0 := by show at'.getD (Int.toNat (i : Int)) 0 = _; rw [Int.toNat_natCast]
           have rl : rd at' (l : Int) = at'.getD l 0 := by show at'.getD (Int.toNat (l : Int)) 0 = _; rw [Int.toNat_natCast]
           have rdl : rd d (l : Int) = d.getD l 0 := by show d.getD (Int.toNat (l : Int)) 0 = _; rw [Int.toNat_natCast]
           rw [ri, rl, rdl] at H
           obtain ⟨p1, ep1⟩ : ∃ p, p = at'.getD i 0 := ⟨_, rfl⟩
           obtain ⟨pl, epl⟩ : ∃ p, p = at'.getD l 0 := ⟨_, rfl⟩
           obtain ⟨ql, eql⟩ : ∃ q, q = d.getD l 0 := ⟨_, rfl⟩
           rw [← ep1, ← epl, ← eql] at H
           rw [← ep1] at ci
           rw [← epl] at cl
           rw [← eql] at dl
           clear ri rl rdl ep1 epl eql b1 hin
           by_cases hlt : p1 < pl
           ·rw [if_pos hlt] at H
            have HN := Aside0.mk H
            have c0 : decide (p1 < pl) = true := decide_eq_true hlt
            clear H
            go_wp2
            go_quiet ((fail))
            go_wp2
            go_roundg k3
            case measure => omega
            case rel => exact ⟨ql, rfl, HN, _, rfl⟩
           ·rw [if_neg hlt] at H
            have c0 : decide (p1 < pl) = false := decide_eq_false hlt
            obtain rfl := Option.some.inj H
            clear H
            go_wp2
            go_quiet ((fail))
            go_wp2
            go_roundg k1
            case measure => omega
            case rel => exact ⟨(i : Int), (l : Int), rfl, rfl, HZ, _, World.drewN_drewN _ _ _⟩
          ·rw [if_neg hin] at H
           cases H
      ·rw [if_neg hin] at H
       cases H
def toF (n : Nat) (at' d : List Int) (k : Nat) : List Int → Int → Option Int
 | [], z => some z
 | a :: ps, z => if isN n a = true then (if rd d a = -3 ∨ rd d a = -2 then toF n at' d k ps z else if z = -3 then toF n at' d k ps a else (meetO n at' d k z a).bind fun m => toF n at' d k ps m) else none
set_option maxHeartbeats 8000000 in
set_option maxRecDepth 100000 in
theorem step_c {w : World} {s n ga ca gd cd gp cp : Nat} {vo : Value} {at' d : List Int} (h : Solv w s n ga ca gd cd (.slice (some ⟨gp, 0, none⟩) n cp) vo at' d) {b : Nat} (hbn : b < n) {A : Option Addr} {c : Nat} {ps : List Int} (hrow : w.cell? ⟨gp, b, none⟩ = some (.slice A ps.length c)) (hC : dI.C w A ps.length ps) (hps : ps.length ≤ 1000000)
  (hfz : w.frozen? ⟨gd, b, none⟩ = false) (k : Nat) (z : Int) (hr : toF n at' d k ps (-3) = some z) :
  Calls Tryz.prog 49 #[.pointer (some ⟨s, 0, none⟩), .int .i64 b] w fun e w' => e = .returned (.bool (rd d b != z)) ∧ ∃ m, w' = (w.drewN m).setCell ⟨gd, b, none⟩ (.int .i64 z) := by
 have HS := Aside0.mk h
 have HC := Aside0.mk hC
 obtain ⟨s0, _, s2, s3⟩ := cells4 h.blk
 have hdb := h.d_ b hbn
 obtain ⟨db, edb⟩ : ∃ db, db = d.getD b 0 := ⟨_, rfl⟩
 have hrd : rd d (b : Int) = db := by rw [edb]; show d.getD (Int.toNat (b : Int)) 0 = _; rw [Int.toNat_natCast]
 rw [hrd]
 rw [← edb] at hdb
 obtain ⟨np, enp⟩ : ∃ np, np = ps.length := ⟨_, rfl⟩
 have HNP := Aside0.mk enp
 rw [← enp] at hrow hps
 have H' : Aside0 (toF n at' d k (ps.drop 0) (-3) = some z) := ⟨by rw [List.drop_zero]; exact hr⟩
 clear h hC hr edb hrd enp
 go_enter Tryz.func49, Tryz.ntmps49
 go_wp2
 go_loopw [5, 17] (fun v5 v17 w' => ∃ (i : Nat) (x : Int), i ≤ np ∧ v5 = .int .i64 x ∧ v17 = .int .i64 i ∧ Aside0 (toF n at' d k (ps.drop i) x = some z) ∧ ∃ m, w' = w.drewN m) (fun _ v _ => np - (intOf v).toNat)
 case atStart => exact ⟨0, -3, Nat.zero_le _, rfl, rfl, H', 0, rfl⟩
 case round =>
  clear H'
  obtain ⟨i, x, hi, rfl, rfl, HT, m, rfl⟩ := hrel
  by_cases hlt : i < np
  ·have hil : i < ps.length := by have := HNP.out; omega
   obtain ⟨bb, off, e, _, hc⟩ := C_ints HC.out (by omega)
   subst e
   have hx0 := hc i hil
   have H := HT.out
   rw [List.drop_eq_getElem_cons hil, toF] at H
   have ea : ps.getD i 0 = ps[i] := by rw [List.getD_eq_getElem?_getD, List.getElem?_eq_getElem hil]; rfl
   rw [ea] at hx0
   obtain ⟨a, eaa⟩ : ∃ a, a = ps[i] := ⟨_, rfl⟩
   rw [← eaa] at H hx0
   clear ea eaa hc
   by_cases hin : isN n a = true
   ·rw [if_pos hin] at H
    have b1 := isN_iff.1 hin
    obtain ⟨j, rfl⟩ : ∃ j : Nat, a = (j : Int) := ⟨a.toNat, by omega⟩
    have hj : j < n := by omega
    have dj := HS.out.d_ j hj
    have rdj : rd d (j : Int) = d.getD j 0 := by show d.getD (Int.toNat (j : Int)) 0 = _; rw [Int.toNat_natCast]
    rw [rdj] at H
    obtain ⟨q, eq⟩ : ∃ q, q = d.getD j 0 := ⟨_, rfl⟩
    rw [← eq] at H dj
    clear rdj eq b1 hin
    by_cases h3 : q = -3
    ·subst h3
     rw [if_pos (.inl rfl)] at H
     have HN := Aside0.mk H
     clear H
     go_wp2
     go_roundw
     case rel => exact ⟨i + 1, x, by omega, rfl, by go_num, HN, _, rfl⟩
     case measure => simp [intOf]; omega
    ·by_cases h2 : q = -2
     ·subst h2
      rw [if_pos (.inr rfl)] at H
      have HN := Aside0.mk H
      clear H
      go_wp2
      go_roundw
      case rel => exact ⟨i + 1, x, by omega, rfl, by go_num, HN, _, rfl⟩
      case measure => simp [intOf]; omega
     ·rw [if_neg (by omega)] at H
      have e3 : (q == -3) = false := by simpa using h3
      have e2 : (q == -2) = false := by simpa using h2
      by_cases hx : x = -3
      ·subst hx
       rw [if_pos rfl] at H
       have HN := Aside0.mk H
       clear H
       go_wp2
       go_roundw
       case rel => exact ⟨i + 1, (j : Int), by omega, rfl, by go_num, HN, _, rfl⟩
       case measure => simp [intOf]; omega
      ·rw [if_neg hx] at H
       obtain ⟨mm, hm, H⟩ := Option.bind_eq_some_iff.1 H
       have HN := Aside0.mk H
       have HMT := Aside0.mk (meet_c (HS.out.drewN m) k x (j : Int) mm hm)
       have ex : (x == -3) = false := by simpa using hx
       clear H hm
       go_wp2_with (go_at_call 75; refine HMT.out.mono ?_; rintro e w3 ⟨rfl, m3, rfl⟩)
       go_roundw
       case rel => first | exact ⟨i + 1, mm, by omega, rfl, by go_num, HN, _, rfl⟩ | exact ⟨i + 1, mm, by omega, rfl, by go_num, HN, _, World.drewN_drewN _ _ _⟩
       case measure => simp [intOf]; omega
   ·rw [if_neg hin] at H
    cases H
  ·obtain rfl : i = np := by omega
   have H := HT.out
   rw [HNP.out, List.drop_length, toF] at H
   obtain rfl := Option.some.inj H
   clear H HT
   have hz : (w.drewN m).frozen? ⟨gd, b, none⟩ = false := hfz
   go_wp2
   go_ret
   exact ⟨rfl, m, rfl⟩
end Go.Proofs.YtemcmcnhpdkdfaaGreat.P
namespace Go.Proofs.YtemcmcnhpdkdfaaGreat.P
open Go.Proofs.YtemcmcnhpdkdfaaGreatW.PrintWords
structure Rep (n : Nat) (o : List Int) (at' d : List Int) (T : Int → Option Int) : Prop where
 node : ∀ x ∈ o, 0 ≤ x ∧ x < (n : Int)
 at_ : ∀ x ∈ o, rd at' x = (o.idxOf x : Int)
 zero : rd d 0 = 0
 known : ∀ b p, T b = some p → rd d b = p
 unk : ∀ b, b ∈ o → b ≠ 0 → T b = none → rd d b = -3
 lost : ∀ b, 0 ≤ b → b < (n : Int) → ¬ b ∈ o → rd d b = -2
section
variable {g : List (List Int)} {n : Nat} {o at' d : List Int} {par T : Int → Option Int}
theorem meetA_ev (hd : Dfs g o par) (h : DI g o par T) (hr : Rep n o at' d T) {b : Int} (hb : b ∈ o) : ∀ (m : Nat) (a : Int), Kn T a → a ∈ o → o.idxOf a ≤ m →
  ∃ a', Ev (fun k => meetA n at' d k a b) a' ∧ Up T a a' ∧ o.idxOf a' ≤ o.idxOf b ∧ (∀ y, Up T a y → o.idxOf y ≤ o.idxOf b → Up T a' y) ∧ (o.idxOf b < o.idxOf a → o.idxOf a' < o.idxOf a) ∧ (o.idxOf a ≤ o.idxOf b → a' = a) := by
 intro m
 induction m with
 | zero =>
  intro a ha hao hm
  refine ⟨a, ?_, .refl _, by omega, fun y hy _ => hy, fun hlt => by omega, fun _ => rfl⟩
  refine Ev.step (f := fun _ => some a) (fun k => ?_) (Ev.now _)
  rw [meetA, if_pos ⟨isN_iff.2 (hr.node a hao), isN_iff.2 (hr.node b hb)⟩, hr.at_ a hao, hr.at_ b hb, if_neg (by omega)]
 | succ m ih =>
  intro a ha hao hm
  by_cases hlt : o.idxOf b < o.idxOf a
  ·have ha0 : a ≠ 0 := fun e => by
    by_cases e0 : b = 0
    ·rw [e, e0] at hlt; omega
    ·have := zero_first hd hb e0
     rw [e] at hlt
     omega
   rcases ha with e | ⟨p, hp⟩
   ·exact absurd e ha0
   ·have h1 := h.t1 a p hp
    obtain ⟨a', e1, e2, e3, e4, e5, e6⟩ := ih p h1.2.2.2.2 h1.2.2.1 (by omega)
    refine ⟨a', ?_, .step hp e2, e3, fun y hy hyb => ?_, fun _ => ?_, fun hle => by omega⟩
    ·refine Ev.step (f := fun k => meetA n at' d k p b) (fun k => ?_) e1
     rw [meetA, if_pos ⟨isN_iff.2 (hr.node a hao), isN_iff.2 (hr.node b hb)⟩, hr.at_ a hao, hr.at_ b hb, if_pos (by omega), hr.known a p hp]
    ·rcases hy.cases with e | ⟨q, hq, k⟩
     ·rw [e] at hyb; omega
     ·rw [hp] at hq
      obtain rfl := Option.some.inj hq
      exact e4 y k hyb
    ·have := (h.up e2 h1.2.2.1).2
     omega
  ·refine ⟨a, ?_, .refl _, by omega, fun y hy _ => hy, fun h => by omega, fun _ => rfl⟩
   refine Ev.step (f := fun _ => some a) (fun k => ?_) (Ev.now _)
   rw [meetA, if_pos ⟨isN_iff.2 (hr.node a hao), isN_iff.2 (hr.node b hb)⟩, hr.at_ a hao, hr.at_ b hb, if_neg (by omega)]
theorem meetO_ev (hd : Dfs g o par) (h : DI g o par T) (hr : Rep n o at' d T) : ∀ (m : Nat) (a b : Int), Kn T a → a ∈ o → Kn T b → b ∈ o → o.idxOf a + o.idxOf b ≤ m →
  ∃ N, Ev (fun k => meetO n at' d k a b) N ∧ Up T a N ∧ Up T b N ∧ ∀ y, Up T a y → Up T b y → Up T N y := by
 intro m
 induction m with
 | zero =>
  intro a b _ hao _ hbo hm
  obtain rfl : a = b := idx_inj hao hbo (by omega)
  exact ⟨a, Ev.step (f := fun _ => some a) (fun k => by rw [meetO, if_pos rfl]) (Ev.now _), .refl _, .refl _, fun y hy _ => hy⟩
 | succ m ih =>
  intro a b ha hao hb hbo hm
  by_cases e : a = b
  ·subst e
   exact ⟨a, Ev.step (f := fun _ => some a) (fun k => by rw [meetO, if_pos rfl]) (Ev.now _), .refl _, .refl _, fun y hy _ => hy⟩
  ·have hne : o.idxOf a ≠ o.idxOf b := fun h => e (idx_inj hao hbo h)
   obtain ⟨a', a1, a2, a3, a4, a5, a6⟩ := meetA_ev hd h hr hbo _ a ha hao (Nat.le_refl _)
   have hao' := (h.up a2 hao).1
   obtain ⟨b', b1, b2, b3, b4, b5, b6⟩ := meetA_ev hd h hr hao' _ b hb hbo (Nat.le_refl _)
   have hbo' := (h.up b2 hbo).1
   have hlt : o.idxOf a' + o.idxOf b' ≤ m := by
    have h1 := (h.up a2 hao).2
    have h2 := (h.up b2 hbo).2
    rcases Nat.lt_or_ge (o.idxOf b) (o.idxOf a) with k | k
    ·have := a5 k; omega
    ·have := a6 k
     rw [this] at b5
     have := b5 (by omega)
     omega
   obtain ⟨N, n1, n2, n3, n4⟩ := ih a' b' (h.up_kn a2 ha) hao' (h.up_kn b2 hb) hbo' hlt
   refine ⟨N, Ev.step (f := fun k => (meetA n at' d k a b).bind fun x => (meetA n at' d k b x).bind fun y => meetO n at' d k x y) (fun k => by rw [meetO, if_neg e]) (Ev.bind a1 (Ev.bind b1 n1)), a2.trans n2, b2.trans n3, fun y hy hy2 => ?_⟩
   have h1 := a4 y hy (h.up hy2 hbo).2
   exact n4 y h1 (b4 y hy2 (h.up h1 hao').2)
theorem toF_ev (hd : Dfs g o par) (h : DI g o par T) (hr : Rep n o at' d T) : ∀ (ps : List Int), (∀ a ∈ ps, 0 ≤ a ∧ a < (n : Int)) → ∀ (z : Int) (S : Int → Prop), ((z = -3 ∧ ∀ a, ¬ S a) ∨ (Kn T z ∧ z ∈ o ∧ (∀ a, S a → Up T a z) ∧ ∀ y, (∀ a, S a → Up T a y) → Up T z y)) →
  ∃ z', Ev (fun k => toF n at' d k ps z) z' ∧ ((z' = -3 ∧ ∀ a, ¬ (S a ∨ (a ∈ ps ∧ Kn T a))) ∨ (Kn T z' ∧ z' ∈ o ∧ (∀ a, S a ∨ (a ∈ ps ∧ Kn T a) → Up T a z') ∧ ∀ y, (∀ a, S a ∨ (a ∈ ps ∧ Kn T a) → Up T a y) → Up T z' y)) := by
 intro ps
 induction ps with
 | nil =>
  intro _ z S hz
  refine ⟨z, Ev.congr (f := fun _ => some z) (fun k => by rw [toF]) (Ev.now _), ?_⟩
  simpa using hz
 | cons a ps ih =>
  intro hps z S hz
  have han := hps a (by simp)
  have hps' : ∀ x ∈ ps, 0 ≤ x ∧ x < (n : Int) := fun x hx => hps x (by simp [hx])
  have skip : ∀ (S' : Int → Prop), (∀ x, S' x ↔ S x) → ¬ Kn T a → ((∃ z', Ev (fun k => toF n at' d k ps z) z' ∧ ((z' = -3 ∧ ∀ x, ¬ (S x ∨ (x ∈ ps ∧ Kn T x))) ∨ (Kn T z' ∧ z' ∈ o ∧ (∀ x, S x ∨ (x ∈ ps ∧ Kn T x) → Up T x z') ∧ ∀ y, (∀ x, S x ∨ (x ∈ ps ∧ Kn T x) → Up T x y) → Up T z' y))) →
    ∃ z', Ev (fun k => toF n at' d k ps z) z' ∧ ((z' = -3 ∧ ∀ x, ¬ (S x ∨ (x ∈ a :: ps ∧ Kn T x))) ∨ (Kn T z' ∧ z' ∈ o ∧ (∀ x, S x ∨ (x ∈ a :: ps ∧ Kn T x) → Up T x z') ∧ ∀ y, (∀ x, S x ∨ (x ∈ a :: ps ∧ Kn T x) → Up T x y) → Up T z' y))) := by
   rintro _ _ hk ⟨z', h1, h2⟩
   refine ⟨z', h1, ?_⟩
   have e : ∀ x, (S x ∨ (x ∈ a :: ps ∧ Kn T x)) ↔ (S x ∨ (x ∈ ps ∧ Kn T x)) := fun x => by
    rw [List.mem_cons]
    constructor
    ·rintro (k | ⟨rfl | k, k2⟩)
     ·exact .inl k
     ·exact absurd k2 hk
     ·exact .inr ⟨k, k2⟩
    ·rintro (k | ⟨k, k2⟩)
     ·exact .inl k
     ·exact .inr ⟨.inr k, k2⟩
   simp only [e]
   exact h2
  by_cases hk : Kn T a
  ·have hao := h.kn_mem hd hk
   have hda : ¬ (rd d a = -3 ∨ rd d a = -2) := by
    rcases hk with e | ⟨p, hp⟩
    ·rw [e, hr.zero]; omega
    ·rw [hr.known a p hp]
     have := hr.node p (h.t1 a p hp).2.2.1
     omega
   have main : ∀ z2, Kn T z2 ∧ z2 ∈ o ∧ (∀ x, (S x ∨ x = a) → Up T x z2) ∧ (∀ y, (∀ x, (S x ∨ x = a) → Up T x y) → Up T z2 y) →
     ∃ z', Ev (fun k => toF n at' d k ps z2) z' ∧ ((z' = -3 ∧ ∀ x, ¬ (S x ∨ (x ∈ a :: ps ∧ Kn T x))) ∨ (Kn T z' ∧ z' ∈ o ∧ (∀ x, S x ∨ (x ∈ a :: ps ∧ Kn T x) → Up T x z') ∧ ∀ y, (∀ x, S x ∨ (x ∈ a :: ps ∧ Kn T x) → Up T x y) → Up T z' y)) := by
    intro z2 hz2
    obtain ⟨z', h1, h2⟩ := ih hps' z2 (fun x => S x ∨ x = a) (.inr hz2)
    refine ⟨z', h1, ?_⟩
    have e : ∀ x, (S x ∨ (x ∈ a :: ps ∧ Kn T x)) ↔ ((S x ∨ x = a) ∨ (x ∈ ps ∧ Kn T x)) := fun x => by
     rw [List.mem_cons]
     constructor
     ·rintro (k | ⟨k | k, k2⟩)
      ·exact .inl (.inl k)
      ·exact .inl (.inr k)
      ·exact .inr ⟨k, k2⟩
     ·rintro ((k | k) | ⟨k, k2⟩)
      ·exact .inl k
      ·exact .inr ⟨.inl k, by rw [k]; exact hk⟩
      ·exact .inr ⟨.inr k, k2⟩
    simp only [e]
    exact h2
   rcases hz with ⟨rfl, hS⟩ | ⟨hkz, hzo, hall, hbest⟩
   ·obtain ⟨z', h1, h2⟩ := main a ⟨hk, hao, fun x hx => hx.elim (fun k => absurd k (hS x)) (fun e => by rw [e]; exact .refl _), fun y hy => hy a (.inr rfl)⟩
    exact ⟨z', Ev.congr (f := fun k => toF n at' d k ps a) (fun k => by rw [toF, if_pos (isN_iff.2 han), if_neg hda, if_pos rfl]) h1, h2⟩
   ·have hz3 : z ≠ -3 := fun e => by have := hr.node z hzo; omega
    obtain ⟨N, n1, n2, n3, n4⟩ := meetO_ev hd h hr _ z a hkz hzo hk hao (Nat.le_refl _)
    obtain ⟨z', h1, h2⟩ := main N ⟨h.up_kn n2 hkz, (h.up n2 hzo).1, fun x hx => hx.elim (fun k => (hall x k).trans n2) (fun e => by rw [e]; exact n3), fun y hy => n4 y (hbest y (fun x hx => hy x (.inl hx))) (hy a (.inr rfl))⟩
    exact ⟨z', Ev.congr (f := fun k => (meetO n at' d k z a).bind fun m => toF n at' d k ps m) (fun k => by rw [toF, if_pos (isN_iff.2 han), if_neg hda, if_neg hz3]) (Ev.bind n1 h1), h2⟩
  ·have hda : rd d a = -3 ∨ rd d a = -2 := by
    by_cases hao : a ∈ o
    ·left
     refine hr.unk a hao (fun e => hk (.inl e)) ?_
     cases hT : T a with
     | none => rfl
     | some p => exact absurd (.inr ⟨p, hT⟩) hk
    ·right
     exact hr.lost a han.1 han.2 hao
   obtain ⟨z', h1, h2⟩ := skip S (fun _ => Iff.rfl) hk (ih hps' z S hz)
   exact ⟨z', Ev.congr (f := fun k => toF n at' d k ps z) (fun k => by rw [toF, if_pos (isN_iff.2 han), if_pos hda]) h1, h2⟩
end
end Go.Proofs.YtemcmcnhpdkdfaaGreat.P
namespace Go.Proofs.YtemcmcnhpdkdfaaGreat.P
open Go.Proofs.YtemcmcnhpdkdfaaGreatW.PrintWords
def passF (n : Nat) (at' : List Int) (pre : List (List Int)) (k : Nat) : List Int → List Int → Bool → Option (List Int × Bool)
 | [], d, ch => some (d, ch)
 | b :: bs, d, ch => (toF n at' d k (pre.getD b.toNat []) (-3)).bind fun z => passF n at' pre k bs (d.set b.toNat z) ((rd d b != z) || ch)
def itF (n : Nat) (at' : List Int) (pre : List (List Int)) (bs : List Int) : Nat → List Int → Option (List Int)
 | 0, _ => none
 | m + 1, d => (passF n at' pre m bs d false).bind fun r => if r.2 = true then itF n at' pre bs m r.1 else some r.1
theorem rd_setn {d : List Int} {c y v : Int} (hc : 0 ≤ c) (hl : c < (d.length : Int)) (hy : 0 ≤ y) : rd (d.set c.toNat v) y = if y = c then v else rd d y := by
 show (d.set c.toNat v).getD y.toNat 0 = _
 rw [List.getD_eq_getElem?_getD, List.getElem?_set]
 by_cases e : y = c
 ·subst e
  rw [if_pos rfl, if_pos (by omega), if_pos rfl]
  rfl
 ·rw [if_neg (by omega), if_neg e]
  show d[y.toNat]?.getD 0 = d.getD y.toNat 0
  rw [List.getD_eq_getElem?_getD]
theorem Rep.upd {n : Nat} {o at' d : List Int} {T : Int → Option Int} (h : Rep n o at' d T) (hl : d.length = n) {c N : Int} (hc : c ∈ o) (hc0 : c ≠ 0) : Rep n o at' (d.set c.toNat N) (upd T c N) := by
 have hn := h.node c hc
 have hs : ∀ y, 0 ≤ y → rd (d.set c.toNat N) y = if y = c then N else rd d y := fun y hy => rd_setn hn.1 (by omega) hy
 refine ⟨h.node, h.at_, by rw [hs 0 (by omega), if_neg (Ne.symm hc0)]; exact h.zero, fun b p hp => ?_, fun b hb hb0 hT => ?_, fun b h0 h1 hb => ?_⟩
 ·by_cases e : b = c
  ·subst e
   rw [upd_at] at hp
   rw [hs b hn.1, if_pos rfl]
   exact Option.some.inj hp
  ·rw [upd_ne _ e] at hp
   have h2 := h.known b p hp
   by_cases hb : 0 ≤ b
   ·rw [hs b hb, if_neg e, h2]
   ·rw [← h2]
    show (d.set c.toNat N).getD b.toNat 0 = d.getD b.toNat 0
    have hb' : b.toNat = (0 : Int).toNat := by omega
    have h3 := hs 0 (by omega)
    rw [if_neg (Ne.symm hc0)] at h3
    rw [hb']
    exact h3
 ·by_cases e : b = c
  ·subst e
   rw [upd_at] at hT
   cases hT
  ·rw [upd_ne _ e] at hT
   rw [hs b (h.node b hb).1, if_neg e]
   exact h.unk b hb hb0 hT
 ·have e : b ≠ c := fun e => hb (by rw [e]; exact hc)
  rw [hs b h0, if_neg e]
  exact h.lost b h0 h1 hb
def wt (o : List Int) (T : Int → Option Int) (b : Int) : Nat := match T b with
 | none => o.length
 | some p => o.idxOf p
def mes (o : List Int) (T : Int → Option Int) : Nat := (o.map (wt o T)).sum
theorem sum_less {f f' : Int → Nat} {c : Int} : ∀ (l : List Int), l.Nodup → c ∈ l → (∀ x, x ≠ c → f' x = f x) → f' c < f c → (l.map f').sum < (l.map f).sum
 | [], _, h, _, _ => by simp at h
 | x :: l, hn, hc, he, hlt => by
  rw [List.nodup_cons] at hn
  simp only [List.map_cons, List.sum_cons]
  by_cases e : x = c
  ·subst e
   have : l.map f' = l.map f := List.map_congr_left (fun y hy => he y (fun e => hn.1 (by rw [← e]; exact hy)))
   rw [this]
   omega
  ·have hcl : c ∈ l := by
    rcases List.mem_cons.1 hc with h | h
    ·exact absurd h.symm e
    ·exact h
   have := sum_less l hn.2 hcl he hlt
   rw [he x e]
   omega
section
variable {g pre : List (List Int)} {n : Nat} {o at' : List Int} {par : Int → Option Int}
theorem pass_ev (hd : Dfs g o par) (hnd : o.Nodup) (hp1 : ∀ b, b ∈ o → ∀ a ∈ pre.getD b.toNat [], 0 ≤ a ∧ a < (n : Int)) (hp2 : ∀ a b, a ∈ o → b ∈ o → (a ∈ pre.getD b.toNat [] ↔ b ∈ row g a)) :
  ∀ (bs s : List Int), o = s ++ bs → 0 ∈ s → ∀ (T : Int → Option Int) (d : List Int) (ch : Bool), DI g o par T → Rep n o at' d T → d.length = n → Eq0 o par T s.length →
   ∃ T' d' e, Ev (fun k => passF n at' pre k bs d ch) (d', e || ch) ∧ DI g o par T' ∧ Rep n o at' d' T' ∧ d'.length = n ∧
    ((e = false ∧ d' = d ∧ T' = T ∧ ∀ c ∈ bs, ∃ p, T c = some p ∧ StepOk g T c p) ∨ (e = true ∧ mes o T' < mes o T)) := by
 intro bs
 induction bs with
 | nil =>
  intro s _ _ T d ch h hr hl _
  exact ⟨T, d, false, Ev.congr (f := fun _ => some (d, ch)) (fun k => by rw [passF]) (by rw [Bool.false_or]; exact Ev.now _), h, hr, hl, .inl ⟨rfl, rfl, rfl, fun c hc => by simp at hc⟩⟩
 | cons c bs ih =>
  intro s ho h0s T d ch h hr hl he
  have hco : c ∈ o := by rw [ho]; simp
  have hnd' := hnd
  rw [ho, List.nodup_append] at hnd'
  have hcs : ¬ c ∈ s := fun k => hnd'.2.2 c k c (by simp) rfl
  have hc0 : c ≠ 0 := fun e => hcs (by rw [e]; exact h0s)
  have hix : o.idxOf c = s.length := by
   rw [ho, List.idxOf_append, if_neg hcs, List.idxOf_cons_self]
   omega
  rw [← hix] at he
  obtain ⟨u, hu⟩ := hd.has c hco hc0
  have hpu := hd.ok _ _ hu
  have hku := DI.kn_par hd he hu
  obtain ⟨z, hz, hzz⟩ := toF_ev hd h hr (pre.getD c.toNat []) (hp1 c hco) (-3) (fun _ => False) (.inl ⟨rfl, fun _ h => h⟩)
  have hup : u ∈ pre.getD c.toNat [] := (hp2 u c hpu.2.2.2.1 hco).2 hpu.2.2.1
  rcases hzz with ⟨_, hno⟩ | ⟨hkz, hzo, hall, hbest⟩
  ·exact absurd (.inr ⟨hup, hku⟩) (hno u)
  ·have hs : StepOk g T c z := by
    refine ⟨fun a ha hrow => hall a (.inr ⟨(hp2 a c (h.kn_mem hd ha) hco).2 hrow, ha⟩), fun x hx => hbest x (fun a ha => ?_)⟩
    rcases ha with ha | ⟨ha, hk⟩
    ·exact ha.elim
    ·exact hx a hk ((hp2 a c (h.kn_mem hd hk) hco).1 ha)
   obtain ⟨h', he'⟩ := h.step hd he hs hco hc0
   have hr' := hr.upd (N := z) hl hco hc0
   have hl' : (d.set c.toNat z).length = n := by rw [List.length_set]; exact hl
   obtain ⟨T', d', e, i1, i2, i3, i4, i5⟩ := ih (s ++ [c]) (by rw [ho]; simp) (by simp [h0s]) (upd T c z) (d.set c.toNat z) ((rd d c != z) || ch) h' hr' hl' (by rw [List.length_append, ← hix]; exact he')
   refine ⟨T', d', e || (rd d c != z), Ev.congr (f := fun k => (toF n at' d k (pre.getD c.toNat []) (-3)).bind fun z => passF n at' pre k bs (d.set c.toNat z) ((rd d c != z) || ch)) (fun k => by rw [passF]) (Ev.bind hz (by rw [Bool.or_assoc]; exact i1)), i2, i3, i4, ?_⟩
   by_cases hch : rd d c = z
   ·have hTc : T c = some z := by
     cases hT : T c with
     | none =>
      have := hr.unk c hco hc0 hT
      have := hr.node z hzo
      omega
     | some p => rw [← hch, hr.known c p hT]
    have hT' : upd T c z = T := by
     funext b
     unfold P.upd
     split
     ·rename_i e; rw [e, hTc]
     ·rfl
    have hd' : d.set c.toNat z = d := by
     apply List.ext_getElem
     ·simp
     ·intro i h1 h2
      rw [List.getElem_set]
      split
      ·rename_i e
       subst e
       rw [← hch]
       show d.getD c.toNat 0 = _
       rw [List.getD_eq_getElem?_getD, List.getElem?_eq_getElem h2]
       rfl
      ·rfl
    have hne : (rd d c != z) = false := by simp [hch]
    rw [hne, Bool.or_false]
    rcases i5 with ⟨q1, q2, q3, q4⟩ | ⟨q1, q2⟩
    ·refine .inl ⟨q1, by rw [q2, hd'], by rw [q3, hT'], fun x hx => ?_⟩
     rcases List.mem_cons.1 hx with rfl | hx
     ·exact ⟨z, hTc, hs⟩
     ·rw [hT'] at q4
      exact q4 x hx
    ·rw [hT'] at q2
     exact .inr ⟨q1, q2⟩
   ·have hne : (rd d c != z) = true := by simp [hch]
    rw [hne, Bool.or_true]
    have hm : mes o (upd T c z) < mes o T := by
     refine sum_less o hnd hco (fun x hx => by unfold wt; rw [upd_ne _ hx]) ?_
     unfold wt
     rw [upd_at]
     have hzl := List.idxOf_lt_length_of_mem hzo
     cases hT : T c with
     | none => exact hzl
     | some p =>
      have hup := h.higher hd he hs hT
      have h1 := h.t1 c p hT
      have h2 := (h.up hup h1.2.2.1).2
      have h3 : o.idxOf z ≠ o.idxOf p := fun e => hch (by rw [hr.known c p hT]; exact (idx_inj hzo h1.2.2.1 e).symm)
      show o.idxOf z < o.idxOf p
      omega
    refine .inr ⟨rfl, ?_⟩
    rcases i5 with ⟨_, _, q3, _⟩ | ⟨_, q2⟩
    ·rw [q3]; exact hm
    ·omega
end
end Go.Proofs.YtemcmcnhpdkdfaaGreat.P
namespace Go.Proofs.YtemcmcnhpdkdfaaGreat.P
open Go.RowKit Go.Lib Go.Sort Go.Shelf Go.Proofs.YtemcmcnhpdkdfaaGreatW.PrintWords Go.Proofs.YtemcmcnhpdkdfaaGreatW.PrintLast Go.Proofs.YtemcmcnhpdkdfaaGreatW.PrintMore
theorem u64_in (x : Int) (h0 : 0 ≤ x) (h1 : x < 18446744073709551616) : IntKind.u64.wrap x = x := by rw [IntKind.wrap_u64]; omega
theorem i64_in (x : Int) (h0 : -9223372036854775808 ≤ x) (h1 : x ≤ 9223372036854775807) : IntKind.i64.wrap x = x := by rw [IntKind.wrap_i64]; omega
theorem mul_one (n : Nat) (h : n ≤ 100000) : bits_Mul.f 1 (n : Int) = some (0, (n : Int)) := by
 have e1 : Go.bits .and .u64 1 4294967295 = 1 := by have := Mul64.maskN 1 (by decide); simpa using this
 have e2 : Go.bits .and .u64 (n : Int) 4294967295 = (n : Int) := by
  rw [Mul64.maskN n (by omega), Nat.mod_eq_of_lt (by omega)]
 have e3 : (n : Int) / 4294967296 = 0 := by omega
 have e4 : (1 : Int) / 4294967296 = 0 := by decide
 have e0 : IntKind.u64.wrap 0 = 0 := by decide
 have en : IntKind.u64.wrap (n : Int) = (n : Int) := u64_in _ (by omega) (by omega)
 have e5 : Go.bits .and .u64 0 4294967295 = 0 := by have := Mul64.maskN 0 (by decide); simpa using this
 have e6 : (0 : Int) / 4294967296 = 0 := by decide
 unfold bits_Mul.f bits_Mul64.f
 simp only [e1, e2, e3, e4, Int.zero_mul, Int.mul_zero, Int.one_mul, e0, en, Int.add_zero, e5, e6, Option.bind_some]
structure RepAt (w wr : World) (g n m : Nat) (v : Int) (cur : List Value) : Prop where
 blk : wr.heap[g]? = some (.cells cur.toArray 3 (0, 0))
 len : cur.length = n
 one : ∀ i, i < m → cur[i]? = some (.int .i64 v)
 bel : Below w.heap.size w wr
theorem RepAt.cell {w wr : World} {g n m : Nat} {v : Int} {cur : List Value} (h : RepAt w wr g n m v cur) (i : Nat) (hi : i < m) : wr.cell? ⟨g, i, none⟩ = some (.int .i64 v) := by
 have := h.one i hi
 simp only [World.cell?, h.blk]
 simpa using this
theorem getElem?_splice {cur : List Value} {off k : Nat} {v : Value} (h : off + k ≤ cur.length) (i : Nat) : (splice cur off (List.replicate k v))[i]? = if off ≤ i ∧ i < off + k then some v else cur[i]? := by
 unfold splice
 rw [List.length_replicate]
 by_cases h1 : i < off
 ·rw [List.getElem?_append_left (by rw [List.length_take]; omega), List.getElem?_take_of_lt h1, if_neg (by omega)]
 ·rw [List.getElem?_append_right (by rw [List.length_take]; omega), List.length_take, Nat.min_eq_left (by omega)]
  by_cases h2 : i < off + k
  ·rw [List.getElem?_append_left (by rw [List.length_replicate]; omega), List.getElem?_replicate, if_pos (by omega), if_pos (by omega)]
  ·rw [List.getElem?_append_right (by rw [List.length_replicate]; omega), List.getElem?_drop, List.length_replicate, if_neg (by omega)]
   congr 1
   omega
set_option maxHeartbeats 8000000 in
set_option maxRecDepth 100000 in
theorem repeat_c (v : Int) (n : Nat) (h0 : 0 < n) (hn : n ≤ 100000) (A : Option Addr) (c : Nat) (w : World) (_hc : 1 ≤ c) (hC : dI.C w A 1 [v]) :
  Calls Tryz.prog 48 #[.slice A 1 c, .int .i64 n] w fun e w' => ∃ v0 : Value, e = .returned v0 ∧ dI.R 3 w' w.heap.size (fun _ => True) v0 (List.replicate n v) ∧ Below w.heap.size w w' := by
 obtain ⟨b, off, rfl, _, hcell⟩ := C_ints hC (by omega)
 have hcl : w.cell? ⟨b, off, none⟩ = some (.int .i64 v) := hcell 0 (by simp)
 have HCL := Aside0.mk hcl
 have HM := Aside0.mk (fun W => bits_Mul.calls 1 (n : Int) 0 (n : Int) W (mul_one n hn))
 have hmk := run_make_row' (P := Tryz.prog) 23 3 (.int .i64 0) 8 Tryz.underlying23 info3 rfl .i64 .i64 n (by omega) (by omega)
 have hbl : b < w.heap.size := by
  simp only [World.cell?] at hcl
  by_cases h : b < w.heap.size
  ·exact h
  ·rw [Array.getElem?_eq_none (by omega)] at hcl
   simp at hcl
 have HSP : ∀ nd : Nat, Aside0 ((((w.drewN nd).alloc (.cells (madeCells #[.int .i64 0] n) 3)).heap[w.heap.size]? = some (.cells (List.replicate n (.int .i64 0)).toArray 3 (0, 0))) ∧ (((w.drewN nd).alloc (.cells (madeCells #[.int .i64 0] n) 3)).cell? ⟨b, off, none⟩ = some (.int .i64 v)) ∧ Below w.heap.size w ((w.drewN nd).alloc (.cells (madeCells #[.int .i64 0] n) 3))) := fun nd => by
  refine ⟨?_, ?_, ?_⟩
  ·have e : madeCells #[Value.int .i64 0] n = (List.replicate n (Value.int .i64 0)).toArray := by rw [← toList_madeCells_one, Array.toArray_toList]
   rw [e]
   show (w.heap.push _)[w.heap.size]? = _
   simp
  ·exact (World.cell?_alloc_lt (w := w.drewN nd) (a := ⟨b, off, none⟩) _ hbl).trans hcl
  ·exact below_alloc (pw_below_drewN (Below.refl _ _) nd) _
 clear hC hcell hcl
 go_enter Tryz.func48, Tryz.ntmps48
 go_wp2_with (first | (go_at_call 74; refine (HM.out _).mono ?_; rintro e w1 ⟨rfl, nd, rfl⟩) | ((with_reducible refine gate_dst (N := 33) rfl ?_); refine wpList_copy_splice rfl (.tmp 31) (.tmp 32) 23 23 rfl 3 Tryz.underlying23 (by kernel_rfl) (some ⟨w.heap.size, 0, none⟩) (some ⟨b, off, none⟩) n n 1 c rfl rfl w.heap.size 0 (List.replicate n (.int .i64 0)) 3 (HSP nd).out.1 [.int .i64 v] (show 1 = Nat.min 1 n from (Nat.min_eq_left h0).symm) (fun _ => ⟨rfl, _, rfl, ?_⟩) (show 0 + 1 ≤ (List.replicate n (Value.int .i64 0)).length by rw [List.length_replicate]; omega) (fun u hu => by simp at hu; subst hu; rfl) w.heap.size w (HSP nd).out.2.2 (Nat.le_refl _) ?_; (intro j u hj; match j, hj with | 0, hj => simpa [Go.WideShapes.add_plain, ← (Option.some.inj hj)] using (HSP nd).out.2.1 | j + 1, hj => simp at hj); intro w2 hg2 hb2; have HG2 := Aside0.mk hg2.out; have HB2 := Aside0.mk hb2; clear hg2 hb2))
 have HS0 : Aside0 (RepAt w w2 w.heap.size n 1 v (splice (List.replicate n (.int .i64 0)) 0 (List.replicate 1 (.int .i64 v)))) := by
  refine ⟨⟨HG2.out, by rw [length_splice _ _ _ (by simp; omega)]; simp, fun i hi => ?_, HB2.out⟩⟩
  rw [getElem?_splice (by simp; omega), if_pos (by omega)]
 clear HG2 HB2
 go_loopw [8] (fun v8 wr => ∃ m : Nat, v8 = .int .i64 m ∧ 1 ≤ m ∧ m ≤ n ∧ ∃ cur, Aside0 (RepAt w wr w.heap.size n m v cur)) (fun v8 _ => n - (intOf v8).toNat)
 case atStart => exact ⟨1, rfl, Nat.le_refl _, h0, _, HS0⟩
 case round =>
  clear HS0
  obtain ⟨m, rfl, hm1, hmn, cur, HS⟩ := hrel
  by_cases hlt : m < n
  ·have hblk := HS.out.blk
   have hbel := HS.out.bel
   obtain ⟨q, hq⟩ : ∃ q, q = Nat.min m (n - m) := ⟨_, rfl⟩
   have hq1 : q ≤ m := by rw [hq]; exact Nat.min_le_left ..
   have hq2 : q ≤ n - m := by rw [hq]; exact Nat.min_le_right ..
   have hq3 : 1 ≤ q := by rw [hq]; exact Nat.le_min.2 ⟨hm1, by omega⟩
   have HQ := Aside0.mk hq
   clear hq
   have HL : Aside0 (m + (List.replicate q (Value.int .i64 v)).length ≤ cur.length) := ⟨by rw [List.length_replicate, HS.out.len]; omega⟩
   have HCE : ∀ W : World, W.heap = wr.heap → Aside0 (∀ j u, (List.replicate q (Value.int .i64 v))[j]? = some u → W.cell? ((⟨w.heap.size, 0, none⟩ : Addr).add j) = some u) := fun W hW => by
    refine ⟨fun j u hj => ?_⟩
    have hj2 : j < q := by
     by_cases h : j < q
     ·exact h
     ·rw [List.getElem?_eq_none (by rw [List.length_replicate]; omega)] at hj
      cases hj
    rw [List.getElem?_replicate, if_pos hj2] at hj
    rw [← Option.some.inj hj]
    have h2 := HS.out.cell j (show j < m from Nat.lt_of_lt_of_le hj2 hq1)
    rw [Go.WideShapes.add_plain, Nat.zero_add, ← h2]
    simp only [World.cell?, hW]
   have HBL := Aside0.mk (And.intro hblk hbel)
   clear hblk hbel
   go_wp2
   go_region_law (refine step_copy_splice rfl (.tmp 41) (.tmp 44) 23 23 rfl 3 Tryz.underlying23 (by kernel_rfl) (some ⟨w.heap.size, m, none⟩) (some ⟨w.heap.size, 0, none⟩) (n - m) (n - m) m n (by simp [Act.eval, Act.put]; omega) (by simp [Act.eval, Act.put]) w.heap.size m cur 3 HBL.out.1 (List.replicate q (.int .i64 v)) (by rw [List.length_replicate]; exact HQ.out) (fun _ => ⟨rfl, _, rfl, (HCE _ rfl).out⟩) HL.out (fun u hu => by rw [List.eq_of_mem_replicate hu]; rfl) w.heap.size w (by repeat (first | exact HBL.out.2 | apply pw_below_drewN | apply below_drew1 | apply below_drew)) (Nat.le_refl _) ?_; intro w4 hg4 hb4)
   have HR : Aside0 (RepAt w w4 w.heap.size n (m + q) v (splice cur m (List.replicate q (.int .i64 v)))) := by
    refine ⟨⟨hg4.out, ?_, fun i hi => ?_, hb4⟩⟩
    ·rw [length_splice _ _ _ HL.out, HS.out.len]
    ·have := HL.out
     rw [List.length_replicate] at this
     rw [getElem?_splice this]
     split
     ·rfl
     ·exact HS.out.one i (by omega)
   clear hg4 hb4
   go_wp2
   go_roundw
   case rel => exact ⟨m + q, by rw [i64_in _ (by omega) (by omega)]; rfl, by omega, by omega, _, HR⟩
   case measure => simp only [intOf]; rw [i64_in _ (by omega) (by omega)]; simp; omega
  ·obtain rfl : m = n := by omega
   go_wp2
   go_ret
   refine ⟨_, rfl, ?_, HS.out.bel⟩
   have hcur : cur = List.replicate m (Value.int .i64 v) := by
    apply List.ext_getElem?
    intro i
    by_cases h : i < m
    ·rw [HS.out.one i h, List.getElem?_replicate, if_pos h]
    ·rw [List.getElem?_eq_none (by rw [HS.out.len]; omega), List.getElem?_eq_none (by rw [List.length_replicate]; omega)]
   have hb := HS.out.blk
   rw [hcur] at hb
   exact ints_R ⟨by simp, .inr ⟨w.heap.size, m, _, by simp, Nat.le_refl _, hb, by simp, by unfold maxLen; simp; omega, by simp, by simp⟩⟩ (fun _ _ => trivial)
end Go.Proofs.YtemcmcnhpdkdfaaGreat.P
namespace Go.Proofs.YtemcmcnhpdkdfaaGreat.P
open Go.RowKit Go.Shelf Go.Lib Go.Sort Go.Proofs.YtemcmcnhpdkdfaaGreatW.PrintWords Go.Proofs.YtemcmcnhpdkdfaaGreatW.PrintLast Go.Proofs.YtemcmcnhpdkdfaaGreatW.PrintMore
structure IdS (w W : World) (s n ga gd cd : Nat) (vp vo : Value) (pre : List (List Int)) (ord at' d : List Int) : Prop where
 bel : Below w.heap.size w W
 base : w.heap.size ≤ s ∧ w.heap.size ≤ ga ∧ w.heap.size ≤ gd
 ne : s ≠ ga ∧ s ≠ gd ∧ ga ≠ gd
 blk : W.heap[s]? = some (.cells #[vp, vo, .slice (some ⟨ga, 0, none⟩) n n, .slice (some ⟨gd, 0, none⟩) n cd] 69 (0, 0))
 rat : dI.R 3 W w.heap.size (fun k => k = ga) (.slice (some ⟨ga, 0, none⟩) n n) at'
 rd_ : dI.R 3 W w.heap.size (fun k => k = gd) (.slice (some ⟨gd, 0, none⟩) n cd) d
 po : dI.R 3 W w.heap.size (fun k => k ≠ s ∧ k ≠ ga ∧ k ≠ gd) vo ord
 pp : Kd.S dG 23 W w.heap.size (fun k => k ≠ s ∧ k ≠ ga ∧ k ≠ gd) vp pre
theorem IdS.drewN {w W : World} {s n ga gd cd : Nat} {vp vo : Value} {pre : List (List Int)} {ord at' d : List Int} (h : IdS w W s n ga gd cd vp vo pre ord at' d) (m : Nat) : IdS w (W.drewN m) s n ga gd cd vp vo pre ord at' d :=
 ⟨pw_below_drewN h.bel m, h.base, h.ne, h.blk, Kd.R_move h.rat (fun _ _ => rfl), Kd.R_move h.rd_ (fun _ _ => rfl), Kd.R_move h.po (fun _ _ => rfl), Kd.S_step (ok := _) (Kd.S_bound h.pp |> fun h => Kd.S_mono h (fun _ hk => hk.1)) (fun _ _ _ => rfl)⟩
theorem size_drew1 (w : World) : w.drew.heap.size = w.heap.size := rfl
theorem size_drewN1 (w : World) (n : Nat) : (w.drewN n).heap.size = w.heap.size := rfl
theorem bel_next {w W W' : World} (h : Below w.heap.size w W) (k : Below W.heap.size W W') : Below w.heap.size w W' := h.trans (k.mono h.size)
theorem cell_new (W : World) (v : Value) (t : TypeId) : (W.alloc (.cells #[v] t)).cell? ⟨W.heap.size, 0, none⟩ = some v := by simp
theorem cell_bel {W W' : World} {a : Addr} {v : Value} (h : Below W.heap.size W W') (hc : W.cell? a = some v) : W'.cell? a = some v := (h.cell (World.block_lt_of_cell? _ _ hc)).trans hc
theorem bel_call {P : Program} {f : FuncId} {args : Array Value} {w W : World} {Q1 Q : Ending → World → Prop} (h : Below w.heap.size w W → Calls P f args W Q1) (hW : Below w.heap.size w W) (k : ∀ e W', Q1 e W' → Below w.heap.size w W → Q e W') : Calls P f args W Q :=
 (h hW).mono (fun e W' hq => k e W' hq hW)
theorem cell_one {W : World} {b off : Nat} {v : Int} (h : W.cell? ⟨b, off, none⟩ = some (.int .i64 v)) : dI.C W (some ⟨b, off, none⟩) 1 [v] := by
 refine ⟨rfl, by omega, fun _ => ⟨_, rfl, fun i x hi => ?_⟩⟩
 match i, hi with
 | 0, hi =>
  obtain rfl := Option.some.inj hi
  refine ⟨[.int .i64 v], rfl, rfl, fun j u hj => ?_⟩
  match j, hj with
  | 0, hj =>
   obtain rfl := Option.some.inj hj
   simpa [Go.WideShapes.add_plain] using h
  | j + 1, hj => simp at hj
 | i + 1, hi => simp at hi
theorem heap_new (W : World) (o : Obj) (k : Nat) (hk : k = W.heap.size) : (W.alloc o).heap[k]? = some o := by
 subst hk
 show (W.heap.push o)[W.heap.size]? = some o
 simp
theorem heap_old {W : World} {o c : Obj} {k : Nat} (h : W.heap[k]? = some c) : (W.alloc o).heap[k]? = some c := by
 have hk : k < W.heap.size := by
  by_cases hk : k < W.heap.size
  ·exact hk
  ·rw [Array.getElem?_eq_none (by omega)] at h
   cases h
 rw [Below.heap_alloc _ _ _ hk]
 exact h
theorem heap_bel {W W' : World} {c : Obj} {k : Nat} (h : W.heap[k]? = some c) (hb : Below W.heap.size W W') : W'.heap[k]? = some c := by
 have hk : k < W.heap.size := by
  by_cases hk : k < W.heap.size
  ·exact hk
  ·rw [Array.getElem?_eq_none (by omega)] at h
   cases h
 rw [hb.block k hk]
 exact h
theorem IdS_make {w wT wO wR WT WO WR W : World} {s n ga gd cd : Nat} {vT vO : Value} {pre : List (List Int)} {ord : List Int}
  (hoT : Kd.S dG 23 wT WT.heap.size (fun _ => True) vT pre) (hbT : Below WT.heap.size WT wT) (hxT : Below wT.heap.size wT W)
  (hoO : dI.R 3 wO WO.heap.size (fun _ => True) vO ord) (hbO : Below WO.heap.size WO wO) (hxO : Below wO.heap.size wO W)
  (hoR : dI.R 3 wR WR.heap.size (fun _ => True) (.slice (some ⟨gd, 0, none⟩) n cd) (List.replicate n (-2))) (hbR : Below WR.heap.size WR wR) (hxR : Below wR.heap.size wR W)
  (hS : W.heap[s]? = some (.cells #[vT, vO, .slice (some ⟨ga, 0, none⟩) n n, .slice (some ⟨gd, 0, none⟩) n cd] 69 (0, 0)))
  (hM : W.heap[ga]? = some (.cells (madeCells #[.int .i64 0] n) 3 (0, 0)))
  (hb : Below w.heap.size w W) (hn0 : 0 < n) (hn : n ≤ 100000)
  (h : w.heap.size ≤ WT.heap.size ∧ wT.heap.size ≤ WO.heap.size ∧ wO.heap.size ≤ WR.heap.size ∧ wR.heap.size ≤ s ∧ ga < s ∧ w.heap.size ≤ ga ∧ (ga < WT.heap.size ∨ wT.heap.size ≤ ga) ∧ (ga < WO.heap.size ∨ wO.heap.size ≤ ga) ∧ (ga < WR.heap.size ∨ wR.heap.size ≤ ga)) :
  IdS w W s n ga gd cd vT vO pre ord (List.replicate n 0) (List.replicate n (-2)) := by
 have s1 := hbT.size
 have s2 := hbO.size
 have s3 := hbR.size
 obtain ⟨g', c', e, hg1, hg2, _⟩ := Kd.R_form hoR (by rw [List.length_replicate]; exact hn0)
 injection e with e _ _
 injection e with e
 injection e with e _ _
 subst e
 refine ⟨hb, ⟨by omega, by omega, by omega⟩, ⟨by omega, by omega, by omega⟩, hS, ?_, ?_, ?_, ?_⟩
 ·refine ints_R ⟨by simp, .inr ⟨ga, n, _, by simp, by omega, hM, by simp, by unfold maxLen; simp; omega, by simp [size_madeCells], by simp [toList_madeCells_one]⟩⟩ (fun k hk => ?_)
  simp only [Value.ownBlock] at hk
  exact (Option.some.inj hk).symm
 ·refine Kd.R_lower (Kd.R_mono (Kd.R_tight rfl (Kd.R_below hoR hxR)) (fun k hk => ?_)) (by omega)
  simp only [Value.ownBlock] at hk
  exact Option.some.inj hk
 ·exact Kd.R_lower (Kd.R_mono (Kd.R_below (Kd.R_bound hoO) hxO) (fun k hk => by have h1 := hk.2.1; have h2 := hk.2.2.1; omega)) (by omega)
 ·exact Kd.S_lower (Kd.S_mono (Kd.S_below (Kd.S_bound hoT) hxT) (fun k hk => by have h1 := hk.2.1; have h2 := hk.2.2.1; omega)) (by omega)
theorem C_row {w : World} {A : Option Addr} {n : Nat} {xs : List (List Int)} (h : dG.C w A n xs) {i : Nat} (hi : i < n) : ∃ ad A' c, A = some ad ∧ w.cell? (ad.add i) = some (.slice A' (xs.getD i []).length c) ∧ (xs.getD i []).length ≤ c ∧ dI.C w A' (xs.getD i []).length (xs.getD i []) := by
 obtain ⟨ad, cs, rfl, _, ⟨A', c, rfl, hc, hC⟩, hcell⟩ := Kd.C_get h [] (i : Int) (by omega) (by omega)
 refine ⟨ad, A', c, rfl, ?_, hc, hC⟩
 have := hcell 0 _ rfl
 rw [show (i : Int).toNat * dG.sz + 0 = i from by show (i : Int).toNat * 1 + 0 = i; omega] at this
 exact this
theorem R_int_cell {W : World} {base g n cap : Nat} {ok : Nat → Prop} {xs : List Int} (h : dI.R 3 W base ok (.slice (some ⟨g, 0, none⟩) n cap) xs) (i : Nat) (hi : i < n) : W.cell? ⟨g, i, none⟩ = some (.int .i64 (xs.getD i 0)) ∧ W.frozen? ⟨g, i, none⟩ = false := by
 have := Kd.R_celln (0 : Int) h (i : Int) (by omega) (by omega)
 exact this
theorem IdS.solv {w W : World} {s n ga gd cd : Nat} {vp vo : Value} {pre : List (List Int)} {ord at' d : List Int} (h : IdS w W s n ga gd cd vp vo pre ord at' d) : Solv W s n ga n gd cd vp vo at' d :=
 ⟨h.blk, fun i hi => (R_int_cell h.rat i hi).1, fun i hi => (R_int_cell h.rd_ i hi).1⟩
theorem IdS.setAt {w W : World} {s n ga gd cd : Nat} {vp vo : Value} {pre : List (List Int)} {ord at' d : List Int} (h : IdS w W s n ga gd cd vp vo pre ord at' d) (i : Nat) (x : Int) : IdS w (W.setCell ⟨ga, i, none⟩ (.int .i64 x)) s n ga gd cd vp vo pre ord (at'.set i x) d := by
 have hne := h.ne
 have hm : ∀ k, k ≠ ga → (W.setCell ⟨ga, i, none⟩ (.int .i64 x)).heap[k]? = W.heap[k]? := fun k hk => Below.heap_setCell _ _ _ _ hk
 refine ⟨h.bel.setCell h.base.2.1 _, h.base, h.ne, (hm s hne.1).trans h.blk, ?_, Kd.R_move h.rd_ (fun k hk => hm k (by rw [hk]; exact fun e => hne.2.2 e.symm)), Kd.R_move h.po (fun k hk => hm k hk.2.1), Kd.S_step h.pp (fun k hk _ => hm k hk.2.1)⟩
 have := Kd.R_putn h.rat (i : Int) x
 rw [Int.toNat_natCast] at this
 exact this
theorem IdS.setD {w W : World} {s n ga gd cd : Nat} {vp vo : Value} {pre : List (List Int)} {ord at' d : List Int} (h : IdS w W s n ga gd cd vp vo pre ord at' d) (i : Nat) (x : Int) : IdS w (W.setCell ⟨gd, i, none⟩ (.int .i64 x)) s n ga gd cd vp vo pre ord at' (d.set i x) := by
 have hne := h.ne
 have hm : ∀ k, k ≠ gd → (W.setCell ⟨gd, i, none⟩ (.int .i64 x)).heap[k]? = W.heap[k]? := fun k hk => Below.heap_setCell _ _ _ _ hk
 refine ⟨h.bel.setCell h.base.2.2 _, h.base, h.ne, (hm s hne.2.1).trans h.blk, Kd.R_move h.rat (fun k hk => hm k (by rw [hk]; exact hne.2.2)), ?_, Kd.R_move h.po (fun k hk => hm k hk.2.2), Kd.S_step h.pp (fun k hk _ => hm k hk.2.2)⟩
 have := Kd.R_putn h.rd_ (i : Int) x
 rw [Int.toNat_natCast] at this
 exact this
end Go.Proofs.YtemcmcnhpdkdfaaGreat.P
namespace Go.Proofs.YtemcmcnhpdkdfaaGreat.P
open Go.RowKit Go.Shelf Go.Lib Go.Sort Go.Proofs.YtemcmcnhpdkdfaaGreatW.PrintWords Go.Proofs.YtemcmcnhpdkdfaaGreatW.PrintLast Go.Proofs.YtemcmcnhpdkdfaaGreatW.PrintMore
def atSo (o : List Int) (n : Nat) : Nat → List Int
 | 0 => List.replicate n 0
 | k + 1 => (atSo o n k).set (o.getD k 0).toNat (k : Int)
def dSo (o : List Int) (n : Nat) : Nat → List Int
 | 0 => List.replicate n (-2)
 | k + 1 => (dSo o n k).set (o.getD k 0).toNat (-3)
def idF (k : Nat) (l0 : List (List Int)) : Option (List Int) :=
 if l0.length = 0 then some [] else (graph_Order.f l0 0).bind fun o => if (o.all (isN l0.length) && decide (0 < o.length)) = true then
  (itF l0.length (atSo o l0.length o.length) (turn (clean l0)) (o.drop 1) k ((dSo o l0.length o.length).set 0 0)).map fun d => d.set 0 (-1) else none
theorem pre_rows {l0 : List (List Int)} (hf : fits l0 = true) (b : Nat) : ((turn (clean l0)).getD b []).length ≤ 1000000 := by
 have h := clean_row_le (g := turn (clean l0))
 rw [clean_self (turn_Valid (clean_Valid l0) (clean_rises l0)) (turn_rises (clean_Valid l0) (clean_rises l0)), turn_len, clean_len] at h
 have hn : l0.length ≤ 100000 := by
  unfold fits at hf
  simp at hf
  exact hf.1
 rw [List.getD_eq_getElem?_getD]
 by_cases hb : b < (turn (clean l0)).length
 ·rw [List.getElem?_eq_getElem hb]
  exact Nat.le_trans (h _ (List.getElem_mem _)) (by omega)
 ·rw [List.getElem?_eq_none (by omega)]
  exact Nat.zero_le _
set_option maxHeartbeats 8000000 in
set_option maxRecDepth 100000 in
theorem idoms_c (A0 : Option Addr) (c0 : Nat) (l0 : List (List Int)) (k : Nat) (o at' dfin : List Int) (w : World) (hr0 : Kd.C (Kd.slice 3 (Kd.int .i64)) w A0 l0.length l0) (hc0 : l0.length ≤ c0) (hf : fits l0 = true) (hn0 : 0 < l0.length) (ho : graph_Order.f l0 0 = some o)
  (hon : ∀ x ∈ o, 0 ≤ x ∧ x < (l0.length : Int)) (ho0 : 0 < o.length) (hat : at' = atSo o l0.length o.length) (hit : itF l0.length at' (turn (clean l0)) (o.drop 1) k ((dSo o l0.length o.length).set 0 0) = some dfin) :
  Calls Tryz.prog 26 #[.slice A0 l0.length c0] w fun e w' => ∃ v0_ : Value, e = .returned v0_ ∧ dI.R 3 w' w.heap.size (fun _ => True) v0_ (dfin.set 0 (-1)) ∧ Below w.heap.size w w' := by
 have HT := Aside0.mk (fun W (hW : Below w.heap.size w W) => graph_Turn.calls A0 c0 l0 (turn (clean l0)) W (Kd.C_below hr0 hW) hc0 (by unfold graph_Turn.f; rw [if_pos hf]))
 have HO := Aside0.mk (fun W (hW : Below w.heap.size w W) => graph_Order.calls A0 c0 l0 0 o W (Kd.C_below hr0 hW) hc0 ho)
 have hn : l0.length ≤ 100000 := by
  have := hf
  unfold fits at this
  simp at this
  exact this.1
 have hom : o.length ≤ 1000000 := by
  unfold graph_Order.f at ho
  rw [if_pos hf] at ho
  obtain ⟨t, ht, e⟩ := Option.map_eq_some_iff.1 ho
  rw [← e, List.length_reverse]
  exact toldOf_len ht
 obtain ⟨n, en⟩ : ∃ n, n = l0.length := ⟨_, rfl⟩
 rw [← en] at HT HO hn hn0 hon hat hit ⊢
 have HAT := Aside0.mk hat
 have HIT := Aside0.mk hit
 have HON := Aside0.mk hon
 have HPR := Aside0.mk (pre_rows hf)
 have HPL : Aside0 ((turn (clean l0)).length = n) := ⟨by rw [turn_len, clean_len, en]⟩
 have HN := Aside0.mk en
 have hne0 : ((n : Int) == 0) = false := beq_eq_false_iff_ne.2 (by omega)
 have HR := Aside0.mk (fun W A c (hc : 1 ≤ c) (hC : dI.C W A 1 [-2]) => repeat_c (-2) n hn0 hn A c W hc hC)
 have hmk := run_make_row' (P := Tryz.prog) 23 3 (.int .i64 0) 8 Tryz.underlying23 info3 rfl .i64 .i64 n (by omega) (by omega)
 clear hr0 hc0 hf ho en hon hat hit
 go_enter Tryz.func26, Tryz.ntmps26
 go_upto_region 4 with (fail)
 go_cut [4] from 14 to 24 (fun v4 wx => ∃ s ga gd cd vp vo, v4 = .pointer (some ⟨s, 0, none⟩) ∧ Aside0 (IdS w wx s n ga gd cd vp vo (turn (clean l0)) o (List.replicate n 0) (List.replicate n (-2))))
 case first =>
  go_region_with (first
   | (go_at_call 46; refine bel_call (HT.out _) (by repeat (first | exact Below.refl _ _ | apply pw_below_drewN | apply below_drew1 | apply below_drew | apply below_alloc)) ?_; rintro e wT ⟨vT, rfl, hoT, hbT⟩ hW; obtain ⟨AT, cT, rfl, _⟩ := Kd.S_reads hoT; have HOT := Aside0.mk hoT; have HBc := Aside0.mk (bel_next hW hbT); have HBT := Aside0.mk hbT; clear hoT hbT hW)
   | (go_at_call 47; refine bel_call (HO.out _) (by repeat (first | exact Below.refl _ _ | exact HBc.out | apply pw_below_drewN | apply below_drew1 | apply below_drew | apply below_alloc)) ?_; rintro e wO ⟨vO, rfl, hoO, hbO⟩ hW; obtain ⟨AO, cO, rfl, _⟩ := Kd.R_reads hoO; have HOO := Aside0.mk hoO; have HBc := Aside0.mk (bel_next hW hbO); have HBO := Aside0.mk hbO; clear hoO hbO hW)
   | (go_at_call 48; refine bel_call (fun hW => HR.out _ _ _ (by omega) (cell_one (by repeat (first | exact World.cell?_alloc_at _ _ _ _ (by simp) | exact cell_new _ _ _ | apply cell?_alloc_some | apply cell_bel HBO.out | apply cell_bel HBT.out)))) (by repeat (first | exact Below.refl _ _ | exact HBc.out | apply pw_below_drewN | apply below_drew1 | apply below_drew | apply below_alloc)) ?_; rintro e wR ⟨vR, rfl, hoR, hbR⟩ hW; obtain ⟨gd, cd, rfl, hgd, hgd2, _⟩ := Kd.R_form hoR (by rw [List.length_replicate]; omega); rw [List.length_replicate] at hoR ⊢; have HOR := Aside0.mk hoR; have HBc := Aside0.mk (bel_next hW hbR); have HBR := Aside0.mk hbR; clear hoR hbR hW))
  all_goals (go_wp2_with (fail))
  all_goals go_meet
  all_goals exact ⟨_, _, _, _, _, _, rfl, ⟨IdS_make HOT.out HBT.out (by repeat (first | with_reducible exact Below.refl _ _ | apply below_alloc | apply pw_below_drewN | refine bel_next ?_ HBR.out | refine bel_next ?_ HBO.out | refine bel_next ?_ HBT.out)) HOO.out HBO.out (by repeat (first | with_reducible exact Below.refl _ _ | apply below_alloc | apply pw_below_drewN | refine bel_next ?_ HBR.out | refine bel_next ?_ HBO.out | refine bel_next ?_ HBT.out)) HOR.out HBR.out (by repeat (first | with_reducible exact Below.refl _ _ | apply below_alloc | apply pw_below_drewN | refine bel_next ?_ HBR.out | refine bel_next ?_ HBO.out | refine bel_next ?_ HBT.out)) (by repeat (first | exact heap_new _ _ _ (by simp) | apply heap_old | refine heap_bel ?_ HBR.out | refine heap_bel ?_ HBO.out | refine heap_bel ?_ HBT.out)) (by repeat (first | exact heap_new _ _ _ (by simp) | apply heap_old | refine heap_bel ?_ HBR.out | refine heap_bel ?_ HBO.out | refine heap_bel ?_ HBT.out)) (by repeat (first | with_reducible exact Below.refl _ _ | apply below_alloc | apply pw_below_drewN | refine bel_next ?_ HBR.out | refine bel_next ?_ HBO.out | refine bel_next ?_ HBT.out)) hn0 hn (by have h1 := HBT.out.size; have h2 := HBO.out.size; have h3 := HBR.out.size; simp only [size_alloc1, size_drew1] at h1 h2 h3 ⊢; omega)⟩⟩
 case rest =>
  obtain ⟨s, ga, gd, cd, vp, vo, rfl, HS⟩ := hcut
  obtain ⟨go, co, rfl, _, _, _⟩ := Kd.R_form HS.out.po ho0
  clear HT HO HR hmk
  obtain ⟨m, em⟩ : ∃ m, m = o.length := ⟨_, rfl⟩
  rw [← em] at HS HIT HAT ho0 hom
  have HEM := Aside0.mk em
  clear em
  obtain ⟨z0, z1, z2, z3⟩ := cells4 HS.out.blk
  obtain ⟨hne1, hne2, hne3⟩ := HS.out.ne
  clear z0 z2 z3
  go_wp2
  go_loopw [30] (fun v30 w' => ∃ i : Nat, i ≤ m ∧ v30 = .int .i64 i ∧ Aside0 (IdS w w' s n ga gd cd vp (.slice (some ⟨go, 0, none⟩) m co) (turn (clean l0)) o (atSo o n i) (dSo o n i))) (fun v30 _ => m - (intOf v30).toNat)
  case atStart => exact ⟨0, Nat.zero_le _, rfl, HS⟩
  case round =>
   clear HS z1
   obtain ⟨i, hi, rfl, HI⟩ := hrel
   by_cases hlt : i < m
   ·obtain ⟨b, eb⟩ : ∃ b, b = o.getD i 0 := ⟨_, rfl⟩
    have hb : 0 ≤ b ∧ b < (n : Int) := by
     have hil : i < o.length := by have := HEM.out; omega
     have := HON.out (o.getD i 0) (by rw [List.getD_eq_getElem?_getD, List.getElem?_eq_getElem hil]; exact List.getElem_mem hil)
     rw [← eb] at this
     exact this
    obtain ⟨x, rfl⟩ : ∃ x : Nat, b = (x : Int) := ⟨b.toNat, by omega⟩
    have hx : x < n := by omega
    have co_ := (R_int_cell HI.out.po i hlt).1
    rw [← eb] at co_
    have HEB := Aside0.mk eb
    clear eb hb
    obtain ⟨z0, z1, z2, z3⟩ := cells4 HI.out.blk
    have ca := HI.out.solv.at_ x hx
    have cd_ := HI.out.solv.d_ x hx
    have fa := (R_int_cell HI.out.rat x hx).2
    have fd := (R_int_cell HI.out.rd_ x hx).2
    clear z0 z1
    go_wp2
    go_region
    all_goals go_wp2
    go_roundw
    case rel =>
     refine ⟨i + 1, by omega, by go_num, ⟨?_⟩⟩
     have h := (((HI.out.setAt x (i : Int)).setD x (-3)).drewN 1)
     rw [atSo, dSo, ← HEB.out, Int.toNat_natCast]
     exact h
    case measure => simp [intOf]; omega
   ·obtain rfl : i = m := by omega
    have HI' : Aside0 (IdS w wr s n ga gd cd vp (.slice (some ⟨go, 0, none⟩) i co) (turn (clean l0)) o at' (dSo o n i)) := ⟨by
     have := HI.out
     rw [HAT.out]
     exact this⟩
    clear HI
    obtain ⟨z0, z1, z2, z3⟩ := cells4 HI'.out.blk
    have cd_ := HI'.out.solv.d_ 0 hn0
    have fd := (R_int_cell HI'.out.rd_ 0 hn0).2
    clear z0 z2
    have hc1 : i ≤ co := (Kd.R_reads' HI'.out.po).2.1
    go_wp2
    clear cd_ fd z1 z3
    have HI2 : Aside0 (IdS w (wr.setCell ⟨gd, 0, none⟩ (.int .i64 0)) s n ga gd cd vp (.slice (some ⟨go, 0, none⟩) i co) (turn (clean l0)) o at' ((dSo o n i).set 0 0)) := ⟨HI'.out.setD 0 0⟩
    clear HI'
    obtain ⟨W0, hW0⟩ : ∃ W0, W0 = wr.setCell ⟨gd, 0, none⟩ (.int .i64 0) := ⟨_, rfl⟩
    rw [← hW0] at HI2 ⊢
    clear hW0
    obtain ⟨d0, hd0⟩ : ∃ d0, d0 = (dSo o n i).set 0 0 := ⟨_, rfl⟩
    rw [← hd0] at HI2 HIT
    clear hd0
    obtain ⟨pre, epre⟩ : ∃ pre, pre = turn (clean l0) := ⟨_, rfl⟩
    rw [← epre] at HI2 HIT HPR HPL
    clear epre
    obtain ⟨gp, cp, e, _, _, _⟩ := Kd.S_form HI2.out.pp (by rw [HPL.out]; exact hn0)
    rw [HPL.out] at e
    subst e
    go_loopg [7] k (fun kq v7 w' => ∃ (c : Bool) (d : List Int), v7 = .bool c ∧ Aside0 (IdS w w' s n ga gd cd (.slice (some ⟨gp, 0, none⟩) n cp) (.slice (some ⟨go, 0, none⟩) i co) pre o at' d) ∧ Aside0 ((c = true ∧ itF n at' pre (o.drop 1) kq d = some dfin) ∨ (c = false ∧ d = dfin)))
    case atStart => exact ⟨true, d0, rfl, HI2, ⟨.inl ⟨rfl, HIT.out⟩⟩⟩
    case round =>
     clear HI2 HIT
     obtain ⟨c, d, rfl, HI, HC⟩ := hrel
     cases c with
     | false =>
      obtain rfl : d = dfin := by
       rcases HC.out with h | h
       ·exact absurd h.1 (by simp)
       ·exact h.2
      obtain ⟨z0, z1, z2, z3⟩ := cells4 HI.out.blk
      have cd_ := HI.out.solv.d_ 0 hn0
      have fd := (R_int_cell HI.out.rd_ 0 hn0).2
      clear z0 z1 z2
      go_wp2
      go_ret
      exact ⟨_, rfl, Kd.R_mono (HI.out.setD 0 (-1)).rd_ (fun _ _ => trivial), (HI.out.setD 0 (-1)).bel⟩
     | true =>
      cases gk with
      | zero =>
       rcases HC.out with h | h
       ·rw [itF] at h
        exact absurd h.2 (by simp)
       ·exact absurd h.1 (by simp)
      | succ k1 =>
       obtain ⟨r, hr, hr2⟩ : ∃ r, passF n at' pre k1 (o.drop 1) d false = some r ∧ (if r.2 = true then itF n at' pre (o.drop 1) k1 r.1 else some r.1) = some dfin := by
        rcases HC.out with h | h
        ·have h2 := h.2
         rw [itF] at h2
         exact Option.bind_eq_some_iff.1 h2
        ·exact absurd h.1 (by simp)
       have HR1 := Aside0.mk hr
       have HR2 := Aside0.mk hr2
       clear hr hr2 HC
       obtain ⟨z0, z1, z2, z3⟩ := cells4 HI.out.blk
       clear z0 z2 z3
       have hi1 : (1 : Int) ≤ (i : Int) := by omega
       have hi2 : (i : Int) ≤ (co : Int) := by omega
       by_cases hc11 : co = 1
       ·obtain rfl : i = 1 := by omega
        have hd1 : d = dfin := by
         have h := HR1.out
         rw [List.drop_eq_nil_of_le (by have := HEM.out; omega), passF] at h
         have h2 := HR2.out
         obtain rfl := Option.some.inj h
         simpa using h2
        subst hc11
        go_wp2
        go_loopw [7, 61] (fun v7 v61 w' => v7 = .bool false ∧ v61 = .int .i64 0 ∧ Aside0 (IdS w w' s n ga gd cd (.slice (some ⟨gp, 0, none⟩) n cp) (.slice (some ⟨go, 0, none⟩) 1 1) pre o at' d)) (fun _ _ _ => 0)
        case atStart => exact ⟨rfl, rfl, HI⟩
        case round =>
         clear HI z1
         obtain ⟨rfl, rfl, HI⟩ := hrel
         go_wp2
         go_roundg k1
         case measure => omega
         case rel => exact ⟨false, d, rfl, HI, ⟨.inr ⟨rfl, hd1⟩⟩⟩
       ·go_wp2
        clear z1
        go_loopw [7, 61] (fun v7 v61 w' => ∃ (j : Nat) (ch : Bool) (d1 : List Int), v7 = .bool ch ∧ v61 = .int .i64 j ∧ j ≤ i - 1 ∧ Aside0 (IdS w w' s n ga gd cd (.slice (some ⟨gp, 0, none⟩) n cp) (.slice (some ⟨go, 0, none⟩) i co) pre o at' d1) ∧ Aside0 (passF n at' pre k1 (o.drop (j + 1)) d1 ch = some r)) (fun _ v61 _ => i - (intOf v61).toNat)
        case atStart => exact ⟨0, false, d, rfl, rfl, Nat.zero_le _, HI, HR1⟩
        case round =>
         clear HI HR1
         obtain ⟨j, ch, d1, rfl, rfl, hj, HI, HP⟩ := hrel
         by_cases hjl : j < i - 1
         ·have hjl2 : j + 1 < i := by omega
          have hil : j + 1 < o.length := by have := HEM.out; omega
          obtain ⟨b, eb⟩ : ∃ b, b = o.getD (j + 1) 0 := ⟨_, rfl⟩
          have hbo : o.getD (j + 1) 0 = o[j + 1] := by rw [List.getD_eq_getElem?_getD, List.getElem?_eq_getElem hil]; rfl
          have hb : 0 ≤ b ∧ b < (n : Int) := by
           rw [eb, hbo]
           exact HON.out _ (List.getElem_mem hil)
          have h := HP.out
          rw [List.drop_eq_getElem_cons hil, passF, ← hbo, ← eb] at h
          obtain ⟨z, hz, hrest⟩ := Option.bind_eq_some_iff.1 h
          clear h hbo
          obtain ⟨x, rfl⟩ : ∃ x : Nat, b = (x : Int) := ⟨b.toNat, by omega⟩
          have hx : x < n := by omega
          rw [Int.toNat_natCast] at hz hrest
          have co_ := (R_int_cell HI.out.po (j + 1) hjl2).1
          rw [← eb, Nat.add_comm j 1] at co_
          clear eb hb
          obtain ⟨q, eq⟩ : ∃ q, q = (rd d1 (x : Int) != z) := ⟨_, rfl⟩
          rw [← eq] at hrest
          have HPN := Aside0.mk hrest
          obtain ⟨ad, A', c', e, hrow, hlc, hC⟩ := C_row (Kd.S_reads' HI.out.pp).2.2 (i := x) (by rw [HPL.out]; exact hx)
          injection e with e
          subst e
          rw [Addr.add_lit, Nat.zero_add] at hrow
          have HST := Aside0.mk (step_c HI.out.solv hx hrow hC (HPR.out x) (R_int_cell HI.out.rd_ x hx).2 k1 z hz)
          rw [← eq] at HST
          clear hrest hz eq hrow hlc hC
          cases q with
          | true =>
           go_wp2_with (go_at_call 49; refine HST.out.mono ?_; rintro e w3 ⟨rfl, m3, rfl⟩)
           go_roundw
           case rel => exact ⟨j + 1, true, d1.set x z, rfl, by go_num, by omega, ⟨(HI.out.drewN m3).setD x z⟩, ⟨HPN.out⟩⟩
           case measure => simp [intOf]; omega
          | false =>
           rw [Bool.false_or] at HPN
           go_wp2_with (go_at_call 49; refine HST.out.mono ?_; rintro e w3 ⟨rfl, m3, rfl⟩)
           go_roundw
           case rel => exact ⟨j + 1, ch, d1.set x z, rfl, by go_num, by omega, ⟨(HI.out.drewN m3).setD x z⟩, ⟨HPN.out⟩⟩
           case measure => simp [intOf]; omega
         ·obtain rfl : j = i - 1 := by omega
          obtain ⟨d2, ch2⟩ := r
          have h := HP.out
          rw [List.drop_eq_nil_of_le (by have := HEM.out; omega), passF] at h
          have h2 := Option.some.inj h
          injection h2 with h3 h4
          have hfin : Aside0 ((ch = true ∧ itF n at' pre (o.drop 1) k1 d1 = some dfin) ∨ (ch = false ∧ d1 = dfin)) := ⟨by
           have h5 := HR2.out
           rw [← h3, ← h4] at h5
           cases ch with
           | true => exact .inl ⟨rfl, by simpa using h5⟩
           | false => exact .inr ⟨rfl, by simpa using h5⟩⟩
          clear h h3 h4 HP HR2
          go_wp2
          go_roundg k1
          case measure => omega
          case rel => exact ⟨ch, d1, rfl, HI, hfin⟩
end Go.Proofs.YtemcmcnhpdkdfaaGreat.P
namespace Go.Proofs.YtemcmcnhpdkdfaaGreat.P
open Go.RowKit Go.Shelf Go.Lib Go.Sort Go.Proofs.YtemcmcnhpdkdfaaGreatW.PrintWords Go.Proofs.YtemcmcnhpdkdfaaGreatW.PrintLast Go.Proofs.YtemcmcnhpdkdfaaGreatW.PrintMore
def dom_Idoms.f (k : Nat) (l0 : List (List Int)) : Option (List Int) := if fits l0 = true then idF k l0 else none
theorem leO_bind {α β : Type} {a b : Option α} {f g : α → Option β} (h : LeO a b) (k : ∀ x, LeO (f x) (g x)) : LeO (a.bind f) (b.bind g) := by
 intro r hr
 obtain ⟨x, hx, hx2⟩ := Option.bind_eq_some_iff.1 hr
 exact Option.bind_eq_some_iff.2 ⟨x, h x hx, k x r hx2⟩
theorem leO_refl {α : Type} (a : Option α) : LeO a a := fun _ h => h
theorem leO_none {α : Type} (a : Option α) : LeO none a := fun _ h => by cases h
theorem leO_ite {α : Type} {c : Prop} [Decidable c] {a b a' b' : Option α} (h : LeO a a') (k : LeO b b') : LeO (if c then a else b) (if c then a' else b') := by
 split
 ·exact h
 ·exact k
theorem meetA_mono (n : Nat) (at' d : List Int) : ∀ k a b, LeO (meetA n at' d k a b) (meetA n at' d (k + 1) a b)
 | 0, _, _ => leO_none _
 | k + 1, _, _ => leO_ite (leO_ite (meetA_mono n at' d k _ _) (leO_refl _)) (leO_refl _)
theorem meetO_mono (n : Nat) (at' d : List Int) : ∀ k a b, LeO (meetO n at' d k a b) (meetO n at' d (k + 1) a b)
 | 0, _, _ => leO_none _
 | k + 1, _, _ => leO_ite (leO_refl _) (leO_bind (meetA_mono n at' d k _ _) fun _ => leO_bind (meetA_mono n at' d k _ _) fun _ => meetO_mono n at' d k _ _)
theorem toF_mono (n : Nat) (at' d : List Int) (k : Nat) : ∀ ps z, LeO (toF n at' d k ps z) (toF n at' d (k + 1) ps z)
 | [], _ => leO_refl _
 | _ :: ps, _ => leO_ite (leO_ite (toF_mono n at' d k ps _) (leO_ite (toF_mono n at' d k ps _) (leO_bind (meetO_mono n at' d k _ _) fun _ => toF_mono n at' d k ps _))) (leO_refl _)
theorem passF_mono (n : Nat) (at' : List Int) (pre : List (List Int)) (k : Nat) : ∀ bs d ch, LeO (passF n at' pre k bs d ch) (passF n at' pre (k + 1) bs d ch)
 | [], _, _ => leO_refl _
 | _ :: bs, _, _ => leO_bind (toF_mono n at' _ k _ _) fun _ => passF_mono n at' pre k bs _ _
theorem itF_mono (n : Nat) (at' : List Int) (pre : List (List Int)) (bs : List Int) : ∀ k d, LeO (itF n at' pre bs k d) (itF n at' pre bs (k + 1) d)
 | 0, _ => leO_none _
 | k + 1, _ => leO_bind (passF_mono n at' pre k bs _ _) fun _ => leO_ite (itF_mono n at' pre bs k _) (leO_refl _)
theorem dom_Idoms.mono : ∀ a0 k, LeO (dom_Idoms.f k a0) (dom_Idoms.f (k + 1) a0) := by
 intro a0 k
 refine leO_ite (leO_ite (leO_refl _) (leO_bind (leO_refl _) fun o => leO_ite ?_ (leO_refl _))) (leO_refl _)
 intro r hr
 obtain ⟨x, hx, hx2⟩ := Option.map_eq_some_iff.1 hr
 exact Option.map_eq_some_iff.2 ⟨x, itF_mono _ _ _ _ k _ x hx, hx2⟩
set_option maxHeartbeats 1000000 in
theorem dom_Idoms.calls (k : Nat) (A0 : Option Addr) (c0 : Nat) (l0 : List (List Int)) (r : List Int) (w : World) (hr0 : Kd.C (Kd.slice 3 (Kd.int .i64)) w A0 l0.length l0) (hc0 : l0.length ≤ c0) (h : dom_Idoms.f k l0 = some r) :
  Calls Tryz.prog 26 #[.slice A0 l0.length c0] w fun e w' => ∃ v0_ : Value, e = .returned v0_ ∧ Kd.R (Kd.int .i64) 3 w' w.heap.size (fun _ => True) v0_ r ∧ Below w.heap.size w w' := by
 unfold dom_Idoms.f at h
 split at h
 ·rename_i hf
  unfold idF at h
  split at h
  ·rename_i h0
   obtain rfl := Option.some.inj h
   rw [h0]
   clear hf hr0 hc0 h
   go_enter Tryz.func26, Tryz.ntmps26
   go_wp2
   go_ret
   exact ⟨_, rfl, Kd.R_nil _ _ _ _ _, Below.refl _ _⟩
  ·rename_i h0
   obtain ⟨o, ho, h⟩ := Option.bind_eq_some_iff.1 h
   split at h
   ·rename_i hc
    obtain ⟨x, hx, rfl⟩ := Option.map_eq_some_iff.1 h
    simp only [Bool.and_eq_true, List.all_eq_true, decide_eq_true_eq] at hc
    exact idoms_c A0 c0 l0 k o _ x w hr0 hc0 hf (by omega) ho (fun x hx => isN_iff.1 (hc.1 x hx)) hc.2 rfl hx
   ·cases h
 ·cases h
end Go.Proofs.YtemcmcnhpdkdfaaGreat.P
namespace Go.Proofs.YtemcmcnhpdkdfaaGreat.P
open Go.Proofs.YtemcmcnhpdkdfaaGreatW.PrintWords
section
variable {g pre : List (List Int)} {n : Nat} {bs at' : List Int} {par : Int → Option Int}
theorem eq0_one (T : Int → Option Int) : Eq0 (0 :: bs) par T 1 := by
 intro v _ hv0 hlt
 rw [idx_ne2 bs (Ne.symm hv0)] at hlt
 omega
theorem it_ev (hd : Dfs g (0 :: bs) par) (hnd : (0 :: bs).Nodup) (hp1 : ∀ b, b ∈ (0 :: bs) → ∀ a ∈ pre.getD b.toNat [], 0 ≤ a ∧ a < (n : Int)) (hp2 : ∀ a b, a ∈ (0 :: bs) → b ∈ (0 :: bs) → (a ∈ pre.getD b.toNat [] ↔ b ∈ row g a)) :
  ∀ (m : Nat) (T : Int → Option Int) (d : List Int), mes (0 :: bs) T ≤ m → DI g (0 :: bs) par T → Rep n (0 :: bs) at' d T → d.length = n →
   ∃ T' d', Ev (fun k => itF n at' pre bs k d) d' ∧ DI g (0 :: bs) par T' ∧ Rep n (0 :: bs) at' d' T' ∧ d'.length = n ∧ ∀ c ∈ bs, ∃ p, T' c = some p ∧ StepOk g T' c p := by
 intro m
 induction m with
 | zero =>
  intro T d hm h hr hl
  obtain ⟨T', d', e, i1, i2, i3, i4, i5⟩ := pass_ev hd hnd hp1 hp2 bs [0] rfl (by simp) T d false h hr hl (eq0_one T)
  rcases i5 with ⟨q1, q2, q3, q4⟩ | ⟨_, q2⟩
  ·subst q1 q2 q3
   refine ⟨T', d', Ev.step (f := fun k => (passF n at' pre k bs d' false).bind fun r => if r.2 = true then itF n at' pre bs k r.1 else some r.1) (fun k => by rw [itF]) (Ev.bind i1 ?_), i2, i3, i4, q4⟩
   simp only [Bool.or_self, Bool.false_eq_true, if_false]
   exact Ev.now _
  ·omega
 | succ m ih =>
  intro T d hm h hr hl
  obtain ⟨T', d', e, i1, i2, i3, i4, i5⟩ := pass_ev hd hnd hp1 hp2 bs [0] rfl (by simp) T d false h hr hl (eq0_one T)
  rcases i5 with ⟨q1, q2, q3, q4⟩ | ⟨q1, q2⟩
  ·subst q1 q2 q3
   refine ⟨T', d', Ev.step (f := fun k => (passF n at' pre k bs d' false).bind fun r => if r.2 = true then itF n at' pre bs k r.1 else some r.1) (fun k => by rw [itF]) (Ev.bind i1 ?_), i2, i3, i4, q4⟩
   simp only [Bool.or_self, Bool.false_eq_true, if_false]
   exact Ev.now _
  ·subst q1
   obtain ⟨T2, d2, j1, j2⟩ := ih T' d' (by omega) i2 i3 i4
   refine ⟨T2, d2, Ev.step (f := fun k => (passF n at' pre k bs d false).bind fun r => if r.2 = true then itF n at' pre bs k r.1 else some r.1) (fun k => by rw [itF]) (Ev.bind i1 ?_), j2⟩
   simp only [Bool.or_false, if_true]
   exact j1
end
theorem atSo_get {o : List Int} {n : Nat} (hn : o.Nodup) (ho : ∀ x ∈ o, 0 ≤ x ∧ x < (n : Int)) : ∀ k, k ≤ o.length → (atSo o n k).length = n ∧ (dSo o n k).length = n ∧ ∀ x : Int, 0 ≤ x → x < (n : Int) → rd (atSo o n k) x = (if x ∈ o.take k then (o.idxOf x : Int) else 0) ∧ rd (dSo o n k) x = (if x ∈ o.take k then -3 else -2)
 | 0, _ => by
  refine ⟨by simp [atSo], by simp [dSo], fun x h0 h1 => ?_⟩
  rw [List.take_zero, if_neg (by simp), if_neg (by simp)]
  obtain ⟨i, rfl⟩ : ∃ i : Nat, x = (i : Int) := ⟨x.toNat, by omega⟩
  refine ⟨?_, ?_⟩
  ·show (List.replicate n (0 : Int)).getD (Int.toNat (i : Int)) 0 = 0
   rw [Int.toNat_natCast, List.getD_eq_getElem?_getD, List.getElem?_replicate]
   split <;> rfl
  ·show (List.replicate n (-2 : Int)).getD (Int.toNat (i : Int)) 0 = -2
   rw [Int.toNat_natCast, List.getD_eq_getElem?_getD, List.getElem?_replicate, if_pos (by omega)]
   rfl
 | k + 1, hk => by
  obtain ⟨l1, l2, ih⟩ := atSo_get hn ho k (by omega)
  have hko : k < o.length := by omega
  have e : o.getD k 0 = o[k] := by rw [List.getD_eq_getElem?_getD, List.getElem?_eq_getElem hko]; rfl
  have hm := ho o[k] (List.getElem_mem hko)
  refine ⟨by rw [atSo, List.length_set]; exact l1, by rw [dSo, List.length_set]; exact l2, fun x h0 h1 => ?_⟩
  rw [atSo, dSo, e, rd_setn hm.1 (by rw [l1]; exact hm.2) h0, rd_setn hm.1 (by rw [l2]; exact hm.2) h0, List.take_succ_eq_append_getElem hko]
  have hix : o.idxOf o[k] = k := List.Nodup.idxOf_getElem hn k hko
  by_cases ex : x = o[k]
  ·subst ex
   have hin : o[k] ∈ List.take k o ++ [o[k]] := List.mem_append.2 (.inr (List.mem_singleton.2 rfl))
   rw [if_pos rfl, if_pos rfl, if_pos hin, if_pos hin, hix]
   exact ⟨rfl, rfl⟩
  ·rw [if_neg ex, if_neg ex, (ih x h0 h1).1, (ih x h0 h1).2]
   have : (x ∈ List.take k o ++ [o[k]]) ↔ x ∈ List.take k o := by rw [List.mem_append, List.mem_singleton]; exact ⟨fun h => h.elim id (fun e => absurd e ex), .inl⟩
   simp only [this]
   exact ⟨trivial, trivial⟩
def idT (l : List Int) : Int → Option Int := fun b => if (0 ≤ b ∧ b < (l.length : Int)) ∧ 0 ≤ rd l b then some (rd l b) else none
structure IsDom (c : List (List Int)) (l : List Int) : Prop where
 len : l.length = c.length
 zero : 0 < c.length → rd l 0 = -1
 lost : ∀ b, Node c b → ¬ Way c 0 b → rd l b = -2
 par : ∀ b, Node c b → Way c 0 b → b ≠ 0 → ∃ p, idT l b = some p ∧ rd l b = p ∧ Node c p ∧ Way c 0 p
 doms : ∀ b, Node c b → Way c 0 b → ∀ x, Up (idT l) b x ↔ ¬ Av c x 0 b
 rank : ∃ f : Int → Nat, (∀ b p, idT l b = some p → f p < f b) ∧ ∀ b, Node c b → Way c 0 b → f b < c.length
theorem Up.congr {T T' : Int → Option Int} (P : Int → Prop) (hT : ∀ b, P b → T b = T' b) (hP : ∀ b p, P b → T b = some p → P p) {b x : Int} (h : Up T b x) (hb : P b) : Up T' b x := by
 induction h with
 | refl => exact .refl _
 | step h1 _ ih => exact .step (by rw [← hT _ hb]; exact h1) (ih (hP _ _ hb h1))
set_option maxHeartbeats 1000000 in
theorem idoms_now {g : List (List Int)} (hs : Small g) : ∃ l, Ev (fun k => dom_Idoms.f k g) l ∧ IsDom (clean g) l := by
 rcases Nat.eq_zero_or_pos g.length with h0 | h0
 ·refine ⟨[], Ev.congr (f := fun _ => some []) (fun k => by unfold dom_Idoms.f idF; rw [if_pos hs.1, if_pos h0]) (Ev.now _), ?_⟩
  have hc : (clean g).length = 0 := by rw [clean_len]; exact h0
  have no : ∀ b, ¬ Node (clean g) b := fun b hb => by unfold Node at hb; omega
  exact ⟨hc.symm, fun h => by omega, fun b hb => absurd hb (no b), fun b hb => absurd hb (no b), fun b hb => absurd hb (no b), fun _ => 0, fun b p h => by simp [idT] at h; omega, fun b hb => absurd hb (no b)⟩
 ·obtain ⟨bs, par, h1, hd, hnd, ho⟩ := dfs_ctx hs h0
  obtain ⟨n, en⟩ : ∃ n, n = g.length := ⟨_, rfl⟩
  have hcl := clean_len g
  have hv := clean_Valid g
  have hri := clean_rises g
  rw [← en] at ho hcl h0
  have hp1 : ∀ b, b ∈ (0 :: bs) → ∀ a ∈ (turn (clean g)).getD b.toNat [], 0 ≤ a ∧ a < (n : Int) := fun b hb a ha => by
   have := (mem_turn hv hri (ho b hb).1).1 ha
   rw [hcl] at this
   exact this.1
  have hp2 : ∀ a b, a ∈ (0 :: bs) → b ∈ (0 :: bs) → (a ∈ (turn (clean g)).getD b.toNat [] ↔ b ∈ row (clean g) a) := fun a b ha hb => by
   have := mem_turn hv hri (a := a) (ho b hb).1
   rw [hcl] at this
   exact ⟨fun h => (this.1 h).2, fun h => this.2 ⟨ho a ha, h⟩⟩
  have hg := atSo_get hnd ho (0 :: bs).length (Nat.le_refl _)
  have hDI : DI (clean g) (0 :: bs) par (fun _ => none) := by
   have hup : ∀ b x, Up (fun _ : Int => (none : Option Int)) b x → x = b := fun b x h => by
    rcases h.cases with e | ⟨p, hp, _⟩
    ·exact e
    ·cases hp
   refine ⟨fun b p h => (by cases h), fun b x _ h => (by obtain rfl := hup b x h; exact .refl _), fun b x hb h => ?_, fun b p h => (by cases h)⟩
   rcases hb with rfl | ⟨p, hp⟩
   ·by_cases e : x = 0
    ·rw [e]; exact .refl _
    ·exact absurd (.refl (Ne.symm e)) h
   ·cases hp
  have hd0 : ∀ x : Int, 0 ≤ x → x < (n : Int) → rd ((dSo (0 :: bs) n (0 :: bs).length).set 0 0) x = if x = 0 then 0 else if x ∈ (0 :: bs) then -3 else -2 := fun x hx0 hx1 => by
   have := rd_setn (d := dSo (0 :: bs) n (0 :: bs).length) (c := 0) (v := 0) (Int.le_refl 0) (by rw [hg.2.1]; omega) hx0
   rw [show (0 : Int).toNat = 0 from rfl] at this
   rw [this, (hg.2.2 x hx0 hx1).2, List.take_length]
  have hRep : Rep n (0 :: bs) (atSo (0 :: bs) n (0 :: bs).length) ((dSo (0 :: bs) n (0 :: bs).length).set 0 0) (fun _ => none) := by
   refine ⟨ho, fun x hx => ?_, ?_, fun b p h => (by cases h), fun b hb hb0 _ => ?_, fun b hb0 hb1 hb => ?_⟩
   ·rw [(hg.2.2 x (ho x hx).1 (ho x hx).2).1, List.take_length, if_pos hx]
   ·rw [hd0 0 (by omega) (by omega), if_pos rfl]
   ·rw [hd0 b (ho b hb).1 (ho b hb).2, if_neg hb0, if_pos hb]
   ·rw [hd0 b hb0 hb1, if_neg (fun e => hb (by rw [e]; simp)), if_neg hb]
  obtain ⟨T, d, e1, hD, hR, hl, hall⟩ := it_ev hd hnd hp1 hp2 _ (fun _ => none) _ (Nat.le_refl _) hDI hRep (by rw [List.length_set]; exact hg.2.1)
  have hdone : ∀ b x, b ∈ (0 :: bs) → (Up T b x ↔ ¬ Av (clean g) x 0 b) := fun b x hb => hD.done hd (fun c hc hc0 => hall c (by rcases List.mem_cons.1 hc with e | e; exact absurd e hc0; exact e)) hb
  have hdl : ∀ x : Int, 0 ≤ x → x < (n : Int) → rd (d.set 0 (-1)) x = if x = 0 then -1 else rd d x := fun x hx0 _ => by
   have := rd_setn (d := d) (c := 0) (v := -1) (Int.le_refl 0) (by omega) hx0
   rw [show (0 : Int).toNat = 0 from rfl] at this
   exact this
  have hll : (d.set 0 (-1)).length = n := by rw [List.length_set]; exact hl

  have hT0 : T 0 = none := by
   cases hT : T 0 with
   | none => rfl
   | some p => exact absurd rfl (hD.t1 0 p hT).2.1
  have hidT : ∀ b, b ∈ (0 :: bs) → idT (d.set 0 (-1)) b = T b := fun b hb => by
   have hn := ho b hb
   unfold idT
   rw [hll, hdl b hn.1 hn.2]
   by_cases e : b = 0
   ·rw [if_pos e, e, hT0, if_neg (by omega)]
   ·obtain ⟨p, hp, _⟩ := hall b (by rcases List.mem_cons.1 hb with h | h; exact absurd h e; exact h)
    have hk := hR.known b p hp
    have hpn := ho p (hD.t1 b p hp).2.2.1
    rw [if_neg e, hk, if_pos ⟨hn, hpn.1⟩, hp]
  have hidN : ∀ b p, idT (d.set 0 (-1)) b = some p → b ∈ (0 :: bs) := fun b p h => by
   unfold idT at h
   rw [hll] at h
   split at h
   ·rename_i hc
    rw [hdl b hc.1.1 hc.1.2] at hc
    by_cases hb : b ∈ (0 :: bs)
    ·exact hb
    ·rw [if_neg (fun e => hb (by rw [e]; simp)), hR.lost b hc.1.1 hc.1.2 hb] at hc
     omega
   ·cases h
  have hTc : ∀ b p, b ∈ (0 :: bs) → T b = some p → p ∈ (0 :: bs) := fun b p _ h => (hD.t1 b p h).2.2.1
  have hmem : ∀ b, b ∈ (0 :: bs) ↔ Way (clean g) 0 b := hd.mem
  refine ⟨d.set 0 (-1), ?_, by rw [hll, hcl], fun _ => by rw [hdl 0 (by omega) (by omega), if_pos rfl], fun b hb hw => ?_, fun b hb hw hb0 => ?_, fun b hb hw x => ?_, fun b => (0 :: bs).idxOf b, fun b p h => ?_, fun b hb hw => ?_⟩
  ·refine Ev.congr (f := fun k => (itF n (atSo (0 :: bs) n (0 :: bs).length) (turn (clean g)) bs k ((dSo (0 :: bs) n (0 :: bs).length).set 0 0)).bind fun d => some (d.set 0 (-1))) (fun k => ?_) (Ev.bind e1 (Ev.now _))
   unfold dom_Idoms.f idF
   rw [if_pos hs.1, if_neg (by omega), h1, Option.bind_some, if_pos ?_, ← en]
   ·rw [show List.drop 1 (0 :: bs) = bs from rfl, Option.map_eq_bind]
    rfl
   ·simp only [Bool.and_eq_true, List.all_eq_true, decide_eq_true_eq]
    exact ⟨fun x hx => isN_iff.2 (by rw [← en]; exact ho x hx), by simp⟩
  ·have hb' := (clean_node.1 hb)
   rw [← en] at hb'
   have hbo : ¬ b ∈ (0 :: bs) := fun h => hw ((hmem b).1 h)
   rw [hdl b hb'.1 hb'.2, if_neg (fun e => hbo (by rw [e]; simp)), hR.lost b hb'.1 hb'.2 hbo]
  ·have hbo := (hmem b).2 hw
   obtain ⟨p, hp, _⟩ := hall b (by rcases List.mem_cons.1 hbo with h | h; exact absurd h hb0; exact h)
   have hpo := (hD.t1 b p hp).2.2.1
   refine ⟨p, by rw [hidT b hbo, hp], by rw [hdl b (ho b hbo).1 (ho b hbo).2, if_neg hb0, hR.known b p hp], clean_node.2 (by rw [← en]; exact ho p hpo), (hmem p).1 hpo⟩
  ·have hbo := (hmem b).2 hw
   rw [← hdone b x hbo]
   refine ⟨fun h => h.congr (fun b => b ∈ (0 :: bs)) hidT (fun b p hb h => hTc b p hb (by rw [← hidT b hb]; exact h)) hbo, fun h => h.congr (fun b => b ∈ (0 :: bs)) (fun b hb => (hidT b hb).symm) hTc hbo⟩
  ·have hbo := hidN b p h
   rw [hidT b hbo] at h
   exact (hD.t1 b p h).2.2.2.1
  ·have hbo := (hmem b).2 hw
   have := List.idxOf_lt_length_of_mem hbo
   have hle := few_nodes hnd ho
   rw [hcl]
   exact Nat.lt_of_lt_of_le this hle
end Go.Proofs.YtemcmcnhpdkdfaaGreat.P
namespace Go.Proofs.YtemcmcnhpdkdfaaGreat.P
open Go.Proofs.YtemcmcnhpdkdfaaGreatW.PrintWords
def upL (ds : List Int) (n : Nat) : Nat → Int → List Int
 | 0, _ => []
 | k + 1, b => if isN n b = true then b :: upL ds n k (rd ds b) else []
theorem upL_yes {ds : List Int} {n k : Nat} {b : Int} (h : isN n b = true) : upL ds n (k + 1) b = b :: upL ds n k (rd ds b) := by rw [upL, if_pos h]
theorem upL_no {ds : List Int} {n k : Nat} {b : Int} (h : isN n b = false) : upL ds n k b = [] := by
 cases k with
 | zero => rfl
 | succ k => rw [upL, if_neg (by rw [h]; simp)]
theorem upL_len (ds : List Int) (n : Nat) : ∀ (k : Nat) (b : Int), (upL ds n k b).length ≤ k
 | 0, _ => Nat.le_refl _
 | k + 1, b => by
  rw [upL]
  split
  ·rw [List.length_cons]; have := upL_len ds n k (rd ds b); omega
  ·exact Nat.zero_le _
end Go.Proofs.YtemcmcnhpdkdfaaGreat.P
namespace Go.Proofs.YtemcmcnhpdkdfaaGreat.P
open Go.RowKit Go.Shelf Go.Proofs.YtemcmcnhpdkdfaaGreatW.PrintWords Go.Proofs.YtemcmcnhpdkdfaaGreatW.PrintLast Go.Proofs.YtemcmcnhpdkdfaaGreatW.PrintMore
attribute [local go_sem] Oper.semAt_some
theorem Fr.mono {S S' : Nat → Prop} {a b : World} (h : Fr S a b) (hs : ∀ k, S k → S' k) : Fr S' a b := ⟨h.os, h.tape, h.output, h.size, fun k hk hn => h.block k hk (fun hS => hn (hs k hS))⟩
theorem Fr.kept {S : Nat → Prop} {a b : World} (h : Fr S a b) : Kept a b S := ⟨h.size, h.block⟩
structure UpI (Bi Bb : Nat) (A : Option Addr) (len cap : Nat) (ds : List Int) (b : Int) (W : World) : Prop where
 hi : W.heap[Bi]? = some (.cells #[.slice A len cap] 23 (0, 0))
 hb : W.heap[Bb]? = some (.cells #[.int .i64 b] 3 (0, 0))
 hc : 0 < len → ∃ g off, A = some ⟨g, off, none⟩ ∧ g ≠ Bb ∧ ∀ j, j < len → W.cell? ⟨g, off + j, none⟩ = some (.int .i64 (ds.getD j 0))
theorem UpI.kept {Bi Bb : Nat} {A : Option Addr} {len cap : Nat} {ds : List Int} {b : Int} {W W' : World} {T : Nat → Prop} (h : UpI Bi Bb A len cap ds b W) (k : Kept W W' T) (h1 : ¬ T Bi) (h2 : ¬ T Bb) (h3 : 0 < len → ∀ g off, A = some ⟨g, off, none⟩ → ¬ T g) : UpI Bi Bb A len cap ds b W' := by
 refine ⟨blk_kept h.hi k h1, blk_kept h.hb k h2, fun hp => ?_⟩
 obtain ⟨g, off, e, hne, hc⟩ := h.hc hp
 exact ⟨g, off, e, hne, fun j hj => Go.Proofs.YtemcmcnhpdkdfaaGreatW.PrintWords.cell_kept (hc j hj) k (h3 hp g off e)⟩
theorem UpI.store {Bi Bb : Nat} {A : Option Addr} {len cap : Nat} {ds : List Int} {b : Int} {W : World} (h : UpI Bi Bb A len cap ds b W) (hne : Bi ≠ Bb) (x : Int) : UpI Bi Bb A len cap ds x (W.setCell ⟨Bb, 0, none⟩ (.int .i64 x)) := by
 refine ⟨(Below.heap_setCell _ _ _ _ hne).trans h.hi, one_setCell h.hb, fun hp => ?_⟩
 obtain ⟨g, off, e, hg, hc⟩ := h.hc hp
 exact ⟨g, off, e, hg, fun j hj => (World.cell?_setCell_other _ _ _ _ (by intro e; injection e with e; exact hg e.symm)).trans (hc j hj)⟩
set_option maxRecDepth 100000 in
set_option maxHeartbeats 4000000 in
theorem up1_in (F : Fence) (n : Nat) (hf : F.fn 93) (hro : F.round = none) (hn : 1 ≤ n) (l Bi Bb : Nat) (A : Option Addr) (len cap : Nat) (ds : List Int) (hlen : len ≤ 1000000) (b0 : Int) (T : Nat → Prop) (J Jx : List Int → World → Prop)
  (hJ : ∀ pre W W', J pre W → Fr (fun k => k = Bb) W W' → J pre W')
  (hY : ∀ pre x W, J pre W → 0 ≤ x → x < (len : Int) → pre.length < len → YieldAt F (n - 1) Tryz.prog l #[.int .i64 x] W fun e W' => (e = .returned (.bool true) ∧ J (pre ++ [x]) W' ∧ Fr T W W') ∨ (e = .returned (.bool false) ∧ Jx (pre ++ [x]) W'))
  (h1 : ¬ T Bi) (h2 : ¬ T Bb) (h3 : 0 < len → ∀ g off, A = some ⟨g, off, none⟩ → ¬ T g) (hne : Bi ≠ Bb)
  (W : World) (hU : UpI Bi Bb A len cap ds b0 W) (h0 : J [] W) :
  CallsIn F n Tryz.prog 93 #[.func (.yield l) #[] #[], .pointer (some ⟨Bi, 0, none⟩), .pointer (some ⟨Bb, 0, none⟩)] W fun e W' => (∃ v, e = .returned v) ∧ (J (upL ds len len b0) W' ∨ ∃ pre, pre <+: upL ds len len b0 ∧ Jx pre W') := by
 have H0 := Aside0.mk h0
 have HU0 := Aside0.mk hU
 have hci := cell_of_one hU.hi
 clear h0 hU
 refine callsIn_of_wp Tryz.func93 rfl hf ?_ hro
 simp only [Tryz.ntmps93, List.size_toArray, List.length_cons, List.length_nil, Nat.reduceAdd, Nat.reduceSub, Array.replicate_succ, Array.replicate_zero, List.push_toArray, List.append_toArray, List.nil_append, List.cons_append]
 gi_wp2
 clear hci
 gi_loopw [6] (fun i wr => ∃ (m : Nat) (pre : List Int) (b : Int), i = .int .i64 m ∧ m ≤ len ∧ pre.length = m ∧ Aside0 (upL ds len len b0 = pre ++ upL ds len (len - m) b) ∧ Aside0 (J pre wr) ∧ Aside0 (UpI Bi Bb A len cap ds b wr)) (fun i _ => len - (intOf i).toNat)
 case atStart => exact ⟨0, [], b0, rfl, Nat.zero_le _, rfl, ⟨rfl⟩, H0, HU0⟩
 case round =>
  clear H0 HU0
  obtain ⟨m, pre, b, rfl, hm, hpl, HL, HJ, HU⟩ := hrel
  have HPL := Aside0.mk hpl
  clear hpl
  have hci := cell_of_one HU.out.hi
  have hcb := cell_of_one HU.out.hb
  by_cases hlt : m < len
  ·rcases Bool.eq_false_or_eq_true (isN len b) with hin | hin
   ·have hbn := isN_iff.1 hin
    obtain ⟨x, rfl⟩ : ∃ x : Nat, b = (x : Int) := ⟨b.toNat, by omega⟩
    have hx : x < len := by omega
    have c1 : decide ((x : Int) < 0) = false := decide_eq_false (by omega)
    have c2 : decide ((len : Int) ≤ (x : Int)) = false := decide_eq_false (by omega)
    have c3 : decide (len ≤ x) = false := decide_eq_false (by omega)
    obtain ⟨fn, tmps, assign, body, hy, hR⟩ := hY pre (x : Int) wr HJ.out hbn.1 hbn.2 (by rw [HPL.out]; exact hlt)
    clear hbn
    gi_wp2
    refine hR.mono ?_
    rintro e W3 (⟨rfl, hJ3, hk3⟩ | ⟨rfl, hJx3⟩)
    ·have hU3 := HU.out.kept hk3.kept h1 h2 h3
     have hci3 := cell_of_one hU3.hi
     have hcb3 := cell_of_one hU3.hb
     have hfb3 := free_of_one hU3.hb
     obtain ⟨g, off, e, hg, hc⟩ := hU3.hc (by omega)
     have hcx := hc x hx
     subst e
     obtain ⟨y, ey⟩ : ∃ y, y = ds.getD x 0 := ⟨_, rfl⟩
     rw [← ey] at hcx
     have HY := Aside0.mk ey
     have HU3 := Aside0.mk hU3
     have HJ3 := Aside0.mk hJ3
     clear hc ey hU3 hJ3 hk3 hci hcb
     gi_wp2
     go_roundw
     case rel =>
      refine ⟨m + 1, pre ++ [(x : Int)], y, by go_num, by omega, by rw [List.length_append, HPL.out]; rfl, ⟨?_⟩, ⟨hJ _ _ _ HJ3.out (Fr.setCell (p := ⟨Bb, 0, none⟩) (Fr.refl (fun k => k = Bb) W3) (.inl rfl) _)⟩, ⟨HU3.out.store hne y⟩⟩
      rw [HL.out, show len - m = (len - (m + 1)) + 1 by omega, upL_yes hin, List.append_assoc, HY.out]
      show _ = pre ++ ((x : Int) :: upL ds len (len - (m + 1)) (ds.getD x 0))
      rw [show rd ds (x : Int) = ds.getD x 0 by show ds.getD (Int.toNat (x : Int)) 0 = _; rw [Int.toNat_natCast]]
     case measure => simp [intOf]; omega
    ·gi_wp2
     refine bodyPost_ret (results_none rfl _ _ _) rfl ?_
     refine ⟨⟨_, rfl⟩, .inr ⟨pre ++ [(x : Int)], ?_, hJx3⟩⟩
     rw [HL.out, show len - m = (len - (m + 1)) + 1 by omega, upL_yes hin]
     exact ⟨_, by simp; rfl⟩
   ·have hend : Aside0 (J (upL ds len len b0) wr) := ⟨by rw [HL.out, upL_no hin, List.append_nil]; exact HJ.out⟩
    have hb : b < 0 ∨ (len : Int) ≤ b := by
     have : ¬ (0 ≤ b ∧ b < (len : Int)) := fun h => by rw [isN_iff.2 h] at hin; cases hin
     omega
    rcases hb with hb | hb
    ·have c1 : decide (b < 0) = true := decide_eq_true hb
     gi_wp2
     all_goals (refine ⟨fun _ h => (by cases h), ?_⟩; gi_wp2; refine bodyPost_ret (results_none rfl _ _ _) rfl ?_; exact ⟨⟨_, rfl⟩, .inl hend.out⟩)
    ·have c1 : decide (b < 0) = false := decide_eq_false (by omega)
     have c2 : decide ((len : Int) ≤ b) = true := decide_eq_true hb
     gi_wp2
     all_goals (refine ⟨fun _ h => (by cases h), ?_⟩; gi_wp2; refine bodyPost_ret (results_none rfl _ _ _) rfl ?_; exact ⟨⟨_, rfl⟩, .inl hend.out⟩)
  ·obtain rfl : m = len := by omega
   have hend : Aside0 (J (upL ds m m b0) wr) := ⟨by have h := HJ.out; rw [HL.out, Nat.sub_self, upL, List.append_nil]; exact h⟩
   gi_wp2
   go_end0
   exact ⟨⟨_, rfl⟩, .inl hend.out⟩
end Go.Proofs.YtemcmcnhpdkdfaaGreat.P
namespace Go.Proofs.YtemcmcnhpdkdfaaGreat.P
open Go.RowKit Go.Shelf Go.Proofs.YtemcmcnhpdkdfaaGreatW.PrintWords Go.Proofs.YtemcmcnhpdkdfaaGreatW.PrintLast Go.Proofs.YtemcmcnhpdkdfaaGreatW.PrintMore
attribute [local go_sem] Oper.semAt_some
def upPost (T : Nat → Prop) (I Ix : List Int → World → Prop) (xs : List Int) (W : World) : Exit → Act → World → Prop
 | .normal, _, W' => Fr T W W' ∧ I xs W'
 | .ret, _, W' => Fr T W W' ∧ Ix xs W'
 | _, _, _ => False
theorem fr_put (W : World) (l : Nat) (o : Obj) : Fr (fun k => k = l) W (W.putObj l o) :=
 Fr.grown (Fr.refl _ W) (grownBy_putObj' W l o) (fun k e => .inl (by injection e with e; exact e.symm))
set_option maxHeartbeats 1000000 in
theorem range_up {n : Nat} {g : Operand} {p : Tmp} {assign body : Code} {Q : Exit → Act → World → Prop} {a : Act} {w : World} {Bi Bb : Nat} {A : Option Addr} {len cap : Nat} {ds : List Int} {b0 : Int} (hn : 3 ≤ n) (hlen : len ≤ 1000000)
  (hg : a.eval g = .func (.func 93) #[] #[.pointer (some ⟨Bi, 0, none⟩), .pointer (some ⟨Bb, 0, none⟩)]) (hU : UpI Bi Bb A len cap ds b0 w) (hne : Bi ≠ Bb) (hA : 0 < len → ∀ g off, A = some ⟨g, off, none⟩ → g < w.heap.size)
  (T : Nat → Prop) (h1 : ¬ T Bi) (h2 : ¬ T Bb) (h3 : 0 < len → ∀ g off, A = some ⟨g, off, none⟩ → ¬ T g) (hT : ∀ k, T k → k < w.heap.size) (I Ix : List Int → World → Prop)
  (hI : ∀ pre W W', I pre W → Fr (fun k => k = Bb ∨ k = w.heap.size ∨ k = w.heap.size + 1) W W' → I pre W') (hIx : ∀ pre W W', Ix pre W → Fr (fun k => k = Bb ∨ k = w.heap.size ∨ k = w.heap.size + 1) W W' → Ix pre W') (h0 : I [] w) (a1 : Int → Act)
  (hassign : ∀ (l : Nat) (x : Int) (W : World) (K : Act → World → Prop), K (a1 x) W → assign.wpIn (Fence.wide.inRound l) (n - 1 - 1) Tryz.prog (Exit.then K (fun _ _ _ => False)) { tmps := a.tmps.setIfInBounds p (.int .i64 x), defers := [] } W)
  (hbody : ∀ (l : Nat) (pre : List Int) (x : Int) (W : World), 0 ≤ x → x < (len : Int) → pre.length < len → I pre W → w.heap.size + 2 ≤ W.heap.size → body.wpIn (Fence.wide.inRound l) (n - 1 - 1) Tryz.prog (upPost (fun k => T k ∨ w.heap.size + 2 ≤ k) I Ix (pre ++ [x]) W) (a1 x) W)
  (hdone : ∀ (D : Nat) (W : World), D = w.heap.size → w.heap.size + 2 ≤ W.heap.size → I (upL ds len len b0) W → W.heap[D]? = some (.deferred (some [])) → Q .normal { a with defers := { target := .collected D, args := #[] } :: a.defers } W)
  (hstop : ∀ (D : Nat) (pre : List Int) (W : World), D = w.heap.size → w.heap.size + 2 ≤ W.heap.size → pre <+: upL ds len len b0 → Ix pre W → W.heap[D]? = some (.deferred (some [])) → Code.ret.wpIn Fence.wide n Tryz.prog Q { a with defers := { target := .collected D, args := #[] } :: a.defers } W) :
  (Code.rangeFunc g #[p] assign body).wpIn Fence.wide n Tryz.prog Q a w := by
 refine wpIn_rangeFunc ?_
 intro fn _
 show ∃ (l : Nat) (mark : List Deferred) (w₁ : World) (d : Deferred) (w₁' : World) (f : FuncId) (args : Array Value) (w₂ : World), (Instr.enterLoop fn a.tmps #[p] assign body none).run Tryz.prog w = .ok (l, mark) w₁ ∧ _
 obtain ⟨N, hN⟩ : ∃ N, N = w.heap.size := ⟨_, rfl⟩
 obtain ⟨rec, hrec⟩ : ∃ rec : LoopState → Option Code → Loop, rec = fun st pe => { state := st, pending := pe, fn, tmps := a.tmps, params := #[p], assign, body, defers := N } := ⟨_, rfl⟩
 obtain ⟨W1, hW1⟩ : ∃ W1, (w.alloc (.deferred (some []))).alloc (.loop (rec .ready none)) = W1 := ⟨_, rfl⟩
 have hz1 : W1.heap.size = N + 2 := by rw [← hW1, size_alloc1, size_alloc1, hN]
 have hL1 : W1.heap[N + 1]? = some (.loop (rec .ready none)) := by
  rw [← hW1, hN, ← size_alloc1 w (.deferred (some []))]
  exact World.alloc_heap_new _ _
 have hK1 : W1.heap[N]? = some (.deferred (some [])) := by
  rw [← hW1, hN]
  exact (Below.heap_alloc _ _ _ (by rw [size_alloc1]; omega)).trans (World.alloc_heap_new w _)
 have hb1 : Below w.heap.size w W1 := by rw [← hW1]; exact below_alloc (below_alloc (Below.refl _ _) _) _
 have kep : ∀ {X Y : World} {S : Nat → Prop}, Fr S X Y → (∀ k, S k → k = Bb ∨ k = N ∨ k = N + 1) → Fr (fun k => k = Bb ∨ k = w.heap.size ∨ k = w.heap.size + 1) X Y := fun h hs => h.mono (fun k hk => by rw [← hN]; exact hs k hk)
 have ne1 : Bb ≠ N := fun e => by have := lt_of_block hU.hb; omega
 have ne2 : Bb ≠ N + 1 := fun e => by have := lt_of_block hU.hb; omega
 have lti := lt_of_block hU.hi
 have ltb := lt_of_block hU.hb
 refine ⟨N + 1, [{ target := .collected N, args := #[] }], W1, { target := .fn (.func 93) #[.pointer (some ⟨Bi, 0, none⟩), .pointer (some ⟨Bb, 0, none⟩)], args := #[.func (.yield (N + 1)) #[] #[]] }, W1, 93,
  #[.func (.yield (N + 1)) #[] #[], .pointer (some ⟨Bi, 0, none⟩), .pointer (some ⟨Bb, 0, none⟩)], W1, ?_, ?_, fun _ _ => trivial, ?_, fun _ => by omega, ?_⟩
 ·rw [← hW1, hrec, hN]
  exact run_enterLoop_outer _ _ _ _ _
 ·simp only [resolve, hg]
  simp [go_sem]
 ·simp only [invoke]
  simp [go_sem]
 ·refine (up1_in Fence.wide (n - 1) trivial rfl (by omega) (N + 1) Bi Bb A len cap ds hlen b0 (fun k => T k ∨ N ≤ k)
   (fun pre W => I pre W ∧ W.heap[N + 1]? = some (.loop (rec .ready none)) ∧ W.heap[N]? = some (.deferred (some [])) ∧ N + 2 ≤ W.heap.size)
   (fun pre W => Ix pre W ∧ W.heap[N + 1]? = some (.loop (rec .done (some .ret))) ∧ W.heap[N]? = some (.deferred (some [])) ∧ N + 2 ≤ W.heap.size) ?_ ?_ (fun h => h.elim h1 (by omega)) (fun h => h.elim h2 (by omega)) (fun hp g off e h => h.elim (h3 hp g off e) (by have := hA hp g off e; omega)) hne W1
   (hU.kept (Fr.below hb1 (S := fun _ => False) (fun i hi => .inr hi)).kept (fun h => h) (fun h => h) (fun _ _ _ _ h => h)) ⟨hI _ _ _ h0 (Fr.below hb1 (fun i hi => .inr hi)), hL1, hK1, by omega⟩).mono ?_
  ·rintro pre W W' ⟨hi, hl, hk, hz⟩ hkp
   exact ⟨hI _ _ _ hi (kep hkp (fun k hk => .inl hk)), blk_kept hl hkp.kept (fun e => ne2 e.symm), blk_kept hk hkp.kept (fun e => ne1 e.symm), by have := hkp.size; omega⟩
  ·rintro pre x W ⟨hi, hl, hk, hz⟩ hx0 hx1 hpl
   have hy := run_yield (P := Tryz.prog) (args := #[.int .i64 x]) hl (by rw [hrec]; rfl)
   rw [hrec] at hy
   refine ⟨fn, a.tmps.setIfInBounds p (.int .i64 x), assign, body, by simpa using hy, roundIn_of_wpIn trivial ?_⟩
   refine hassign _ x W _ ?_
   refine ⟨_, run_beginRound hl (by rw [hrec]), ?_⟩
   obtain ⟨W2, hW2⟩ : ∃ W2, W.putObj (N + 1) (.loop { rec .ready none with state := .busy }) = W2 := ⟨_, rfl⟩
   have hl2 : W2.heap[N + 1]? = some (.loop { rec .ready none with state := .busy }) := by rw [← hW2]; exact World.putObj_heap_same (by omega)
   have hkk : Fr (fun k => k = N + 1) W W2 := by rw [← hW2]; exact fr_put _ _ _
   have hk2 := blk_kept hk hkk.kept (by omega)
   rw [hW2]
   refine wpIn_mono (hbody _ pre x W2 hx0 hx1 hpl (hI _ _ _ hi (kep hkk (fun k e => .inr (.inr e)))) (by have := hkk.size; omega)) ?_
   have fin : ∀ (jump : Option Code) (W3 : World), Fr (fun k => T k ∨ w.heap.size + 2 ≤ k) W2 W3 →
     (Instr.endRound (N + 1) jump).run Tryz.prog W3 = .ok (.bool jump.isNone) (W3.putObj (N + 1) (.loop (rec (if jump.isNone then .ready else .done) jump))) ∧
     (W3.putObj (N + 1) (.loop (rec (if jump.isNone then .ready else .done) jump))).heap[N + 1]? = some (.loop (rec (if jump.isNone then .ready else .done) jump)) ∧
     (W3.putObj (N + 1) (.loop (rec (if jump.isNone then .ready else .done) jump))).heap[N]? = some (.deferred (some [])) ∧ N + 2 ≤ (W3.putObj (N + 1) (.loop (rec (if jump.isNone then .ready else .done) jump))).heap.size ∧
     Fr (fun k => T k ∨ N ≤ k) W (W3.putObj (N + 1) (.loop (rec (if jump.isNone then .ready else .done) jump))) := fun jump W3 hk3 => by
    have hl3 := blk_kept hl2 hk3.kept (fun h => h.elim (fun h => by have := hT _ h; omega) (by omega))
    have hd3 := blk_kept hk2 hk3.kept (fun h => h.elim (fun h => by have := hT _ h; omega) (by omega))
    have hr := run_endRound (P := Tryz.prog) jump hl3
    have hkp := fr_put W3 (N + 1) (.loop (rec (if jump.isNone then .ready else .done) jump))
    have hz2 := hkk.size
    have hz3 := hk3.size
    rw [hrec] at hr
    refine ⟨by rw [hrec]; exact hr, World.putObj_heap_same (by omega), blk_kept hd3 hkp.kept (by omega), by have := hkp.size; omega, ?_⟩
    exact ((hkk.mono (fun k e => .inr (by omega))).trans hk3 (fun k h => h.elim (fun h => .inl (.inl h)) (fun h => .inl (.inr (by omega))))).trans hkp (fun k e => .inl (.inr (by omega)))
   rintro e a3 W3 hp
   cases e with
   | normal =>
    obtain ⟨hk3, hi3⟩ := hp
    obtain ⟨hr, hl4, hk4, hz4, hkq⟩ := fin none W3 hk3
    exact ⟨_, _, hr, .inl ⟨rfl, ⟨hI _ _ _ hi3 (kep (fr_put _ _ _) (fun k e => .inr (.inr e))), hl4, hk4, hz4⟩, hkq⟩⟩
   | ret =>
    obtain ⟨hk3, hi3⟩ := hp
    obtain ⟨hr, hl4, hk4, hz4, hkq⟩ := fin (some .ret) W3 hk3
    exact ⟨_, _, hr, .inr ⟨rfl, hIx _ _ _ hi3 (kep (fr_put _ _ _) (fun k e => .inr (.inr e))), hl4, hk4, hz4⟩⟩
   | exit id => exact hp.elim
   | goto t => exact hp.elim
   | panic ch => exact hp.elim
   | outgrown => exact hp.elim
  ·rintro e W2 ⟨⟨v, rfl⟩, (⟨hi, hl, hk, hz⟩ | ⟨pre, hpre, hi, hl, hk, hz⟩)⟩
   ·refine ⟨none, _, (by have := run_endLoop (P := Tryz.prog) hl (by rw [hrec]; simp); rw [hrec] at this; exact this), hdone N _ hN ?_ (hI _ _ _ hi (kep (fr_put _ _ _) (fun k e => .inr (.inr e)))) (blk_kept hk (fr_put _ _ _).kept (by omega))⟩
    rw [← hN]
    exact Nat.le_trans hz (fr_put _ _ _).size
   ·refine ⟨some .ret, _, (by have := run_endLoop (P := Tryz.prog) hl (by rw [hrec]; simp); rw [hrec] at this; exact this), hstop N pre _ hN ?_ hpre (hIx _ _ _ hi (kep (fr_put _ _ _) (fun k e => .inr (.inr e)))) (blk_kept hk (fr_put _ _ _).kept (by omega))⟩
    rw [← hN]
    exact Nat.le_trans hz (fr_put _ _ _).size
end Go.Proofs.YtemcmcnhpdkdfaaGreat.P
namespace Go.Proofs.YtemcmcnhpdkdfaaGreat.P
open Go.RowKit Go.Shelf Go.Proofs.YtemcmcnhpdkdfaaGreatW.PrintWords Go.Proofs.YtemcmcnhpdkdfaaGreatW.PrintLast Go.Proofs.YtemcmcnhpdkdfaaGreatW.PrintMore
attribute [local go_sem] Oper.semAt_some
def dom_rises.f (l0 : List Int) (a1 : Int) : Option Bool := if l0.length ≤ 1000000 then some (decide ((0 : Int) ∈ upL l0 l0.length l0.length a1)) else none
set_option maxHeartbeats 1000000 in
theorem up_in (F : Fence) (n : Nat) (h5 : F.fn 81) (hro : F.round = none) (A : Option Addr) (len cap : Nat) (b : Int) (w : World) :
  CallsIn F n Tryz.prog 81 #[.slice A len cap, .int .i64 b] w fun e w' => e = .returned (.func (.func 93) #[] #[.pointer (some ⟨w.heap.size, 0, none⟩), .pointer (some ⟨w.heap.size + 1, 0, none⟩)]) ∧ w' = (w.alloc (.cells #[.slice A len cap] 23)).alloc (.cells #[.int .i64 b] 3) := by
 refine callsIn_of_wp Tryz.func81 rfl h5 ?_ hro
 simp only [Tryz.ntmps81, List.size_toArray, List.length_cons, List.length_nil, Nat.reduceAdd, Nat.reduceSub, Array.replicate_succ, Array.replicate_zero, List.push_toArray, List.append_toArray, List.nil_append, List.cons_append]
 gi_wp2
 go_ret
 exact ⟨rfl, rfl⟩
theorem UpI_made {w W : World} {A : Option Addr} {len cap : Nat} {ds : List Int} {b : Int} (hC : dI.C w A len ds) (hb : Below w.heap.size w W) (o1 o2 : Obj) (h1 : o1 = .cells #[.slice A len cap] 23) (h2 : o2 = .cells #[.int .i64 b] 3) :
  UpI W.heap.size (W.heap.size + 1) A len cap ds b ((W.alloc o1).alloc o2) := by
 subst h1 h2
 refine ⟨(Below.heap_alloc _ _ _ (by rw [size_alloc1]; omega)).trans (World.alloc_heap_new W _), ?_, fun hp => ?_⟩
 ·rw [← size_alloc1 W (.cells #[.slice A len cap] 23)]
  exact World.alloc_heap_new _ _
 ·obtain ⟨g, off, e, hl, hc⟩ := C_ints hC hp
  refine ⟨g, off, e, ?_, fun j hj => ?_⟩
  ·have hlt : g < w.heap.size := World.block_lt_of_cell? w ⟨g, off + 0, none⟩ (hc 0 (by omega))
   have := hb.size
   omega
  ·have hcj := hc j (by omega)
   have hlt : g < w.heap.size := World.block_lt_of_cell? w ⟨g, off + j, none⟩ hcj
   have hW := (hb.cell (p := ⟨g, off + j, none⟩) hlt).trans hcj
   have hlt2 := World.block_lt_of_cell? W ⟨g, off + j, none⟩ hW
   rw [World.cell?_alloc_lt _ _ _ (by rw [size_alloc1]; exact Nat.lt_succ_of_lt hlt2), World.cell?_alloc_lt _ _ _ hlt2]
   exact hW
theorem C_addr {w : World} {A : Option Addr} {len : Nat} {ds : List Int} (hC : dI.C w A len ds) (hp : 0 < len) : ∀ g off, A = some ⟨g, off, none⟩ → g < w.heap.size := by
 intro g off e
 obtain ⟨g', off', e', hl, hc⟩ := C_ints hC hp
 rw [e] at e'
 injection e' with e'
 injection e' with e1 e2
 subst e1
 exact World.block_lt_of_cell? w ⟨g, off' + 0, none⟩ (hc 0 (by omega))
set_option maxRecDepth 100000 in
set_option maxHeartbeats 4000000 in
theorem rises_in (A : Option Addr) (len cap : Nat) (ds : List Int) (b : Int) (w : World) (hC : dI.C w A len ds) (hlen : len ≤ 1000000) :
  CallsIn Fence.wide 6 Tryz.prog 91 #[.slice A len cap, .int .i64 b] w fun e w' => e = .returned (.bool (decide ((0 : Int) ∈ upL ds len len b))) ∧ Below w.heap.size w w' := by
 have HA := Aside0.mk (fun hp => C_addr hC hp)
 have HC := Aside0.mk hC
 clear hC
 refine callsIn_of_wp_marks Tryz.func91 rfl trivial ?_ rfl
 simp only [Tryz.ntmps91, List.size_toArray, List.length_cons, List.length_nil, Nat.reduceAdd, Nat.reduceSub, Array.replicate_succ, Array.replicate_zero, List.push_toArray, List.append_toArray, List.nil_append, List.cons_append]
 gi_wp2_with (refine ⟨trivial, ?_⟩; gi_at_call 81; refine (up_in Fence.wide _ trivial rfl _ _ _ _ _).mono ?_; rintro e w' ⟨rfl, rfl⟩)
 obtain ⟨W0, hW0⟩ : ∃ W0, W0 = w.alloc (.cells #[.bool false] 4) := ⟨_, rfl⟩
 have hz0 : W0.heap.size = w.heap.size + 1 := by rw [hW0, size_alloc1]
 have hb0 : Below w.heap.size w W0 := by rw [hW0]; exact below_alloc (Below.refl _ _) _
 have hr0 : W0.heap[w.heap.size]? = some (.cells #[.bool false] 4 (0, 0)) := by rw [hW0]; exact World.alloc_heap_new w _
 have hU := UpI_made (cap := cap) (b := b) HC.out hb0 _ _ rfl rfl
 rw [← hW0, ← hz0]
 clear hW0
 obtain ⟨W1, hW1⟩ : ∃ W1, W1 = (W0.alloc (.cells #[.slice A len cap] 23)).alloc (.cells #[.int .i64 b] 3) := ⟨_, rfl⟩
 have hz1 : W1.heap.size = w.heap.size + 3 := by rw [hW1, size_alloc1, size_alloc1]; omega
 have hb1 : Below w.heap.size w W1 := by rw [hW1]; exact hb0.trans ((below_alloc (below_alloc (Below.refl _ _) _) _).mono hb0.size)
 have hr1 : W1.heap[w.heap.size]? = some (.cells #[.bool false] 4 (0, 0)) := by rw [hW1]; exact (Below.heap_alloc _ _ _ (by rw [size_alloc1]; omega)).trans ((Below.heap_alloc _ _ _ (by omega)).trans hr0)
 rw [← hW1] at hU ⊢
 have hne : ∀ k, (k = W0.heap.size + 1 ∨ k = W1.heap.size ∨ k = W1.heap.size + 1) → ¬ k = w.heap.size := by omega
 have hbB : ∀ {X Y : World}, Below w.heap.size w X → Fr (fun k => k = W0.heap.size + 1 ∨ k = W1.heap.size ∨ k = W1.heap.size + 1) X Y → Below w.heap.size w Y := fun h k => below_fr h k (fun k hk => by omega) h.size
 have hza : W0.heap.size ≤ w.heap.size + 1 := by omega
 have hzb : w.heap.size + 1 ≤ W0.heap.size := by omega
 have hzc : W1.heap.size ≤ w.heap.size + 3 := by omega
 have hzd : w.heap.size + 3 ≤ W1.heap.size := by omega
 clear hW1 hz0 hz1
 refine range_up (n := 6) (by omega) hlen rfl hU (by omega) (fun hp g off e => by have := HA.out hp g off e; omega) (fun k => k = w.heap.size) (by omega) (by omega) (fun hp g off e h => by have := HA.out hp g off e; omega) (fun k h => by omega)
  (fun pre W => (¬ (0 : Int) ∈ pre) ∧ W.heap[w.heap.size]? = some (.cells #[.bool false] 4 (0, 0)) ∧ Below w.heap.size w W)
  (fun pre W => (0 : Int) ∈ pre ∧ W.heap[w.heap.size]? = some (.cells #[.bool true] 4 (0, 0)) ∧ Below w.heap.size w W)
  (fun pre W W' h k => ⟨h.1, blk_kept h.2.1 k.kept (fun h => hne _ h rfl), hbB h.2.2 k⟩)
  (fun pre W W' h k => ⟨h.1, blk_kept h.2.1 k.kept (fun h => hne _ h rfl), hbB h.2.2 k⟩)
  ⟨by simp, hr1, hb1⟩
  (fun x => { tmps := #[.slice A len cap, .int .i64 b, undef, undef, .pointer (some ⟨w.heap.size, 0, none⟩), .int .i64 x, .slice A len cap, .int .i64 b, .func (.func 93) #[] #[.pointer (some ⟨W0.heap.size, 0, none⟩), .pointer (some ⟨W0.heap.size + 1, 0, none⟩)], .int .i64 x, undef, undef], defers := [] }) ?assign ?body ?done ?stop
 case assign =>
  intro l x W K hK
  gi_wp2
  exact hK
 case body =>
  rintro l pre x W hx0 hx1 hpl ⟨hn0, hr, hB⟩ hz
  have hc := cell_of_one hr
  have hf := free_of_one hr
  have HR := Aside0.mk hr
  have HB := Aside0.mk hB
  by_cases h0 : x = 0
  ·subst h0
   clear hr hB hx0 hx1
   gi_wp2
   exact ⟨(Fr.refl _ W).setCell (p := ⟨w.heap.size, 0, none⟩) (.inl (.inl rfl)) _, by simp, one_setCell HR.out, HB.out.setCell (p := ⟨w.heap.size, 0, none⟩) (Nat.le_refl _) _⟩
  ·have hx : (x == 0) = false := by simpa using h0
   clear hr hB
   gi_wp2
   exact ⟨Fr.refl _ _, fun h => (List.mem_append.1 h).elim hn0 (fun e => h0 (List.mem_singleton.1 e).symm), HR.out, HB.out⟩
 case done =>
  rintro D W hD hz ⟨hn0, hr, hB⟩ hK
  have hc := cell_of_one hr
  have hf := free_of_one hr
  have HR := Aside0.mk hr
  have HB := Aside0.mk hB
  have HD := Aside0.mk hD
  clear hr hB hD
  gi_wp2
  have hk1 : (W.setCell ⟨w.heap.size, 0, none⟩ (.bool false)).heap[D]? = some (.deferred (some [])) := (Below.heap_setCell _ _ _ _ (by have := HD.out; show D ≠ w.heap.size; omega)).trans hK
  refine ⟨by simp, .inl ⟨_, _, rfl, run_takeDeferred hk1, ?_⟩⟩
  have hc5 := cell_of_one (blk_kept (one_setCell (v := .bool false) HR.out) (fr_put (W.setCell ⟨w.heap.size, 0, none⟩ (.bool false)) D (.deferred none)).kept (by have := HD.out; omega))
  refine ⟨.bool false, ?_, by rw [decide_eq_false hn0], below_fr (HB.out.setCell (p := ⟨w.heap.size, 0, none⟩) (Nat.le_refl _) _) (fr_put _ _ _) (fun k hk => by have := HD.out; omega) (by have := HB.out.size; simp [World.setCell]; omega)⟩
  simp [results, Tryz.f91, go_sem, hc5]
 case stop =>
  rintro D pre W hD hz hpre ⟨hin, hr, hB⟩ hK
  have HR := Aside0.mk hr
  have HB := Aside0.mk hB
  have HD := Aside0.mk hD
  have HI := Aside0.mk (hpre.subset hin)
  clear hr hB hD hin
  gi_wp2
  refine ⟨by simp, .inl ⟨_, _, rfl, run_takeDeferred hK, ?_⟩⟩
  have hc5 := cell_of_one (blk_kept HR.out (fr_put W D (.deferred none)).kept (by have := HD.out; omega))
  refine ⟨.bool true, ?_, by rw [decide_eq_true HI.out], below_fr HB.out (fr_put _ _ _) (fun k hk => by have := HD.out; omega) HB.out.size⟩
  simp [results, Tryz.f91, go_sem, hc5]
theorem dom_rises.calls (A0 : Option Addr) (c0 : Nat) (l0 : List Int) (a1 : Int) (r : Bool) (w : World) (hr0 : Kd.C (Kd.int .i64) w A0 l0.length l0) (_hc0 : l0.length ≤ c0) (h : dom_rises.f l0 a1 = some r) :
  Calls Tryz.prog 91 #[.slice A0 l0.length c0, .int .i64 a1] w fun e w' => e = .returned (.bool r) ∧ Below w.heap.size w w' := by
 unfold dom_rises.f at h
 split at h
 ·rename_i hl
  obtain rfl := Option.some.inj h
  exact callsIn_wide.1 (rises_in A0 l0.length c0 l0 a1 w hr0 hl)
 ·cases h
end Go.Proofs.YtemcmcnhpdkdfaaGreat.P
namespace Go.Proofs.YtemcmcnhpdkdfaaGreat.P
open Go.RowKit Go.Shelf Go.Lib Go.Sort Go.Proofs.YtemcmcnhpdkdfaaGreatW.PrintWords Go.Proofs.YtemcmcnhpdkdfaaGreatW.PrintLast Go.Proofs.YtemcmcnhpdkdfaaGreatW.PrintMore
attribute [local go_sem] Oper.semAt_some
def ApI (w : World) (N Bs Bb : Nat) (pre : List Int) (W : World) : Prop :=
 ∃ v, W.heap[Bs]? = some (.cells #[v] 23 (0, 0)) ∧ W.ownsRow N 3 1 v pre.length (pre.map (Value.int .i64)) ∧ Fr (fun k => k = Bb) w W
theorem ApI.fr {w : World} {N Bs Bb : Nat} {pre : List Int} {W W' : World} {S : Nat → Prop} (h : ApI w N Bs Bb pre W) (k : Fr S W W') (h1 : ¬ S Bs) (h2 : ∀ i, S i → i < N) (h3 : ∀ i, S i → i = Bb ∨ w.heap.size ≤ i) : ApI w N Bs Bb pre W' := by
 obtain ⟨v, hv, hr, hf⟩ := h
 exact ⟨v, blk_kept hv k.kept h1, own_move hr (fun i hi => k.block i (own_lt hr i hi) (fun hS => by have := h2 i hS; have := own_base hr i hi; omega)), hf.trans k h3⟩
theorem ApI_app {W w1 : World} {N Bs : Nat} {v : Value} {pre : List Int} {o : Obj} {row : Option Nat} (hv : W.heap[Bs]? = some (.cells #[v] 23 (0, 0))) (hr : W.ownsRow N 3 1 v pre.length (pre.map (Value.int .i64))) (hg : (W.alloc o).grownBy w1 row) (e : row = v.ownBlock := by rfl) :
  w1.heap[Bs]? = some (.cells #[v] 23 (0, 0)) := by
 have hlt := lt_of_block hv
 rw [hg.block Bs (by rw [size_alloc1]; omega) (fun e2 => by
  obtain ⟨cells, hc⟩ := own_typed hr Bs (by rw [← e]; exact e2.symm)
  rw [hv] at hc
  injection hc with hc
  injection hc with _ hc
  exact absurd hc (by decide)), Below.heap_alloc _ _ _ hlt]
 exact hv
set_option maxRecDepth 100000 in
set_option maxHeartbeats 4000000 in
theorem appendSeq_in (A : Option Addr) (len cap : Nat) (ds : List Int) (b : Int) (Bi Bb : Nat) (w : World) (hU : UpI Bi Bb A len cap ds b w) (hne : Bi ≠ Bb) (hA : 0 < len → ∀ g off, A = some ⟨g, off, none⟩ → g < w.heap.size) (hlen : len ≤ 1000000) :
  CallsIn Fence.wide 6 Tryz.prog 92 #[.slice none 0 0, .func (.func 93) #[] #[.pointer (some ⟨Bi, 0, none⟩), .pointer (some ⟨Bb, 0, none⟩)]] w fun e w' => ∃ v, e = .returned v ∧ dI.R 3 w' w.heap.size (fun _ => True) v (upL ds len len b) ∧ Fr (fun k => k = Bb) w w' := by
 have hlb := lt_of_block hU.hb
 have hli := lt_of_block hU.hi
 have HU := Aside0.mk hU
 clear hU
 refine callsIn_of_wp_marks Tryz.func92 rfl trivial ?_ rfl
 simp only [Tryz.ntmps92, List.size_toArray, List.length_cons, List.length_nil, Nat.reduceAdd, Nat.reduceSub, Array.replicate_succ, Array.replicate_zero, List.push_toArray, List.append_toArray, List.nil_append, List.cons_append]
 gi_wp2
 obtain ⟨W0, hW0⟩ : ∃ W0, W0 = w.alloc (.cells #[.slice none 0 0] 23) := ⟨_, rfl⟩
 have hz0 : W0.heap.size = w.heap.size + 1 := by rw [hW0, size_alloc1]
 have hb0 : Below w.heap.size w W0 := by rw [hW0]; exact below_alloc (Below.refl _ _) _
 have hr0 : W0.heap[w.heap.size]? = some (.cells #[.slice none 0 0] 23 (0, 0)) := by rw [hW0]; exact World.alloc_heap_new w _
 rw [← hW0]
 clear hW0
 have hza : W0.heap.size ≤ w.heap.size + 1 := by omega
 have hzb : w.heap.size + 1 ≤ W0.heap.size := by omega
 clear hz0
 have hU0 := HU.out.kept (Fr.below hb0 (S := fun _ => False) (fun i hi => .inr hi)).kept (fun h => h) (fun h => h) (fun _ _ _ _ h => h)
 obtain ⟨ti, hti, hq0, hq1, hq2⟩ := info_parts info3
 have HTI := Aside0.mk (And.intro hti (And.intro hq0 (And.intro hq1 hq2)))
 clear hti hq0 hq1 hq2
 refine range_up (n := 6) (by omega) hlen rfl hU0 hne (fun hp g off e => by have := hA hp g off e; omega) (fun k => k = w.heap.size) (by omega) (by omega) (fun hp g off e h => by have := hA hp g off e; omega) (fun k h => by omega)
  (ApI w (W0.heap.size + 2) w.heap.size Bb) (fun _ _ => False)
  (fun pre W W' h k => h.fr k (by omega) (fun i hi => by omega) (fun i hi => by omega))
  (fun pre W W' h k => h)
  ⟨_, hr0, ⟨rfl, .inl ⟨rfl, rfl⟩⟩, Fr.below hb0 (fun i hi => .inr hi)⟩
  (fun x => { tmps := #[.slice none 0 0, .func (.func 93) #[] #[.pointer (some ⟨Bi, 0, none⟩), .pointer (some ⟨Bb, 0, none⟩)], .pointer (some ⟨w.heap.size, 0, none⟩), undef, .slice none 0 0, .int .i64 x, .func (.func 93) #[] #[.pointer (some ⟨Bi, 0, none⟩), .pointer (some ⟨Bb, 0, none⟩)], .int .i64 x, undef, undef, undef, undef, undef], defers := [] }) ?assign ?body ?done ?stop
 case assign =>
  intro l x W K hK
  gi_wp2
  exact hK
 case body =>
  rintro l pre x W hx0 hx1 hpl ⟨v, hv, hr, hf⟩ hz
  have hc := cell_of_one hv
  have HV := Aside0.mk hv
  have HR := Aside0.mk hr
  have HF := Aside0.mk hf
  clear hv hr hf hx0 hx1
  have hlt := lt_of_block HV.out
  gi_wp2_with (gi_at_builtin; refine wpListIn_append_own _ rfl _ _ 23 rfl (W0.heap.size + 2) 3 ti (.int .i64 0) 1 8 Tryz.underlying23 HTI.out.1 HTI.out.2.1 HTI.out.2.2.1 HTI.out.2.2.2 rfl (by decide) _ _ _ rfl (HR.out.alloc _) ⟨W.heap.size, 0, none⟩ 1 1 [.int .i64 x] rfl rfl (one_cells rfl _ _) (fun u hu => by simp at hu; subst hu; rfl) (by unfold maxLen; omega) (by omega) (by rw [size_alloc1]; omega) ?_; intro v' w1 hown' hgrow _; obtain ⟨g', cap', rfl⟩ := ownsRow_succ hown'; (have hg1 := ApI_app HV.out HR.out hgrow); have hc1 := cell_of_one hg1; have hf1 := free_of_one hg1)
  have hne2 : g' ≠ w.heap.size := fun e => by have := own_base hown' g' rfl; omega
  refine ⟨?_, _, one_setCell hg1, ?_, ?_⟩
  ·exact ((Fr.refl _ W).alloc _ |>.grown hgrow (fun k e => .inl (.inr (own_base HR.out k e)))).setCell (p := ⟨w.heap.size, 0, none⟩) (.inl (.inl rfl)) _
  ·rw [List.length_append, List.length_singleton, List.map_append]
   exact ownsRow_setCell_other hown' (by show some g' ≠ _; intro e; injection e with e; exact hne2 e) _
  ·exact ((HF.out.alloc _).grown hgrow (fun k e => .inr (by have := own_base HR.out k e; omega))).setCell (p := ⟨w.heap.size, 0, none⟩) (.inr (Nat.le_refl _)) _
 case done =>
  rintro D W hD hz ⟨v, hv, hr, hf⟩ hK
  have hc := cell_of_one hv
  have HV := Aside0.mk hv
  have HR := Aside0.mk hr
  have HF := Aside0.mk hf
  have HD := Aside0.mk hD
  clear hv hr hf hD
  gi_wp2
  refine ⟨by simp, .inl ⟨_, _, rfl, run_takeDeferred hK, ?_⟩⟩
  refine ⟨_, results_tmp rfl _ _ _, v, rfl, ?_, HF.out.trans (fr_put W D _) (fun k hk => .inr (by have := HD.out; omega))⟩
  refine ints_R (own_weaken (own_move HR.out (fun k hk => (fr_put W D _).block k (own_lt HR.out k hk) (by have := own_base HR.out k hk; have := HD.out; omega))) (by omega)) (fun _ _ => trivial)
 case stop =>
  rintro D pre W _ _ _ h _
  exact h.elim
set_option maxHeartbeats 1000000 in
theorem collect_in (A : Option Addr) (len cap : Nat) (ds : List Int) (b : Int) (Bi Bb : Nat) (w : World) (hU : UpI Bi Bb A len cap ds b w) (hne : Bi ≠ Bb) (hA : 0 < len → ∀ g off, A = some ⟨g, off, none⟩ → g < w.heap.size) (hlen : len ≤ 1000000) :
  CallsIn Fence.wide 7 Tryz.prog 80 #[.func (.func 93) #[] #[.pointer (some ⟨Bi, 0, none⟩), .pointer (some ⟨Bb, 0, none⟩)]] w fun e w' => ∃ v, e = .returned v ∧ dI.R 3 w' w.heap.size (fun _ => True) v (upL ds len len b) ∧ Fr (fun k => k = Bb) w w' := by
 have HS := Aside0.mk (appendSeq_in A len cap ds b Bi Bb w hU hne hA hlen)
 clear hU hA
 refine callsIn_of_wp Tryz.func80 rfl trivial ?_ rfl
 simp only [Tryz.ntmps80, List.size_toArray, List.length_cons, List.length_nil, Nat.reduceAdd, Nat.reduceSub, Array.replicate_succ, Array.replicate_zero, List.push_toArray, List.append_toArray, List.nil_append, List.cons_append]
 gi_wp2_with (refine ⟨trivial, ?_⟩; gi_at_call 92; refine HS.out.mono ?_; rintro e w' ⟨v, rfl, hr, hf⟩)
 go_ret
 exact ⟨v, rfl, hr, hf⟩
end Go.Proofs.YtemcmcnhpdkdfaaGreat.P
namespace Go.Proofs.YtemcmcnhpdkdfaaGreat.P
open Go.RowKit Go.Proofs.YtemcmcnhpdkdfaaGreatW.PrintWords Go.Proofs.YtemcmcnhpdkdfaaGreatW.PrintLast Go.Proofs.YtemcmcnhpdkdfaaGreatW.PrintMore
attribute [local go_sem] max2_int min2_int max_two min_two max_three min_three max_four min_four
set_option linter.unusedVariables false
set_option linter.unusedSimpArgs false
mutual
def dom_Sane.l0 : Nat → List Int → List Int → Int → Int → Option (Bool)
 | 0, _, _, _, _ => none
 | k + 1, x0, x5, x6, x7 => if x7 < x6 then (if 0 ≤ x7 then (if x7 < (x5.length : Int) then (if ((x7 == 0) != ((rd x5 x7) == (-1))) = true then (dom_Sane.j1 k x0 x7 (rd x5 x7) x5 x6 x7 true) else (if (rd x5 x7) < (-2) then (dom_Sane.j1 k x0 x7 (rd x5 x7) x5 x6 x7 true) else (dom_Sane.j1 k x0 x7 (rd x5 x7) x5 x6 x7 (decide ((rd x5 x7) ≥ (x0.length : Int)))))) else (none)) else (none)) else (some true)
def dom_Sane.j1 : Nat → List Int → Int → Int → List Int → Int → Int → Bool → Option (Bool)
 | 0, _, _, _, _, _, _, _ => none
 | k + 1, x0, x3, x4, x5, x6, x7, x12 => if x12 = true then (some false) else (if x4 ≥ 0 then (if 0 ≤ x4 then (if x4 < (x0.length : Int) then (if (rd x0 x4) = (-2) then (some false) else (if x4 = (-2) then (dom_Sane.l0 k x0 x5 x6 (wrap64 (x7 + 1))) else ((dom_rises.f x0 x3).bind fun t472 => (if t472 = true then (dom_Sane.l0 k x0 x5 x6 (wrap64 (x7 + 1))) else (some false))))) else (none)) else (none)) else (if x4 = (-2) then (dom_Sane.l0 k x0 x5 x6 (wrap64 (x7 + 1))) else ((dom_rises.f x0 x3).bind fun t473 => (if t473 = true then (dom_Sane.l0 k x0 x5 x6 (wrap64 (x7 + 1))) else (some false)))))
end
def dom_Sane.f (k : Nat) (l0 : List Int) : Option (Bool) := dom_Sane.l0 k l0 l0 (l0.length : Int) 0
set_option maxHeartbeats 8000000 in
set_option maxRecDepth 100000 in
theorem dom_Sane.calls (k : Nat) (A0 : Option Addr) (c0 : Nat) (l0 : List Int) (r : Bool) (w : World) (hr0 : Kd.C (Kd.int .i64) w A0 l0.length l0) (hc0 : l0.length ≤ c0) (h : dom_Sane.f k l0 = some r) :
  Calls Tryz.prog 79 #[.slice A0 l0.length c0] w fun e w' => e = .returned (.bool r) ∧ Below w.heap.size w w' := by
 have HR0 := Aside0.mk hr0
 have HC0 := Aside0.mk hc0
 clear hr0 hc0
 have HB := Aside0.mk (Below.refl w.heap.size w)
 have H : (dom_Sane.l0 k l0 l0 (l0.length : Int) 0) = some r := h
 clear h
 have H' := Aside0.mk H
 clear H
 go_enter Tryz.func79, Tryz.ntmps79
 go_wp2
 go_loopg [7] k (fun kq v7 w' => ∃ (x7_1 : Int), v7 = .int .i64 x7_1 ∧ Aside0 (dom_Sane.l0 kq l0 l0 (l0.length : Int) x7_1 = some r) ∧ Aside0 (kq ≤ k) ∧ Aside0 (Below w.heap.size w w'))
 case atStart => exact ⟨(0), (by first | rfl | (simp; done) | (simp [*]; done)), H', ⟨Nat.le_refl _⟩, ⟨by repeat (first | (with_reducible first | exact HB.out | apply below_alloc | apply pw_below_drewN | apply below_drew1) | exact HB.out)⟩⟩
 case round =>
  clear H'
  obtain ⟨x7_1, rfl, HA, HK1, HB⟩ := hrel
  cases gk with
  | zero => exact absurd HA.out (by simp [dom_Sane.l0])
  | succ k1 =>
   have H := HA.out
   clear HA
   simp only [dom_Sane.l0] at H
   by_cases c2 : x7_1 < (l0.length : Int)
   ·rw [if_pos c2] at H
    have c2b0 : decide (x7_1 < (l0.length : Int)) = true := decide_eq_true c2
    clear c2
    by_cases c3 : 0 ≤ x7_1
    ·rw [if_pos c3] at H
     have c3b0 : decide (0 ≤ x7_1) = true := decide_eq_true c3
     clear c3
     by_cases c4 : x7_1 < (l0.length : Int)
     ·rw [if_pos c4] at H
      have c4b0 : decide (x7_1 < (l0.length : Int)) = true := decide_eq_true c4
      clear c4
      have HC5 := Aside0.mk H
      clear H
      have p470 : 0 ≤ (x7_1 : Int) := of_decide_eq_true (by first | (with_reducible assumption) | assumption)
      have q470 : x7_1 < (l0.length : Int) := of_decide_eq_true (by first | (with_reducible assumption) | assumption)
      obtain ⟨ad470, e470, hx470_0⟩ := Kd.at_int HR0.out x7_1 p470 q470
      cases e470
      replace hx470_0 := (HB.out.cell (World.block_lt_of_cell? w _ hx470_0)).trans hx470_0
      replace p470 := eq_true p470
      replace q470 := eq_true q470
      go_upto_region 4 with (fail)
      go_cut [12] (fun v12 wc => ∃ (kq : Nat) (x12_4 : Bool), v12 = .bool x12_4 ∧ Aside0 (dom_Sane.j1 kq l0 x7_1 (rd l0 x7_1) l0 (l0.length : Int) x7_1 x12_4 = some r) ∧ Aside0 (kq ≤ k1) ∧ Aside0 (Below w.heap.size w wc))
      case first =>
       have H := HC5.out
       clear HC5
       by_cases c6 : ((x7_1 == 0) != ((rd l0 x7_1) == (-1))) = true
       ·rw [if_pos c6] at H
        have c6b0 : ((x7_1 == 0) != ((rd l0 x7_1) == (-1))) = true := c6
        (try (have c6b1 : decide ((x7_1 == 0) = ((rd l0 x7_1) == (-1))) = false := by simpa using c6))
        (try (have c6b2 : ((x7_1 == 0) == ((rd l0 x7_1) == (-1))) = false := by simpa using c6))
        (try (have c6b3 : ¬ ((x7_1 == 0) = ((rd l0 x7_1) == (-1))) := by simpa using c6))
        clear c6
        (first | rw [c6b0] | (simp only [i64_w, i32_w]; rw [c6b0]) | skip)
        have H' := Aside0.mk H
        clear H
        go_wp2
        go_meet
        case rel => exact ⟨_, (true), (by first | rfl | (simp; done) | (simp [*]; done)), H', ⟨by have := HK1.out; first | omega | exact Nat.le_refl _⟩, ⟨by repeat (first | (with_reducible first | exact HB.out | apply below_alloc | apply pw_below_drewN | apply below_drew1) | exact HB.out)⟩⟩
       ·rw [if_neg c6] at H
        have c6b0 : ((x7_1 == 0) != ((rd l0 x7_1) == (-1))) = false := by simpa using c6
        (try (have c6b1 : decide ((x7_1 == 0) = ((rd l0 x7_1) == (-1))) = true := by simpa using c6))
        (try (have c6b2 : ((x7_1 == 0) == ((rd l0 x7_1) == (-1))) = true := by simpa using c6))
        clear c6
        (first | rw [c6b0] | (simp only [i64_w, i32_w]; rw [c6b0]) | skip)
        by_cases c7 : (rd l0 x7_1) < (-2)
        ·rw [if_pos c7] at H
         have c7b0 : decide ((rd l0 x7_1) < (-2)) = true := decide_eq_true c7
         clear c7
         have H' := Aside0.mk H
         clear H
         go_wp2
         go_meet
         case rel => exact ⟨_, (true), (by first | rfl | (simp; done) | (simp [*]; done)), H', ⟨by have := HK1.out; first | omega | exact Nat.le_refl _⟩, ⟨by repeat (first | (with_reducible first | exact HB.out | apply below_alloc | apply pw_below_drewN | apply below_drew1) | exact HB.out)⟩⟩
        ·rw [if_neg c7] at H
         have c7b0 : decide ((rd l0 x7_1) < (-2)) = false := decide_eq_false c7
         clear c7
         have H' := Aside0.mk H
         clear H
         go_wp2
         go_meet
         case rel => exact ⟨_, (decide ((rd l0 x7_1) ≥ (l0.length : Int))), (by first | rfl | (simp; done) | (simp [*]; done)), H', ⟨by have := HK1.out; first | omega | exact Nat.le_refl _⟩, ⟨by repeat (first | (with_reducible first | exact HB.out | apply below_alloc | apply pw_below_drewN | apply below_drew1) | exact HB.out)⟩⟩
      case rest =>
       clear HC5
       try clear c2
       try clear c2b0
       try clear p2
       try clear c3
       try clear c3b0
       try clear c4
       try clear c4b0
       try clear p4
       try clear q4
       try clear hx4
       try clear c6
       try clear c6b0
       try clear c6b1
       try clear c6b2
       try clear c7
       try clear c7b0
       try clear hx470_0
       try clear p470
       try clear q470
       obtain ⟨kq, x12_4, rfl, HA, HJ4, HB⟩ := hcut
       cases kq with
       | zero => exact absurd HA.out (by simp [dom_Sane.j1])
       | succ kj4 =>
        have H := HA.out
        clear HA
        simp only [dom_Sane.j1] at H
        by_cases c8 : x12_4 = true
        ·subst c8
         have H1 : (some false) = some r := by rw [if_pos rfl] at H; exact H
         clear H
         have H := H1
         clear H1
         obtain rfl := Option.some.inj H
         go_wp2
         go_ret
         exact ⟨by first | rfl | (simp [errW_none, errW_some] <;> rfl) | (simp [*, errW_none, errW_some] <;> rfl) | (exfalso; (try simp_all); (try omega); done), by repeat (first | (with_reducible first | exact HB.out | apply below_alloc | apply pw_below_drewN | apply below_drew1) | exact HB.out)⟩
        ·replace c8 := Bool.eq_false_iff.mpr c8
         subst c8
         have H1 : (if (rd l0 x7_1) ≥ 0 then (if 0 ≤ (rd l0 x7_1) then (if (rd l0 x7_1) < (l0.length : Int) then (if (rd l0 (rd l0 x7_1)) = (-2) then (some false) else (if (rd l0 x7_1) = (-2) then (dom_Sane.l0 kj4 l0 l0 (l0.length : Int) (wrap64 (x7_1 + 1))) else ((dom_rises.f l0 x7_1).bind fun t472 => (if t472 = true then (dom_Sane.l0 kj4 l0 l0 (l0.length : Int) (wrap64 (x7_1 + 1))) else (some false))))) else (none)) else (none)) else (if (rd l0 x7_1) = (-2) then (dom_Sane.l0 kj4 l0 l0 (l0.length : Int) (wrap64 (x7_1 + 1))) else ((dom_rises.f l0 x7_1).bind fun t473 => (if t473 = true then (dom_Sane.l0 kj4 l0 l0 (l0.length : Int) (wrap64 (x7_1 + 1))) else (some false))))) = some r := by rw [if_neg (show ¬ (false = true) by decide)] at H; exact H
         clear H
         have H := H1
         clear H1
         by_cases c9 : (rd l0 x7_1) ≥ 0
         ·rw [if_pos c9] at H
          have c9b0 : decide (0 ≤ (rd l0 x7_1)) = true := decide_eq_true c9
          clear c9
          by_cases c10 : 0 ≤ (rd l0 x7_1)
          ·rw [if_pos c10] at H
           have c10b0 : decide (0 ≤ (rd l0 x7_1)) = true := decide_eq_true c10
           clear c10
           by_cases c11 : (rd l0 x7_1) < (l0.length : Int)
           ·rw [if_pos c11] at H
            have c11b0 : decide ((rd l0 x7_1) < (l0.length : Int)) = true := decide_eq_true c11
            clear c11
            by_cases c12 : (rd l0 (rd l0 x7_1)) = (-2)
            ·rw [if_pos c12] at H
             have c12b0 : ((rd l0 (rd l0 x7_1)) == (-2)) = true := beq_iff_eq.mpr c12
             have c12b1 : ((rd l0 (rd l0 x7_1)) != (-2)) = false := bne_eq_false_iff_eq.mpr c12
             clear c12
             obtain rfl := Option.some.inj H
             have p471 : 0 ≤ ((rd l0 x7_1) : Int) := of_decide_eq_true (by first | (with_reducible assumption) | assumption)
             have q471 : (rd l0 x7_1) < (l0.length : Int) := of_decide_eq_true (by first | (with_reducible assumption) | assumption)
             obtain ⟨ad471, e471, hx471_0⟩ := Kd.at_int HR0.out (rd l0 x7_1) p471 q471
             obtain rfl : ad470 = ad471 := (by injection e471)
             replace hx471_0 := (HB.out.cell (World.block_lt_of_cell? w _ hx471_0)).trans hx471_0
             replace p471 := eq_true p471
             replace q471 := eq_true q471
             go_wp2
             go_ret
             exact ⟨by first | rfl | (simp [errW_none, errW_some] <;> rfl) | (simp [*, errW_none, errW_some] <;> rfl) | (exfalso; (try simp_all); (try omega); done), by repeat (first | (with_reducible first | exact HB.out | apply below_alloc | apply pw_below_drewN | apply below_drew1) | exact HB.out)⟩
            ·rw [if_neg c12] at H
             have c12b0 : ((rd l0 (rd l0 x7_1)) == (-2)) = false := beq_eq_false_iff_ne.mpr c12
             have c12b1 : ((rd l0 (rd l0 x7_1)) != (-2)) = true := bne_iff_ne.mpr c12
             by_cases c13 : (rd l0 x7_1) = (-2)
             ·rw [if_pos c13] at H
              have c13b0 : ((rd l0 x7_1) == (-2)) = true := beq_iff_eq.mpr c13
              have c13b1 : ((rd l0 x7_1) != (-2)) = false := bne_eq_false_iff_eq.mpr c13
              clear c13
              have H' := Aside0.mk H
              clear H
              have p471 : 0 ≤ ((rd l0 x7_1) : Int) := of_decide_eq_true (by first | (with_reducible assumption) | assumption)
              have q471 : (rd l0 x7_1) < (l0.length : Int) := of_decide_eq_true (by first | (with_reducible assumption) | assumption)
              obtain ⟨ad471, e471, hx471_0⟩ := Kd.at_int HR0.out (rd l0 x7_1) p471 q471
              obtain rfl : ad470 = ad471 := (by injection e471)
              replace hx471_0 := (HB.out.cell (World.block_lt_of_cell? w _ hx471_0)).trans hx471_0
              replace p471 := eq_true p471
              replace q471 := eq_true q471
              go_wp2
              go_roundg kj4
              case measure => have := HK1.out; have := HJ4.out; omega
              case rel => exact ⟨(wrap64 (x7_1 + 1)), (by first | rfl | (simp; done) | (simp [*]; done)), H', ⟨by have := HK1.out; have := HJ4.out; omega⟩, ⟨by repeat (first | (with_reducible first | exact HB.out | apply below_alloc | apply pw_below_drewN | apply below_drew1) | exact HB.out)⟩⟩
             ·rw [if_neg c13] at H
              have c13b0 : ((rd l0 x7_1) == (-2)) = false := beq_eq_false_iff_ne.mpr c13
              have c13b1 : ((rd l0 x7_1) != (-2)) = true := bne_iff_ne.mpr c13
              replace H := Option.bind_eq_some_iff.mp H
              obtain ⟨t472, A140, H⟩ := H
              replace H : (if t472 = true then (dom_Sane.l0 kj4 l0 l0 (l0.length : Int) (wrap64 (x7_1 + 1))) else (some false)) = some r := H
              have A14 := Aside0.mk A140
              clear A140
              by_cases c15 : t472 = true
              ·subst c15
               have H1 : (dom_Sane.l0 kj4 l0 l0 (l0.length : Int) (wrap64 (x7_1 + 1))) = some r := by rw [if_pos rfl] at H; exact H
               clear H
               have H := H1
               clear H1
               have H' := Aside0.mk H
               clear H
               have p471 : 0 ≤ ((rd l0 x7_1) : Int) := of_decide_eq_true (by first | (with_reducible assumption) | assumption)
               have q471 : (rd l0 x7_1) < (l0.length : Int) := of_decide_eq_true (by first | (with_reducible assumption) | assumption)
               obtain ⟨ad471, e471, hx471_0⟩ := Kd.at_int HR0.out (rd l0 x7_1) p471 q471
               obtain rfl : ad470 = ad471 := (by injection e471)
               replace hx471_0 := (HB.out.cell (World.block_lt_of_cell? w _ hx471_0)).trans hx471_0
               replace p471 := eq_true p471
               replace q471 := eq_true q471
               go_wp2_with (first | (go_at_call 91; (with_reducible refine (dom_rises.calls _ _ l0 x7_1 true _ ?side1 ?side2 A14.out).mono ?_); (case side1 => repeat (first | exact (Kd.C_below HR0.out HB.out) | (with_reducible refine Kd.C_alloc ?_ _) | (with_reducible refine Kd.C_drewN ?_ _) | (with_reducible refine Kd.C_drew ?_))); (case side2 => exact HC0.out); rintro e w16 ⟨rfl, hb⟩; have n0_ := Aside0.mk (below_step (by repeat (first | (with_reducible first | exact HB.out | apply below_alloc | apply pw_below_drewN | apply below_drew1) | exact HB.out)) hb); clear HB; have HB := n0_; clear n0_; (try clear hb); (try clear hb2); (try clear hk); (try clear hi)))
               go_roundg kj4
               case measure => have := HK1.out; have := HJ4.out; omega
               case rel => exact ⟨(wrap64 (x7_1 + 1)), (by first | rfl | (simp; done) | (simp [*]; done)), H', ⟨by have := HK1.out; have := HJ4.out; omega⟩, ⟨by repeat (first | (with_reducible first | exact HB.out | apply below_alloc | apply pw_below_drewN | apply below_drew1) | exact HB.out)⟩⟩
              ·replace c15 := Bool.eq_false_iff.mpr c15
               subst c15
               have H1 : (some false) = some r := by rw [if_neg (show ¬ (false = true) by decide)] at H; exact H
               clear H
               have H := H1
               clear H1
               obtain rfl := Option.some.inj H
               have p471 : 0 ≤ ((rd l0 x7_1) : Int) := of_decide_eq_true (by first | (with_reducible assumption) | assumption)
               have q471 : (rd l0 x7_1) < (l0.length : Int) := of_decide_eq_true (by first | (with_reducible assumption) | assumption)
               obtain ⟨ad471, e471, hx471_0⟩ := Kd.at_int HR0.out (rd l0 x7_1) p471 q471
               obtain rfl : ad470 = ad471 := (by injection e471)
               replace hx471_0 := (HB.out.cell (World.block_lt_of_cell? w _ hx471_0)).trans hx471_0
               replace p471 := eq_true p471
               replace q471 := eq_true q471
               go_wp2_with (first | (go_at_call 91; (with_reducible refine (dom_rises.calls _ _ l0 x7_1 false _ ?side1 ?side2 A14.out).mono ?_); (case side1 => repeat (first | exact (Kd.C_below HR0.out HB.out) | (with_reducible refine Kd.C_alloc ?_ _) | (with_reducible refine Kd.C_drewN ?_ _) | (with_reducible refine Kd.C_drew ?_))); (case side2 => exact HC0.out); rintro e w17 ⟨rfl, hb⟩; have n0_ := Aside0.mk (below_step (by repeat (first | (with_reducible first | exact HB.out | apply below_alloc | apply pw_below_drewN | apply below_drew1) | exact HB.out)) hb); clear HB; have HB := n0_; clear n0_; (try clear hb); (try clear hb2); (try clear hk); (try clear hi)))
               go_ret
               exact ⟨by first | rfl | (simp [errW_none, errW_some] <;> rfl) | (simp [*, errW_none, errW_some] <;> rfl) | (exfalso; (try simp_all); (try omega); done), by repeat (first | (with_reducible first | exact HB.out | apply below_alloc | apply pw_below_drewN | apply below_drew1) | exact HB.out)⟩
           ·rw [if_neg c11] at H
            exact absurd H (by simp)
          ·rw [if_neg c10] at H
           exact absurd H (by simp)
         ·rw [if_neg c9] at H
          have c9b0 : decide (0 ≤ (rd l0 x7_1)) = false := decide_eq_false c9
          clear c9
          by_cases c18 : (rd l0 x7_1) = (-2)
          ·rw [if_pos c18] at H
           have c18b0 : ((rd l0 x7_1) == (-2)) = true := beq_iff_eq.mpr c18
           have c18b1 : ((rd l0 x7_1) != (-2)) = false := bne_eq_false_iff_eq.mpr c18
           clear c18
           have H' := Aside0.mk H
           clear H
           go_wp2
           go_roundg kj4
           case measure => have := HK1.out; have := HJ4.out; omega
           case rel => exact ⟨(wrap64 (x7_1 + 1)), (by first | rfl | (simp; done) | (simp [*]; done)), H', ⟨by have := HK1.out; have := HJ4.out; omega⟩, ⟨by repeat (first | (with_reducible first | exact HB.out | apply below_alloc | apply pw_below_drewN | apply below_drew1) | exact HB.out)⟩⟩
          ·rw [if_neg c18] at H
           have c18b0 : ((rd l0 x7_1) == (-2)) = false := beq_eq_false_iff_ne.mpr c18
           have c18b1 : ((rd l0 x7_1) != (-2)) = true := bne_iff_ne.mpr c18
           replace H := Option.bind_eq_some_iff.mp H
           obtain ⟨t473, A190, H⟩ := H
           replace H : (if t473 = true then (dom_Sane.l0 kj4 l0 l0 (l0.length : Int) (wrap64 (x7_1 + 1))) else (some false)) = some r := H
           have A19 := Aside0.mk A190
           clear A190
           by_cases c20 : t473 = true
           ·subst c20
            have H1 : (dom_Sane.l0 kj4 l0 l0 (l0.length : Int) (wrap64 (x7_1 + 1))) = some r := by rw [if_pos rfl] at H; exact H
            clear H
            have H := H1
            clear H1
            have H' := Aside0.mk H
            clear H
            go_wp2_with (first | (go_at_call 91; (with_reducible refine (dom_rises.calls _ _ l0 x7_1 true _ ?side1 ?side2 A19.out).mono ?_); (case side1 => repeat (first | exact (Kd.C_below HR0.out HB.out) | (with_reducible refine Kd.C_alloc ?_ _) | (with_reducible refine Kd.C_drewN ?_ _) | (with_reducible refine Kd.C_drew ?_))); (case side2 => exact HC0.out); rintro e w21 ⟨rfl, hb⟩; have n0_ := Aside0.mk (below_step (by repeat (first | (with_reducible first | exact HB.out | apply below_alloc | apply pw_below_drewN | apply below_drew1) | exact HB.out)) hb); clear HB; have HB := n0_; clear n0_; (try clear hb); (try clear hb2); (try clear hk); (try clear hi)))
            go_roundg kj4
            case measure => have := HK1.out; have := HJ4.out; omega
            case rel => exact ⟨(wrap64 (x7_1 + 1)), (by first | rfl | (simp; done) | (simp [*]; done)), H', ⟨by have := HK1.out; have := HJ4.out; omega⟩, ⟨by repeat (first | (with_reducible first | exact HB.out | apply below_alloc | apply pw_below_drewN | apply below_drew1) | exact HB.out)⟩⟩
           ·replace c20 := Bool.eq_false_iff.mpr c20
            subst c20
            have H1 : (some false) = some r := by rw [if_neg (show ¬ (false = true) by decide)] at H; exact H
            clear H
            have H := H1
            clear H1
            obtain rfl := Option.some.inj H
            go_wp2_with (first | (go_at_call 91; (with_reducible refine (dom_rises.calls _ _ l0 x7_1 false _ ?side1 ?side2 A19.out).mono ?_); (case side1 => repeat (first | exact (Kd.C_below HR0.out HB.out) | (with_reducible refine Kd.C_alloc ?_ _) | (with_reducible refine Kd.C_drewN ?_ _) | (with_reducible refine Kd.C_drew ?_))); (case side2 => exact HC0.out); rintro e w22 ⟨rfl, hb⟩; have n0_ := Aside0.mk (below_step (by repeat (first | (with_reducible first | exact HB.out | apply below_alloc | apply pw_below_drewN | apply below_drew1) | exact HB.out)) hb); clear HB; have HB := n0_; clear n0_; (try clear hb); (try clear hb2); (try clear hk); (try clear hi)))
            go_ret
            exact ⟨by first | rfl | (simp [errW_none, errW_some] <;> rfl) | (simp [*, errW_none, errW_some] <;> rfl) | (exfalso; (try simp_all); (try omega); done), by repeat (first | (with_reducible first | exact HB.out | apply below_alloc | apply pw_below_drewN | apply below_drew1) | exact HB.out)⟩
     ·rw [if_neg c4] at H
      exact absurd H (by simp)
    ·rw [if_neg c3] at H
     exact absurd H (by simp)
   ·rw [if_neg c2] at H
    have c2b0 : decide (x7_1 < (l0.length : Int)) = false := decide_eq_false c2
    clear c2
    obtain rfl := Option.some.inj H
    go_wp2
    go_ret
    exact ⟨by first | rfl | (simp [errW_none, errW_some] <;> rfl) | (simp [*, errW_none, errW_some] <;> rfl) | (exfalso; (try simp_all); (try omega); done), by repeat (first | (with_reducible first | exact HB.out | apply below_alloc | apply pw_below_drewN | apply below_drew1) | exact HB.out)⟩
end Go.Proofs.YtemcmcnhpdkdfaaGreat.P
namespace Go.Proofs.YtemcmcnhpdkdfaaGreat.P
open Go.RowKit Go.Shelf Go.Lib Go.Sort Go.Proofs.YtemcmcnhpdkdfaaGreatW.PrintWords Go.Proofs.YtemcmcnhpdkdfaaGreatW.PrintLast Go.Proofs.YtemcmcnhpdkdfaaGreatW.PrintMore
attribute [local go_sem] Oper.semAt_some
def dom_Chain.f (k : Nat) (l0 : List Int) (a1 : Int) : Option (List Int) :=
 if isN l0.length a1 = true then (if rd l0 a1 = -2 then some [] else (dom_Sane.f k l0).bind fun s => if s = true then (if l0.length ≤ 1000000 then some (upL l0 l0.length l0.length a1) else none) else some []) else some []
set_option maxRecDepth 100000 in
set_option maxHeartbeats 4000000 in
theorem chain_in (k : Nat) (A : Option Addr) (cap : Nat) (ds : List Int) (b : Int) (r : List Int) (w : World) (hC : dI.C w A ds.length ds) (hc0 : ds.length ≤ cap) (h : dom_Chain.f k ds b = some r) :
  CallsIn Fence.wide 8 Tryz.prog 54 #[.slice A ds.length cap, .int .i64 b] w fun e w' => ∃ v, e = .returned v ∧ dI.R 3 w' w.heap.size (fun _ => True) v r ∧ Below w.heap.size w w' := by
 have HC := Aside0.mk hC
 have HC0 := Aside0.mk hc0
 obtain ⟨n, en⟩ : ∃ n, n = ds.length := ⟨_, rfl⟩
 have HN := Aside0.mk en
 have H := Aside0.mk h
 rw [← en] at hC ⊢
 refine callsIn_of_wp Tryz.func54 rfl trivial ?_ rfl
 simp only [Tryz.ntmps54, List.size_toArray, List.length_cons, List.length_nil, Nat.reduceAdd, Nat.reduceSub, Array.replicate_succ, Array.replicate_zero, List.push_toArray, List.append_toArray, List.nil_append, List.cons_append]
 unfold dom_Chain.f at h
 rw [← en] at h
 clear hc0 en
 rcases Bool.eq_false_or_eq_true (isN n b) with hin | hin
 ·rw [if_pos hin] at h
  have hbn := isN_iff.1 hin
  obtain ⟨x, rfl⟩ : ∃ x : Nat, b = (x : Int) := ⟨b.toNat, by omega⟩
  have hx : x < n := by omega
  have c1 : decide ((x : Int) < 0) = false := decide_eq_false (by omega)
  have c2 : decide ((n : Int) ≤ (x : Int)) = false := decide_eq_false (by omega)
  have c3 : decide (n ≤ x) = false := decide_eq_false (by omega)
  have q0 : (0 : Int) ≤ (x : Int) := by omega
  have q1 : (x : Int) < (n : Int) := by omega
  obtain ⟨g, off, e, _, hcell⟩ := C_ints HC.out (by have := HN.out; omega)
  have hcx := hcell x (by have := HN.out; omega)
  have er : rd ds (x : Int) = ds.getD x 0 := by show ds.getD (Int.toNat (x : Int)) 0 = _; rw [Int.toNat_natCast]
  rw [er] at h
  obtain ⟨y, ey⟩ : ∃ y, y = ds.getD x 0 := ⟨_, rfl⟩
  rw [← ey] at h hcx
  clear er ey hcell hbn hin H
  by_cases hy : y = -2
  ·rw [if_pos hy] at h
   subst hy
   obtain rfl := Option.some.inj h
   clear h hC
   subst e
   gi_wp2
   refine ⟨trivial, ?_⟩
   gi_wp2
   go_ret
   exact ⟨_, rfl, Kd.R_nil _ _ _ _ _, Below.refl _ _⟩
  ·rw [if_neg hy] at h
   have e2 : (y == -2) = false := by simpa using hy
   obtain ⟨s, hs, h⟩ := Option.bind_eq_some_iff.1 h
   have HS := Aside0.mk (dom_Sane.calls k A cap ds s w HC.out HC0.out hs)
   rw [← HN.out] at HS
   cases s with
   | false =>
    rw [if_neg (by simp)] at h
    obtain rfl := Option.some.inj h
    clear h hC hs
    subst e
    gi_wp2_with (refine ⟨trivial, ?_⟩; gi_at_call 79; refine (callsIn_wide.2 HS.out).mono ?_; rintro e w' ⟨rfl, hb⟩; have HB := Aside0.mk hb; clear hb)
    go_ret
    exact ⟨_, rfl, Kd.R_nil _ _ _ _ _, HB.out⟩
   | true =>
    rw [if_pos rfl] at h
    split at h
    ·rename_i hlen
     obtain rfl := Option.some.inj h
     have HU := Aside0.mk (fun (W : World) (hW : Below w.heap.size w W) => UpI_made (cap := cap) (b := (x : Int)) hC hW _ _ rfl rfl)
     have HAD := Aside0.mk (C_addr hC)
     clear h hC hs
     subst e
     gi_wp2_with (first | (refine ⟨trivial, ?_⟩; gi_at_call 79; refine (callsIn_wide.2 HS.out).mono ?_; rintro e w1 ⟨rfl, hb⟩; have HB := Aside0.mk hb; clear hb) | (refine ⟨trivial, ?_⟩; gi_at_call 81; refine (up_in Fence.wide _ trivial rfl _ _ _ _ _).mono ?_; rintro e w2 ⟨rfl, rfl⟩) | (refine ⟨trivial, ?_⟩; gi_at_call 80; refine (collect_in _ n cap ds (x : Int) _ _ _ (HU.out w1 HB.out) (by omega) (fun hp g' off' e' => (by have := HAD.out hp g' off' e'; have := HB.out.size; rw [size_alloc1, size_alloc1]; omega)) hlen).mono ?_; rintro e w3 ⟨v, rfl, hr, hf⟩; obtain ⟨A3, c3, rfl⟩ := Kd.R_slice hr; have HR3 := Aside0.mk hr; have HF3 := Aside0.mk hf; clear hr hf))
     go_ret
     have hz := HB.out.size
     have hb1 : Below w.heap.size w ((w1.alloc (.cells #[.slice (some ⟨g, off, none⟩) n cap] 23)).alloc (.cells #[.int .i64 (x : Int)] 3)) := HB.out.trans ((below_alloc (below_alloc (Below.refl _ _) _) _).mono hz)
     exact ⟨_, rfl, Kd.R_lower HR3.out (by have := hb1.size; omega), below_fr hb1 HF3.out (fun k hk => by omega) hb1.size⟩
    ·cases h
 ·have hout : b < 0 ∨ (n : Int) ≤ b := by
   have : ¬ (0 ≤ b ∧ b < (n : Int)) := fun h => by rw [isN_iff.2 h] at hin; cases hin
   omega
  rw [if_neg (by rw [hin]; simp)] at h
  obtain rfl := Option.some.inj h
  clear h hC H
  rcases hout with hb | hb
  ·have c1 : decide (b < 0) = true := decide_eq_true hb
   gi_wp2
   refine ⟨trivial, ?_⟩
   gi_wp2
   go_ret
   exact ⟨_, rfl, Kd.R_nil _ _ _ _ _, Below.refl _ _⟩
  ·have c1 : decide (b < 0) = false := decide_eq_false (by omega)
   have c2 : decide ((n : Int) ≤ b) = true := decide_eq_true hb
   gi_wp2
   refine ⟨trivial, ?_⟩
   gi_wp2
   go_ret
   exact ⟨_, rfl, Kd.R_nil _ _ _ _ _, Below.refl _ _⟩
theorem dom_Chain.calls (k : Nat) (A0 : Option Addr) (c0 : Nat) (l0 : List Int) (a1 : Int) (r : List Int) (w : World) (hr0 : Kd.C (Kd.int .i64) w A0 l0.length l0) (hc0 : l0.length ≤ c0) (h : dom_Chain.f k l0 a1 = some r) :
  Calls Tryz.prog 54 #[.slice A0 l0.length c0, .int .i64 a1] w fun e w' => ∃ v0_ : Value, e = .returned v0_ ∧ Kd.R (Kd.int .i64) 3 w' w.heap.size (fun _ => True) v0_ r ∧ Below w.heap.size w w' :=
 callsIn_wide.1 (chain_in k A0 c0 l0 a1 r w hr0 hc0 h)
end Go.Proofs.YtemcmcnhpdkdfaaGreat.P
