/- What the claim uses of: Shelf Hgr Hback Hrep Hrep0 Hplaces Htj Htj2 Hpsort Htj3 Htj4 Hparts -/
import Derived.Shelf.Spec.SlicesInsertGrow
import Derived.Shelf.Spec.SlicesInsert
import Derived.Shelf.Small.Bits
import Derived.Shelf.Small.Wraps
import Derived.Shelf.Strconv.Itoa0
import Derived.Shelf.Sort.Plain
import Derived.Shelf.Bits.Mul64
import Derived.Shelf.Slices.Turned
import Derived.Shelf.Slices.Reverse
import Derived.Ground.Names2Prog
import Derived.Shelf.Slices.Clone
import Derived.Shelf.Slices.CompactI
import Derived.Shelf.Slices.SearchI
import Derived.Shelf.Slices.Cells
import Derived.Shelf.Slices.In.SortNone
import Derived.Shelf.Slices.Empties
import Derived.Ground.SlgnProg
import Derived.Shelf.SlicesE.Index
import Derived.Shelf.SlicesE.Compact
import Derived.Shelf.SlicesE.Clone
import Derived.Ground.SlgfProg
import Derived.Shelf.SlicesE.IndexFunc
import Derived.Shelf.SlicesE.DeleteFunc
import Derived.Ground.SlsfProg
import Derived.Shelf.SlSortCmp.Insertion
import Derived.Shelf.SlSortCmp.SiftDown1
import Derived.Shelf.SlSortCmp.HeapSort1
import Derived.Shelf.SlSortCmp.Insertion1
import Derived.Shelf.SlSortCmp.Median1
import Derived.Shelf.SlSortCmp.Pivot1
import Derived.Shelf.SlSortCmp.ReverseRange1
import Derived.Shelf.SlSortCmp.PartialInsertion1
import Derived.Shelf.SlSortCmp.PartitionEqual1
import Derived.Shelf.SlSortCmp.Partition1
import Derived.Shelf.SlSortCmp.Pdq1
import Derived.Shelf.SlSortCmp.Whole1
import Derived.Shelf.SlSortCmp.NoneTotal
import Derived.Test.YtdknhgbjgdmfkaaProg
import Derived.OpenShut
import Derived.Deep.DeepMust
import Derived.Lib.OwnBridge
import Derived.Sort.OwnSortedInts
import Derived.WalkSmall
import Derived.Maps.AppendAt
import Derived.WalkMore
import Derived.OneCell
import Derived.RangeFuncNested
import Derived.RangeFuncBound
import Derived.RangeFuncCalls
import Derived.RangeFuncLeaves
import Derived.Shelf.Abstract
import Derived.Shelf.RegionOpen
import Derived.WalkKit
import Derived.OwnWalkIn
import Derived.TacticsInMore
import Derived.LoopNIn
import Derived.LoopIn
import Derived.Deep.QuietTactic
import Derived.BigQuiet
import Derived.Laws.CopyOwn
import Derived.Deep.RegionLaw
import Derived.Laws.OwnMore
import Derived.Deep.CutRange
import Derived.Deep.RegionHeld3
import Derived.Maps.OwnIn
import Derived.RangeFuncWrites
import Derived.Lib.BufferWrite
import Derived.BigRegion
import Derived.Test.YtdknhgbjgdmfkaaQH1
namespace Go.Proofs
open Go.Shelf
def Try.lays122_ren : Go.Shelf.Ren := ⟨fun | 122 => 93 | 215 => 104 | n => n, fun | 3 => 3 | 4 => 4 | n => n, fun | n => n⟩
theorem Try.lays122 : Go.Proofs.Lays.n122 Try.prog Try.lays122_ren := {
  mixed := by kernel_rfl
  f122 := Try.func93.trans (congrArg some (by kernel_rfl))
  f215 := Try.func104.trans (congrArg some (by kernel_rfl))
  t3 := Try.underlying3
  a3 := Try.isAgg3
  z3 := Try.sizeOf3
  v3 := Try.zeroValue3
  t4 := Try.underlying4
  a4 := Try.isAgg4
  z4 := Try.sizeOf4
  v4 := Try.zeroValue4 }
open Go.RowKit in
theorem Try.cmp_Compare_int (x y : Int) (w : World) :
    Calls Try.prog 93 #[.int .i64 x, .int .i64 y] w fun e w' => e = .returned (.int .i64 (Lib.compareInt x y)) ∧ w' = w := Any.cmp_Compare_int Try.lays122 x y w
def Try.lays189_ren : Go.Shelf.Ren := ⟨fun | 189 => 54 | 125 => 79 | 257 => 78 | 128 => 102 | 129 => 103 | 294 => 94 | 295 => 95 | 296 => 96 | 297 => 97 | 298 => 98 | 299 => 99 | 216 => 80 | 300 => 100 | 301 => 101 | 328 => 127 | 329 => 128 | 330 => 129 | 331 => 130 | 332 => 131 | 215 => 104 | 343 => 140 | n => n, fun | 28 => 32 | 3 => 3 | 46 => 80 | 0 => 0 | 51 => 106 | 53 => 108 | 4 => 4 | 183 => 100 | 182 => 99 | 131 => 57 | 5 => 5 | 9 => 9 | 218 => 124 | 222 => 128 | 228 => 139 | 229 => 140 | n => n, fun | n => n⟩
theorem Try.lays189 : Go.Proofs.Lays.n189 Try.prog Try.lays189_ren := {
  mixed := by kernel_rfl
  f125 := Try.func79.trans (congrArg some (by kernel_rfl))
  f128 := Try.func102.trans (congrArg some (by kernel_rfl))
  f129 := Try.func103.trans (congrArg some (by kernel_rfl))
  f189 := Try.func54.trans (congrArg some (by kernel_rfl))
  f215 := Try.func104.trans (congrArg some (by kernel_rfl))
  f216 := Try.func80.trans (congrArg some (by kernel_rfl))
  f257 := Try.func78.trans (congrArg some (by kernel_rfl))
  f294 := Try.func94.trans (congrArg some (by kernel_rfl))
  f295 := Try.func95.trans (congrArg some (by kernel_rfl))
  f296 := Try.func96.trans (congrArg some (by kernel_rfl))
  f297 := Try.func97.trans (congrArg some (by kernel_rfl))
  f298 := Try.func98.trans (congrArg some (by kernel_rfl))
  f299 := Try.func99.trans (congrArg some (by kernel_rfl))
  f300 := Try.func100.trans (congrArg some (by kernel_rfl))
  f301 := Try.func101.trans (congrArg some (by kernel_rfl))
  f328 := Try.func127.trans (congrArg some (by kernel_rfl))
  f329 := Try.func128.trans (congrArg some (by kernel_rfl))
  f330 := Try.func129.trans (congrArg some (by kernel_rfl))
  f331 := Try.func130.trans (congrArg some (by kernel_rfl))
  f332 := Try.func131.trans (congrArg some (by kernel_rfl))
  f343 := Try.func140.trans (congrArg some (by kernel_rfl))
  t0 := Try.underlying0
  a0 := Try.isAgg0
  z0 := Try.sizeOf0
  v0 := Try.zeroValue0
  t3 := Try.underlying3
  a3 := Try.isAgg3
  z3 := Try.sizeOf3
  v3 := Try.zeroValue3
  t4 := Try.underlying4
  a4 := Try.isAgg4
  z4 := Try.sizeOf4
  v4 := Try.zeroValue4
  t5 := Try.underlying5
  a5 := Try.isAgg5
  z5 := Try.sizeOf5
  v5 := Try.zeroValue5
  t9 := Try.underlying9
  a9 := Try.isAgg9
  z9 := Try.sizeOf9
  v9 := Try.zeroValue9
  t28 := Try.underlying32
  a28 := Try.isAgg32
  z28 := Try.sizeOf32
  v28 := Try.zeroValue32
  t46 := Try.underlying80
  a46 := Try.isAgg80
  z46 := Try.sizeOf80
  v46 := Try.zeroValue80
  t51 := Try.underlying106
  a51 := Try.isAgg106
  z51 := Try.sizeOf106
  v51 := Try.zeroValue106
  t53 := Try.underlying108
  a53 := Try.isAgg108
  z53 := Try.sizeOf108
  v53 := Try.zeroValue108
  t131 := Try.underlying57
  a131 := Try.isAgg57
  z131 := Try.sizeOf57
  v131 := Try.zeroValue57
  t182 := Try.underlying99
  a182 := Try.isAgg99
  z182 := Try.sizeOf99
  v182 := Try.zeroValue99
  t183 := Try.underlying100
  a183 := Try.isAgg100
  z183 := Try.sizeOf100
  v183 := Try.zeroValue100
  t218 := Try.underlying124
  a218 := Try.isAgg124
  z218 := Try.sizeOf124
  v218 := Try.zeroValue124
  t222 := Try.underlying128
  a222 := Try.isAgg128
  z222 := Try.sizeOf128
  v222 := Try.zeroValue128
  t228 := Try.underlying139
  a228 := Try.isAgg139
  z228 := Try.sizeOf139
  v228 := Try.zeroValue139
  t229 := Try.underlying140
  a229 := Try.isAgg140
  z229 := Try.sizeOf140
  v229 := Try.zeroValue140 }
open Go.Sort Go.RowKit in
theorem Try.slices_Sort_int (blk off cap : Nat) (zs : List Int) (w : World) (hH : Holds (Value.int .i64) w blk off zs.toArray) (hblk : blk < w.heap.size) (hsz : zs.length < 4611686018427387904) :
    Calls Try.prog 54 #[.slice (some ⟨blk, off, none⟩) zs.length cap] w fun e w' =>
      e = .returned (.tuple #[]) ∧ ∃ n os, w' = grow (putRow (Value.int .i64) (Sort.ahead w n) blk off (zs.mergeSort fun x y => decide (x ≤ y)).toArray) os := Any.slices_Sort_int Try.lays189 blk off cap zs w hH hblk hsz
def Try.lays264_ren : Go.Shelf.Ren := ⟨fun | 264 => 136 | n => n, fun | 53 => 108 | 46 => 80 | n => n, fun | n => n⟩
theorem Try.lays264 : Go.Proofs.Lays.n264 Try.prog Try.lays264_ren := {
  mixed := by kernel_rfl
  f264 := Try.func136.trans (congrArg some (by kernel_rfl))
  t46 := Try.underlying80
  a46 := Try.isAgg80
  z46 := Try.sizeOf80
  v46 := Try.zeroValue80
  t53 := Try.underlying108
  a53 := Try.isAgg108
  z53 := Try.sizeOf108
  v53 := Try.zeroValue108 }
open Go.RowKit Go.Lib in
theorem Try.bits_Mul64 (x y : Nat) (hx : x < 18446744073709551616) (hy : y < 18446744073709551616) (w : World) :
    Calls Try.prog 136 #[.int .u64 x, .int .u64 y] w fun e w' => e = .returned (.tuple #[.int .u64 ((x * y / 18446744073709551616 : Nat) : Int), .int .u64 ((x * y % 18446744073709551616 : Nat) : Int)]) ∧ w' = w := Any.bits_Mul64 Try.lays264 x y hx hy w
def Try.lays212_ren : Go.Shelf.Ren := ⟨fun | 212 => 117 | 263 => 135 | 264 => 136 | n => n, fun | 46 => 80 | 51 => 106 | 146 => 133 | 53 => 108 | 148 => 135 | n => n, fun | n => n⟩
theorem Try.lays212 : Go.Proofs.Lays.n212 Try.prog Try.lays212_ren := {
  mixed := by kernel_rfl
  f212 := Try.func117.trans (congrArg some (by kernel_rfl))
  f263 := Try.func135.trans (congrArg some (by kernel_rfl))
  f264 := Try.func136.trans (congrArg some (by kernel_rfl))
  t46 := Try.underlying80
  a46 := Try.isAgg80
  z46 := Try.sizeOf80
  v46 := Try.zeroValue80
  t51 := Try.underlying106
  a51 := Try.isAgg106
  z51 := Try.sizeOf106
  v51 := Try.zeroValue106
  t53 := Try.underlying108
  a53 := Try.isAgg108
  z53 := Try.sizeOf108
  v53 := Try.zeroValue108
  t146 := Try.underlying133
  a146 := Try.isAgg133
  z146 := Try.sizeOf133
  v146 := Try.zeroValue133
  t148 := Try.underlying135
  a148 := Try.isAgg135
  z148 := Try.sizeOf135
  v148 := Try.zeroValue135 }
open Go.RowKit Go.Lib in
theorem Try.bits_Mul (x y : Nat) (hx : x < 18446744073709551616) (hy : y < 18446744073709551616) (w : World) :
    Calls Try.prog 117 #[.int .u64 x, .int .u64 y] w fun e w' => e = .returned (.tuple #[.int .u64 ((x * y / 18446744073709551616 : Nat) : Int), .int .u64 ((x * y % 18446744073709551616 : Nat) : Int)]) ∧ w' = w := Any.bits_Mul Try.lays212 x y hx hy w
def Try.lays112_ren : Go.Shelf.Ren := ⟨fun | 112 => 60 | n => n, fun | 28 => 32 | 3 => 3 | 4 => 4 | 0 => 0 | n => n, fun | n => n⟩
theorem Try.lays112 : Go.Proofs.Lays.n112 Try.prog Try.lays112_ren := {
  mixed := by kernel_rfl
  f112 := Try.func60.trans (congrArg some (by kernel_rfl))
  t0 := Try.underlying0
  a0 := Try.isAgg0
  z0 := Try.sizeOf0
  v0 := Try.zeroValue0
  t3 := Try.underlying3
  a3 := Try.isAgg3
  z3 := Try.sizeOf3
  v3 := Try.zeroValue3
  t4 := Try.underlying4
  a4 := Try.isAgg4
  z4 := Try.sizeOf4
  v4 := Try.zeroValue4
  t28 := Try.underlying32
  a28 := Try.isAgg32
  z28 := Try.sizeOf32
  v28 := Try.zeroValue32 }
open Go.RowKit Go.Lib Go.Sort in
theorem Try.slices_Reverse_int (blk off cap : Nat) (zs : List Int) (w : World) (hH : Holds (Value.int .i64) w blk off zs.toArray) (hsz : zs.length ≤ 9223372036854775807) :
    Calls Try.prog 60 #[.slice (some ⟨blk, off, none⟩) zs.length cap] w fun e w' => e = .returned (.tuple #[]) ∧ ∃ n, w' = putRow (Value.int .i64) (Sort.ahead w n) blk off zs.reverse.toArray := Any.slices_Reverse_int Try.lays112 blk off cap zs w hH hsz
open Go.RowKit Go.Lib Go.Sort in
theorem Try.slices_Reverse_int_empty (a : Option Addr) (cap : Nat) (w : World) :
    Calls Try.prog 60 #[.slice a 0 cap] w fun e w' => e = .returned (.tuple #[]) ∧ w' = w := Any.slices_Reverse_int_empty Try.lays112 a cap w
def Try.laysNm215_ren : Go.Shelf.Ren := ⟨fun | 15 => 51 | n => n, fun | 22 => 32 | 3 => 3 | 4 => 4 | n => n, fun | n => n⟩
theorem Try.laysNm215 : Go.Proofs.Lays2.n15 Try.prog Try.laysNm215_ren := {
  mixed := by kernel_rfl
  f15 := Try.func51.trans (congrArg some (by kernel_rfl))
  t3 := Try.underlying3
  a3 := Try.isAgg3
  z3 := Try.sizeOf3
  v3 := Try.zeroValue3
  t4 := Try.underlying4
  a4 := Try.isAgg4
  z4 := Try.sizeOf4
  v4 := Try.zeroValue4
  t22 := Try.underlying32
  a22 := Try.isAgg32
  z22 := Try.sizeOf32
  v22 := Try.zeroValue32
  i3 := by kernel_rfl }
open Go.RowKit Go.Lib in
theorem Try.slices_Clone_int (b off n c : Nat) (zs : List Int) (w : World) (hz : n ≤ zs.length) (hbig : n * 8 ≤ 140737488355328) (hc : ∀ j, j < zs.length → w.cell? ⟨b, off + j, none⟩ = some (.int .i64 (zs.getD j 0))) :
    Calls Try.prog 51 #[.slice (some ⟨b, off, none⟩) n c] w fun e w' => ∃ v', e = .returned v' ∧ w'.ownsRow w.heap.size 3 1 v' n ((zs.take n).map (Value.int .i64)) ∧ v' ≠ .slice none 0 0 ∧ Below w.heap.size w w' := Any.slices_Clone_int Try.laysNm215 b off n c zs w hz hbig hc
open Go.RowKit Go.Lib in
theorem Try.slices_Clone_int_nil (n c : Nat) (w : World) :
    Calls Try.prog 51 #[.slice none n c] w fun e w' => e = .returned (.slice none 0 0) ∧ w' = w := Any.slices_Clone_int_nil Try.laysNm215 n c w
open Go.RowKit Go.Lib in
theorem Try.slices_Clone_int_zero (a : Addr) (c : Nat) (w : World) :
    Calls Try.prog 51 #[.slice (some a) 0 c] w fun e w' => ∃ v', e = .returned v' ∧ w'.ownsRow w.heap.size 3 1 v' 0 [] ∧ v' ≠ .slice none 0 0 ∧ Below w.heap.size w w' := Any.slices_Clone_int_zero Try.laysNm215 a c w
def Try.laysNm220_ren : Go.Shelf.Ren := ⟨fun | 20 => 55 | n => n, fun | 22 => 32 | 3 => 3 | 4 => 4 | 0 => 0 | n => n, fun | n => n⟩
theorem Try.laysNm220 : Go.Proofs.Lays2.n20 Try.prog Try.laysNm220_ren := {
  mixed := by kernel_rfl
  f20 := Try.func55.trans (congrArg some (by kernel_rfl))
  t0 := Try.underlying0
  a0 := Try.isAgg0
  z0 := Try.sizeOf0
  v0 := Try.zeroValue0
  t3 := Try.underlying3
  a3 := Try.isAgg3
  z3 := Try.sizeOf3
  v3 := Try.zeroValue3
  t4 := Try.underlying4
  a4 := Try.isAgg4
  z4 := Try.sizeOf4
  v4 := Try.zeroValue4
  t22 := Try.underlying32
  a22 := Try.isAgg32
  z22 := Try.sizeOf32
  v22 := Try.zeroValue32
  i3 := by kernel_rfl }
open Go.RowKit Go.Lib Go.Sort in
theorem Try.slices_Compact_int (blk off cap : Nat) (zs : List Int) (w : World) (hH : Holds (Value.int .i64) w blk off zs.toArray) (hsz : zs.length ≤ 9223372036854775807) (hcap : zs.length ≤ cap) :
    Calls Try.prog 55 #[.slice (some ⟨blk, off, none⟩) zs.length cap] w fun e w' => e = .returned (.slice (some ⟨blk, off, none⟩) (Lib.compact zs).length cap) ∧ ∃ q, w' = putRow (Value.int .i64) (Sort.ahead w q) blk off (Lib.compact zs ++ List.replicate (zs.length - (Lib.compact zs).length) 0).toArray := Any.slices_Compact_int Try.laysNm220 blk off cap zs w hH hsz hcap
open Go.RowKit Go.Lib Go.Sort in
theorem Try.slices_Compact_int_empty (a : Option Addr) (cap : Nat) (w : World) :
    Calls Try.prog 55 #[.slice a 0 cap] w fun e w' => e = .returned (.slice a 0 cap) ∧ w' = w := Any.slices_Compact_int_empty Try.laysNm220 a cap w
open Go.RowKit Go.Sort in
theorem Try.slices_Sort_int_none (p : Option Addr) (cap : Nat) (w : World) :
    Calls Try.prog 54 #[.slice p 0 cap] w fun e w' => e = .returned (.tuple #[]) ∧ w' = w := Any.slices_Sort_int_none Try.lays189 p cap w
def Try.laysSlH6_f77_ren : Go.Shelf.Ren := ⟨fun | 6 => 77 | n => n, fun | 22 => 32 | 23 => 3 | 25 => 50 | 3 => 3 | 0 => 0 | 4 => 4 | n => n, fun | n => n⟩
theorem Try.laysSlH6_f77 : Go.Proofs.SlLaysH.n6 Try.prog Try.laysSlH6_f77_ren := {
  mixed := by kernel_rfl
  f6 := ⟨Try.f77.name, by decide, Try.func77.trans (congrArg some (by kernel_rfl))⟩
  t0 := Try.underlying0
  a0 := Try.isAgg0
  z0 := Try.sizeOf0
  v0 := Try.zeroValue0
  t3 := Try.underlying3
  a3 := Try.isAgg3
  z3 := Try.sizeOf3
  v3 := Try.zeroValue3
  t4 := Try.underlying4
  a4 := Try.isAgg4
  z4 := Try.sizeOf4
  v4 := Try.zeroValue4
  t22 := Try.underlying32
  a22 := Try.isAgg32
  z22 := Try.sizeOf32
  v22 := Try.zeroValue32
  a23 := Try.isAgg3
  z23 := Try.sizeOf3
  t25 := Try.underlying50
  a25 := Try.isAgg50
  z25 := Try.sizeOf50
  v25 := Try.zeroValue50 }
open Go.RowKit Go.Lib in
theorem Try.slices_IndexFunc_empty {α : Type} [Inhabited α] (a : Option Addr) (c : Nat) (fv : Value) (w : World) :
    Calls Try.prog 77 #[.slice a 0 c, fv] w fun e w' => e = .returned (.int .i64 (-1)) ∧ w' = w := AnyE.slices_IndexFunc_empty Try.laysSlH6_f77 a c fv w
def Try.laysSlH10_f50_ren : Go.Shelf.Ren := ⟨fun | 10 => 50 | 6 => 77 | n => n, fun | 22 => 32 | 23 => 3 | 25 => 50 | 3 => 3 | 4 => 4 | 0 => 0 | n => n, fun | n => n⟩
theorem Try.laysSlH10_f50 : Go.Proofs.SlLaysH.n10 Try.prog Try.laysSlH10_f50_ren := {
  mixed := by kernel_rfl
  f6 := ⟨Try.f77.name, by decide, Try.func77.trans (congrArg some (by kernel_rfl))⟩
  f10 := ⟨Try.f50.name, by decide, Try.func50.trans (congrArg some (by kernel_rfl))⟩
  t0 := Try.underlying0
  a0 := Try.isAgg0
  z0 := Try.sizeOf0
  v0 := Try.zeroValue0
  t3 := Try.underlying3
  a3 := Try.isAgg3
  z3 := Try.sizeOf3
  v3 := Try.zeroValue3
  t4 := Try.underlying4
  a4 := Try.isAgg4
  z4 := Try.sizeOf4
  v4 := Try.zeroValue4
  t22 := Try.underlying32
  a22 := Try.isAgg32
  z22 := Try.sizeOf32
  v22 := Try.zeroValue32
  a23 := Try.isAgg3
  z23 := Try.sizeOf3
  t25 := Try.underlying50
  a25 := Try.isAgg50
  z25 := Try.sizeOf50
  v25 := Try.zeroValue50 }
open Go.RowKit Go.Lib Go.Sort in
theorem Try.slices_DeleteFunc {α : Type} [Inhabited α] (enc : α → Value) (hO : OneCell enc) (p : α → Bool) (g : Nat) (lb : Array Value) (eg : ∀ args w, (callFunc g args).run Try.prog w = .ok (.enter g args) w) (zr : α) (v23 : ∀ w, (zeroValue 3).run Try.prog w = .ok (enc zr) w) (blk off cap : Nat) (d : Array α) (w : World) (hp : PredAt Try.prog g lb enc p w) (hpo : PredOver Try.prog g lb enc p blk off d.size w) (hH : Holds enc w blk off d) (hsz : d.size ≤ 9223372036854775807) (hcap : d.size ≤ cap) :
    Calls Try.prog 50 #[.slice (some ⟨blk, off, none⟩) d.size cap, .func (.func g) #[] lb] w fun e w' => e = .returned (.slice (some ⟨blk, off, none⟩) (d.toList.filter fun x => !p x).length cap) ∧ ∃ q, w' = putRow enc (Sort.ahead w q) blk off ((d.toList.filter fun x => !p x) ++ List.replicate (d.size - (d.toList.filter fun x => !p x).length) zr).toArray := AnyE.slices_DeleteFunc Try.laysSlH10_f50 enc hO p g lb eg zr v23 blk off cap d w hp hpo hH hsz hcap
def Try.laysSlF6_f68_ren : Go.Shelf.Ren := ⟨fun | 6 => 68 | 15 => 79 | 14 => 88 | 28 => 102 | 29 => 103 | 20 => 109 | 21 => 110 | 22 => 111 | 23 => 112 | 24 => 113 | 25 => 114 | 26 => 115 | 27 => 116 | 46 => 132 | 47 => 128 | 48 => 129 | 49 => 133 | 50 => 134 | 57 => 141 | n => n, fun | 22 => 22 | 24 => 32 | 25 => 71 | 3 => 3 | 39 => 80 | 0 => 0 | 53 => 106 | 55 => 108 | 4 => 4 | 46 => 100 | 45 => 99 | 50 => 57 | 5 => 5 | 9 => 9 | 66 => 124 | 70 => 128 | 76 => 139 | 77 => 140 | n => n, fun | n => n⟩
theorem Try.laysSlF6_f68 : Go.Proofs.SlLaysF.n6 Try.prog Try.laysSlF6_f68_ren := {
  mixed := by kernel_rfl
  f6 := ⟨Try.f68.name, by decide, Try.func68.trans (congrArg some (by kernel_rfl))⟩
  f14 := ⟨Try.f88.name, by decide, Try.func88.trans (congrArg some (by kernel_rfl))⟩
  f15 := Try.func79.trans (congrArg some (by kernel_rfl))
  f20 := ⟨Try.f109.name, by decide, Try.func109.trans (congrArg some (by kernel_rfl))⟩
  f21 := ⟨Try.f110.name, by decide, Try.func110.trans (congrArg some (by kernel_rfl))⟩
  f22 := ⟨Try.f111.name, by decide, Try.func111.trans (congrArg some (by kernel_rfl))⟩
  f23 := ⟨Try.f112.name, by decide, Try.func112.trans (congrArg some (by kernel_rfl))⟩
  f24 := ⟨Try.f113.name, by decide, Try.func113.trans (congrArg some (by kernel_rfl))⟩
  f25 := ⟨Try.f114.name, by decide, Try.func114.trans (congrArg some (by kernel_rfl))⟩
  f26 := ⟨Try.f115.name, by decide, Try.func115.trans (congrArg some (by kernel_rfl))⟩
  f27 := ⟨Try.f116.name, by decide, Try.func116.trans (congrArg some (by kernel_rfl))⟩
  f28 := Try.func102.trans (congrArg some (by kernel_rfl))
  f29 := Try.func103.trans (congrArg some (by kernel_rfl))
  f46 := ⟨Try.f132.name, by decide, Try.func132.trans (congrArg some (by kernel_rfl))⟩
  f47 := Try.func128.trans (congrArg some (by kernel_rfl))
  f48 := Try.func129.trans (congrArg some (by kernel_rfl))
  f49 := ⟨Try.f133.name, by decide, Try.func133.trans (congrArg some (by kernel_rfl))⟩
  f50 := ⟨Try.f134.name, by decide, Try.func134.trans (congrArg some (by kernel_rfl))⟩
  f57 := ⟨Try.f141.name, by decide, Try.func141.trans (congrArg some (by kernel_rfl))⟩
  t0 := Try.underlying0
  a0 := Try.isAgg0
  z0 := Try.sizeOf0
  v0 := Try.zeroValue0
  t3 := Try.underlying3
  a3 := Try.isAgg3
  z3 := Try.sizeOf3
  v3 := Try.zeroValue3
  t4 := Try.underlying4
  a4 := Try.isAgg4
  z4 := Try.sizeOf4
  v4 := Try.zeroValue4
  t5 := Try.underlying5
  a5 := Try.isAgg5
  z5 := Try.sizeOf5
  v5 := Try.zeroValue5
  t9 := Try.underlying9
  a9 := Try.isAgg9
  z9 := Try.sizeOf9
  v9 := Try.zeroValue9
  t22 := Try.underlying22
  a22 := Try.isAgg22
  z22 := Try.sizeOf22
  v22 := Try.zeroValue22
  a24 := Try.isAgg32
  z24 := Try.sizeOf32
  t25 := Try.underlying71
  a25 := Try.isAgg71
  z25 := Try.sizeOf71
  v25 := Try.zeroValue71
  t39 := Try.underlying80
  a39 := Try.isAgg80
  z39 := Try.sizeOf80
  v39 := Try.zeroValue80
  t45 := Try.underlying99
  a45 := Try.isAgg99
  z45 := Try.sizeOf99
  v45 := Try.zeroValue99
  t46 := Try.underlying100
  a46 := Try.isAgg100
  z46 := Try.sizeOf100
  v46 := Try.zeroValue100
  t50 := Try.underlying57
  a50 := Try.isAgg57
  z50 := Try.sizeOf57
  v50 := Try.zeroValue57
  t53 := Try.underlying106
  a53 := Try.isAgg106
  z53 := Try.sizeOf106
  v53 := Try.zeroValue106
  t55 := Try.underlying108
  a55 := Try.isAgg108
  z55 := Try.sizeOf108
  v55 := Try.zeroValue108
  t66 := Try.underlying124
  a66 := Try.isAgg124
  z66 := Try.sizeOf124
  v66 := Try.zeroValue124
  t70 := Try.underlying128
  a70 := Try.isAgg128
  z70 := Try.sizeOf128
  v70 := Try.zeroValue128
  t76 := Try.underlying139
  a76 := Try.isAgg139
  z76 := Try.sizeOf139
  v76 := Try.zeroValue139
  t77 := Try.underlying140
  a77 := Try.isAgg140
  z77 := Try.sizeOf140
  v77 := Try.zeroValue140 }
def Try.laysSlF6_f72_ren : Go.Shelf.Ren := ⟨fun | 6 => 72 | 15 => 79 | 14 => 92 | 28 => 102 | 29 => 103 | 20 => 119 | 21 => 120 | 22 => 121 | 23 => 122 | 24 => 123 | 25 => 124 | 26 => 125 | 27 => 126 | 46 => 137 | 47 => 128 | 48 => 129 | 49 => 138 | 50 => 139 | 57 => 142 | n => n, fun | 22 => 32 | 24 => 3 | 25 => 76 | 3 => 3 | 39 => 80 | 0 => 0 | 53 => 106 | 55 => 108 | 4 => 4 | 46 => 100 | 45 => 99 | 50 => 57 | 5 => 5 | 9 => 9 | 66 => 124 | 70 => 128 | 76 => 139 | 77 => 140 | n => n, fun | n => n⟩
theorem Try.laysSlF6_f72 : Go.Proofs.SlLaysF.n6 Try.prog Try.laysSlF6_f72_ren := {
  mixed := by kernel_rfl
  f6 := ⟨Try.f72.name, by decide, Try.func72.trans (congrArg some (by kernel_rfl))⟩
  f14 := ⟨Try.f92.name, by decide, Try.func92.trans (congrArg some (by kernel_rfl))⟩
  f15 := Try.func79.trans (congrArg some (by kernel_rfl))
  f20 := ⟨Try.f119.name, by decide, Try.func119.trans (congrArg some (by kernel_rfl))⟩
  f21 := ⟨Try.f120.name, by decide, Try.func120.trans (congrArg some (by kernel_rfl))⟩
  f22 := ⟨Try.f121.name, by decide, Try.func121.trans (congrArg some (by kernel_rfl))⟩
  f23 := ⟨Try.f122.name, by decide, Try.func122.trans (congrArg some (by kernel_rfl))⟩
  f24 := ⟨Try.f123.name, by decide, Try.func123.trans (congrArg some (by kernel_rfl))⟩
  f25 := ⟨Try.f124.name, by decide, Try.func124.trans (congrArg some (by kernel_rfl))⟩
  f26 := ⟨Try.f125.name, by decide, Try.func125.trans (congrArg some (by kernel_rfl))⟩
  f27 := ⟨Try.f126.name, by decide, Try.func126.trans (congrArg some (by kernel_rfl))⟩
  f28 := Try.func102.trans (congrArg some (by kernel_rfl))
  f29 := Try.func103.trans (congrArg some (by kernel_rfl))
  f46 := ⟨Try.f137.name, by decide, Try.func137.trans (congrArg some (by kernel_rfl))⟩
  f47 := Try.func128.trans (congrArg some (by kernel_rfl))
  f48 := Try.func129.trans (congrArg some (by kernel_rfl))
  f49 := ⟨Try.f138.name, by decide, Try.func138.trans (congrArg some (by kernel_rfl))⟩
  f50 := ⟨Try.f139.name, by decide, Try.func139.trans (congrArg some (by kernel_rfl))⟩
  f57 := ⟨Try.f142.name, by decide, Try.func142.trans (congrArg some (by kernel_rfl))⟩
  t0 := Try.underlying0
  a0 := Try.isAgg0
  z0 := Try.sizeOf0
  v0 := Try.zeroValue0
  t3 := Try.underlying3
  a3 := Try.isAgg3
  z3 := Try.sizeOf3
  v3 := Try.zeroValue3
  t4 := Try.underlying4
  a4 := Try.isAgg4
  z4 := Try.sizeOf4
  v4 := Try.zeroValue4
  t5 := Try.underlying5
  a5 := Try.isAgg5
  z5 := Try.sizeOf5
  v5 := Try.zeroValue5
  t9 := Try.underlying9
  a9 := Try.isAgg9
  z9 := Try.sizeOf9
  v9 := Try.zeroValue9
  t22 := Try.underlying32
  a22 := Try.isAgg32
  z22 := Try.sizeOf32
  v22 := Try.zeroValue32
  a24 := Try.isAgg3
  z24 := Try.sizeOf3
  t25 := Try.underlying76
  a25 := Try.isAgg76
  z25 := Try.sizeOf76
  v25 := Try.zeroValue76
  t39 := Try.underlying80
  a39 := Try.isAgg80
  z39 := Try.sizeOf80
  v39 := Try.zeroValue80
  t45 := Try.underlying99
  a45 := Try.isAgg99
  z45 := Try.sizeOf99
  v45 := Try.zeroValue99
  t46 := Try.underlying100
  a46 := Try.isAgg100
  z46 := Try.sizeOf100
  v46 := Try.zeroValue100
  t50 := Try.underlying57
  a50 := Try.isAgg57
  z50 := Try.sizeOf57
  v50 := Try.zeroValue57
  t53 := Try.underlying106
  a53 := Try.isAgg106
  z53 := Try.sizeOf106
  v53 := Try.zeroValue106
  t55 := Try.underlying108
  a55 := Try.isAgg108
  z55 := Try.sizeOf108
  v55 := Try.zeroValue108
  t66 := Try.underlying124
  a66 := Try.isAgg124
  z66 := Try.sizeOf124
  v66 := Try.zeroValue124
  t70 := Try.underlying128
  a70 := Try.isAgg128
  z70 := Try.sizeOf128
  v70 := Try.zeroValue128
  t76 := Try.underlying139
  a76 := Try.isAgg139
  z76 := Try.sizeOf139
  v76 := Try.zeroValue139
  t77 := Try.underlying140
  a77 := Try.isAgg140
  z77 := Try.sizeOf140
  v77 := Try.zeroValue140 }
open Go.RowKit Go.Lib Go.Sort in
theorem Try.slices_SortFunc_f68 {α : Type} [Inhabited α] (enc : α → Value) (h1 : OneCell enc) (cf : α → α → Int) (hO : SWO (ltOf cf)) (g : Nat) (cb : Array Value) (blk off cap : Nat) (d : Array α) (w : World) (eg : ∀ args w, (callFunc g args).run Try.prog w = .ok (.enter g args) w) (hcmp : CmpLays1 Try.prog g cb enc cf blk off d.size w) (hH : Holds enc w blk off d) (hblk : blk < w.heap.size) (hsz : d.size < 4611686018427387904) :
    Calls Try.prog 68 #[.slice (some ⟨blk, off, none⟩) d.size cap, .func (.func g) #[] cb] w fun e w' =>
      e = .returned (.tuple #[]) ∧ ∃ d' n os, PermIn 0 d.size d d' ∧ SortedIn (ltOf cf) 0 d.size d' ∧ w' = sortWorld enc w blk off n d' os := Any.slices_SortFunc Try.laysSlF6_f68 enc h1 cf hO g cb blk off cap d w eg hcmp hH hblk hsz
open Go.RowKit Go.Lib Go.Sort in
theorem Try.slices_SortFunc_f72 {α : Type} [Inhabited α] (enc : α → Value) (h1 : OneCell enc) (cf : α → α → Int) (hO : SWO (ltOf cf)) (g : Nat) (cb : Array Value) (blk off cap : Nat) (d : Array α) (w : World) (eg : ∀ args w, (callFunc g args).run Try.prog w = .ok (.enter g args) w) (hcmp : CmpLays1 Try.prog g cb enc cf blk off d.size w) (hH : Holds enc w blk off d) (hblk : blk < w.heap.size) (hsz : d.size < 4611686018427387904) :
    Calls Try.prog 72 #[.slice (some ⟨blk, off, none⟩) d.size cap, .func (.func g) #[] cb] w fun e w' =>
      e = .returned (.tuple #[]) ∧ ∃ d' n os, PermIn 0 d.size d d' ∧ SortedIn (ltOf cf) 0 d.size d' ∧ w' = sortWorld enc w blk off n d' os := Any.slices_SortFunc Try.laysSlF6_f72 enc h1 cf hO g cb blk off cap d w eg hcmp hH hblk hsz
def Try.laysSlF06_f68_ren : Go.Shelf.Ren := ⟨fun | 6 => 68 | 15 => 79 | 14 => 88 | 28 => 102 | 29 => 103 | 20 => 109 | 21 => 110 | 22 => 111 | 23 => 112 | 24 => 113 | 25 => 114 | 26 => 115 | 27 => 116 | 46 => 132 | 47 => 128 | 48 => 129 | 49 => 133 | 50 => 134 | 57 => 141 | n => n, fun | 22 => 22 | 24 => 32 | 25 => 71 | 3 => 3 | 39 => 80 | 0 => 0 | 53 => 106 | 55 => 108 | 4 => 4 | 46 => 100 | 45 => 99 | 50 => 57 | 5 => 5 | 9 => 9 | 66 => 124 | 70 => 128 | 76 => 139 | 77 => 140 | n => n, fun | n => n⟩
theorem Try.laysSlF06_f68 : Go.Proofs.SlLaysF0.n6 Try.prog Try.laysSlF06_f68_ren := {
  mixed := by kernel_rfl
  f6 := ⟨Try.f68.name, by decide, Try.func68.trans (congrArg some (by kernel_rfl))⟩
  f14 := ⟨Try.f88.name, by decide, Try.func88.trans (congrArg some (by kernel_rfl))⟩
  f15 := Try.func79.trans (congrArg some (by kernel_rfl))
  f20 := ⟨Try.f109.name, by decide, Try.func109.trans (congrArg some (by kernel_rfl))⟩
  f21 := ⟨Try.f110.name, by decide, Try.func110.trans (congrArg some (by kernel_rfl))⟩
  f22 := ⟨Try.f111.name, by decide, Try.func111.trans (congrArg some (by kernel_rfl))⟩
  f23 := ⟨Try.f112.name, by decide, Try.func112.trans (congrArg some (by kernel_rfl))⟩
  f24 := ⟨Try.f113.name, by decide, Try.func113.trans (congrArg some (by kernel_rfl))⟩
  f25 := ⟨Try.f114.name, by decide, Try.func114.trans (congrArg some (by kernel_rfl))⟩
  f26 := ⟨Try.f115.name, by decide, Try.func115.trans (congrArg some (by kernel_rfl))⟩
  f27 := ⟨Try.f116.name, by decide, Try.func116.trans (congrArg some (by kernel_rfl))⟩
  f28 := Try.func102.trans (congrArg some (by kernel_rfl))
  f29 := Try.func103.trans (congrArg some (by kernel_rfl))
  f46 := ⟨Try.f132.name, by decide, Try.func132.trans (congrArg some (by kernel_rfl))⟩
  f47 := Try.func128.trans (congrArg some (by kernel_rfl))
  f48 := Try.func129.trans (congrArg some (by kernel_rfl))
  f49 := ⟨Try.f133.name, by decide, Try.func133.trans (congrArg some (by kernel_rfl))⟩
  f50 := ⟨Try.f134.name, by decide, Try.func134.trans (congrArg some (by kernel_rfl))⟩
  f57 := ⟨Try.f141.name, by decide, Try.func141.trans (congrArg some (by kernel_rfl))⟩
  t0 := Try.underlying0
  a0 := Try.isAgg0
  z0 := Try.sizeOf0
  v0 := Try.zeroValue0
  t3 := Try.underlying3
  a3 := Try.isAgg3
  z3 := Try.sizeOf3
  v3 := Try.zeroValue3
  t4 := Try.underlying4
  a4 := Try.isAgg4
  z4 := Try.sizeOf4
  v4 := Try.zeroValue4
  t5 := Try.underlying5
  a5 := Try.isAgg5
  z5 := Try.sizeOf5
  v5 := Try.zeroValue5
  t9 := Try.underlying9
  a9 := Try.isAgg9
  z9 := Try.sizeOf9
  v9 := Try.zeroValue9
  t22 := Try.underlying22
  a22 := Try.isAgg22
  z22 := Try.sizeOf22
  v22 := Try.zeroValue22
  t25 := Try.underlying71
  a25 := Try.isAgg71
  z25 := Try.sizeOf71
  v25 := Try.zeroValue71
  t39 := Try.underlying80
  a39 := Try.isAgg80
  z39 := Try.sizeOf80
  v39 := Try.zeroValue80
  t45 := Try.underlying99
  a45 := Try.isAgg99
  z45 := Try.sizeOf99
  v45 := Try.zeroValue99
  t46 := Try.underlying100
  a46 := Try.isAgg100
  z46 := Try.sizeOf100
  v46 := Try.zeroValue100
  t50 := Try.underlying57
  a50 := Try.isAgg57
  z50 := Try.sizeOf57
  v50 := Try.zeroValue57
  t53 := Try.underlying106
  a53 := Try.isAgg106
  z53 := Try.sizeOf106
  v53 := Try.zeroValue106
  t55 := Try.underlying108
  a55 := Try.isAgg108
  z55 := Try.sizeOf108
  v55 := Try.zeroValue108
  t66 := Try.underlying124
  a66 := Try.isAgg124
  z66 := Try.sizeOf124
  v66 := Try.zeroValue124
  t70 := Try.underlying128
  a70 := Try.isAgg128
  z70 := Try.sizeOf128
  v70 := Try.zeroValue128
  t76 := Try.underlying139
  a76 := Try.isAgg139
  z76 := Try.sizeOf139
  v76 := Try.zeroValue139
  t77 := Try.underlying140
  a77 := Try.isAgg140
  z77 := Try.sizeOf140
  v77 := Try.zeroValue140 }
open Go.RowKit Go.Lib Go.Sort in
theorem Try.slices_SortFunc_none_f68 {α : Type} [Inhabited α] (p : Option Addr) (cap : Nat) (fv : Value) (w : World) :
    Calls Try.prog 68 #[.slice p 0 cap, fv] w fun e w' => e = .returned (.tuple #[]) ∧ w' = w := AnyF.slices_SortFunc_none Try.laysSlF06_f68 p cap fv w
def Try.laysSlF06_f72_ren : Go.Shelf.Ren := ⟨fun | 6 => 72 | 15 => 79 | 14 => 92 | 28 => 102 | 29 => 103 | 20 => 119 | 21 => 120 | 22 => 121 | 23 => 122 | 24 => 123 | 25 => 124 | 26 => 125 | 27 => 126 | 46 => 137 | 47 => 128 | 48 => 129 | 49 => 138 | 50 => 139 | 57 => 142 | n => n, fun | 22 => 32 | 24 => 3 | 25 => 76 | 3 => 3 | 39 => 80 | 0 => 0 | 53 => 106 | 55 => 108 | 4 => 4 | 46 => 100 | 45 => 99 | 50 => 57 | 5 => 5 | 9 => 9 | 66 => 124 | 70 => 128 | 76 => 139 | 77 => 140 | n => n, fun | n => n⟩
theorem Try.laysSlF06_f72 : Go.Proofs.SlLaysF0.n6 Try.prog Try.laysSlF06_f72_ren := {
  mixed := by kernel_rfl
  f6 := ⟨Try.f72.name, by decide, Try.func72.trans (congrArg some (by kernel_rfl))⟩
  f14 := ⟨Try.f92.name, by decide, Try.func92.trans (congrArg some (by kernel_rfl))⟩
  f15 := Try.func79.trans (congrArg some (by kernel_rfl))
  f20 := ⟨Try.f119.name, by decide, Try.func119.trans (congrArg some (by kernel_rfl))⟩
  f21 := ⟨Try.f120.name, by decide, Try.func120.trans (congrArg some (by kernel_rfl))⟩
  f22 := ⟨Try.f121.name, by decide, Try.func121.trans (congrArg some (by kernel_rfl))⟩
  f23 := ⟨Try.f122.name, by decide, Try.func122.trans (congrArg some (by kernel_rfl))⟩
  f24 := ⟨Try.f123.name, by decide, Try.func123.trans (congrArg some (by kernel_rfl))⟩
  f25 := ⟨Try.f124.name, by decide, Try.func124.trans (congrArg some (by kernel_rfl))⟩
  f26 := ⟨Try.f125.name, by decide, Try.func125.trans (congrArg some (by kernel_rfl))⟩
  f27 := ⟨Try.f126.name, by decide, Try.func126.trans (congrArg some (by kernel_rfl))⟩
  f28 := Try.func102.trans (congrArg some (by kernel_rfl))
  f29 := Try.func103.trans (congrArg some (by kernel_rfl))
  f46 := ⟨Try.f137.name, by decide, Try.func137.trans (congrArg some (by kernel_rfl))⟩
  f47 := Try.func128.trans (congrArg some (by kernel_rfl))
  f48 := Try.func129.trans (congrArg some (by kernel_rfl))
  f49 := ⟨Try.f138.name, by decide, Try.func138.trans (congrArg some (by kernel_rfl))⟩
  f50 := ⟨Try.f139.name, by decide, Try.func139.trans (congrArg some (by kernel_rfl))⟩
  f57 := ⟨Try.f142.name, by decide, Try.func142.trans (congrArg some (by kernel_rfl))⟩
  t0 := Try.underlying0
  a0 := Try.isAgg0
  z0 := Try.sizeOf0
  v0 := Try.zeroValue0
  t3 := Try.underlying3
  a3 := Try.isAgg3
  z3 := Try.sizeOf3
  v3 := Try.zeroValue3
  t4 := Try.underlying4
  a4 := Try.isAgg4
  z4 := Try.sizeOf4
  v4 := Try.zeroValue4
  t5 := Try.underlying5
  a5 := Try.isAgg5
  z5 := Try.sizeOf5
  v5 := Try.zeroValue5
  t9 := Try.underlying9
  a9 := Try.isAgg9
  z9 := Try.sizeOf9
  v9 := Try.zeroValue9
  t22 := Try.underlying32
  a22 := Try.isAgg32
  z22 := Try.sizeOf32
  v22 := Try.zeroValue32
  t25 := Try.underlying76
  a25 := Try.isAgg76
  z25 := Try.sizeOf76
  v25 := Try.zeroValue76
  t39 := Try.underlying80
  a39 := Try.isAgg80
  z39 := Try.sizeOf80
  v39 := Try.zeroValue80
  t45 := Try.underlying99
  a45 := Try.isAgg99
  z45 := Try.sizeOf99
  v45 := Try.zeroValue99
  t46 := Try.underlying100
  a46 := Try.isAgg100
  z46 := Try.sizeOf100
  v46 := Try.zeroValue100
  t50 := Try.underlying57
  a50 := Try.isAgg57
  z50 := Try.sizeOf57
  v50 := Try.zeroValue57
  t53 := Try.underlying106
  a53 := Try.isAgg106
  z53 := Try.sizeOf106
  v53 := Try.zeroValue106
  t55 := Try.underlying108
  a55 := Try.isAgg108
  z55 := Try.sizeOf108
  v55 := Try.zeroValue108
  t66 := Try.underlying124
  a66 := Try.isAgg124
  z66 := Try.sizeOf124
  v66 := Try.zeroValue124
  t70 := Try.underlying128
  a70 := Try.isAgg128
  z70 := Try.sizeOf128
  v70 := Try.zeroValue128
  t76 := Try.underlying139
  a76 := Try.isAgg139
  z76 := Try.sizeOf139
  v76 := Try.zeroValue139
  t77 := Try.underlying140
  a77 := Try.isAgg140
  z77 := Try.sizeOf140
  v77 := Try.zeroValue140 }
open Go.RowKit Go.Lib Go.Sort in
theorem Try.slices_SortFunc_none_f72 {α : Type} [Inhabited α] (p : Option Addr) (cap : Nat) (fv : Value) (w : World) :
    Calls Try.prog 72 #[.slice p 0 cap, fv] w fun e w' => e = .returned (.tuple #[]) ∧ w' = w := AnyF.slices_SortFunc_none Try.laysSlF06_f72 p cap fv w
end Go.Proofs
namespace Go.Proofs.Ytdknhgbjgdmfkaa.P
open Go.RowKit Go.Lib Go.Sort Go.Proofs.YtdknhgbjgdmfkaaW.PrintWords Go.Proofs.YtdknhgbjgdmfkaaW.PrintLast Go.Proofs.YtdknhgbjgdmfkaaW.PrintMore
abbrev dI : Kd Int := Kd.int .i64
abbrev dB : Kd Bool := Kd.bool
abbrev dG : Kd (List Int) := Kd.slice 3 (Kd.int .i64)
theorem C_ints {w : World} {A : Option Addr} {n : Nat} {xs : List Int} (h : dI.C w A n xs) (hp : 0 < n) :
    ∃ b off, A = some ⟨b, off, none⟩ ∧ xs.length = n ∧ ∀ j, j < xs.length → w.cell? ⟨b, off + j, none⟩ = some (.int .i64 (xs.getD j 0)) := by
  obtain ⟨hl, _, hc0⟩ := h
  obtain ⟨ad, rfl, hc⟩ := hc0 hp
  have hc' : ∀ i, i < xs.length → w.cell? (ad.add i) = some (.int .i64 (xs.getD i 0)) := by
    intro i hi
    obtain ⟨c, _, hk, hcc⟩ := hc i _ (List.getElem?_eq_getElem hi)
    have hk' : c = [.int .i64 xs[i]] := hk
    subst hk'
    have h2 := hcc 0 _ rfl
    rw [show i * dI.sz + 0 = i from by show i * 1 + 0 = i; omega] at h2
    rw [h2, List.getD_eq_getElem?_getD, List.getElem?_eq_getElem hi]
    rfl
  obtain ⟨b, off, rfl, h3⟩ := ints_at hc' (by omega)
  exact ⟨b, off, rfl, hl, h3⟩
theorem R_ints {w : World} {base : Nat} {ok : Nat → Prop} {v : Value} {xs : List Int} (h : dI.R 3 w base ok v xs) : w.ownsRow base 3 1 v xs.length (xs.map (Value.int .i64)) := Kd.own_of_R h
theorem ints_R {w : World} {base : Nat} {ok : Nat → Prop} {v : Value} {xs : List Int} (ho : w.ownsRow base 3 1 v xs.length (xs.map (Value.int .i64))) (hok : ∀ k, v.ownBlock = some k → ok k) : dI.R 3 w base ok v xs := Kd.R_of_own ho hok
theorem R_ints_form {w : World} {base : Nat} {ok : Nat → Prop} {v : Value} {xs : List Int} (h : dI.R 3 w base ok v xs) :
    (v = .slice none 0 0 ∧ xs = []) ∨ ∃ g cap, v = .slice (some ⟨g, 0, none⟩) xs.length cap ∧ base ≤ g ∧ g < w.heap.size ∧ xs.length ≤ cap ∧ Holds (Value.int .i64) w g 0 xs.toArray := by
  have ho := R_ints h
  by_cases hv : v = .slice none 0 0
  · refine .inl ⟨hv, ?_⟩
    subst hv
    rcases ho.2 with ⟨_, h0⟩ | ⟨g, cap, cur, he, _⟩
    · exact List.eq_nil_of_length_eq_zero h0
    · cases he
  · obtain ⟨g, cap, rfl, hb, hlt, hn, _, _, hH⟩ := holds_of_ownsRow ho hv
    exact .inr ⟨g, cap, rfl, hb, hlt, hn, hH⟩
theorem R_put {w : World} {base g n cap q : Nat} {ok : Nat → Prop} {xs zs ys : List Int} (h : dI.R 3 w base ok (.slice (some ⟨g, 0, none⟩) xs.length cap) xs) (hz : zs.length = xs.length) (hn : n = ys.length) (hy : ys = zs.take ys.length) (hle : ys.length ≤ xs.length) :
    dI.R 3 (putRow (Value.int .i64) (Sort.ahead w q) g 0 zs.toArray) base ok (.slice (some ⟨g, 0, none⟩) n cap) ys := by
  subst hn
  refine ints_R ?_ (fun k hk => h.1 k (by simpa [Value.ownBlock] using hk))
  have h1 := ownsRow_putRow (q := q) (ys := zs) (k := ys.length) (R_ints h) hz hle
  rw [← hy] at h1
  exact h1
theorem below_putRow' {w : World} {base g q : Nat} {d : Array Int} (hg : base ≤ g) : Below base w (putRow (Value.int .i64) (Sort.ahead w q) g 0 d) := below_putRow (Below.refl _ _) hg
theorem below_grow {B : Nat} {a w : World} (h : Below B a w) (hB : B ≤ w.heap.size) (os : Array Obj) : Below B a (grow w os) :=
  ⟨h.os, h.tape, h.output, by have := h.size; simp [grow]; omega, fun k hk => by
    rw [← h.block k hk]
    show (w.heap ++ os)[k]? = _
    rw [Array.getElem?_append_left (by omega)]⟩
theorem R_growos {w : World} {base : Nat} {ok : Nat → Prop} {v : Value} {xs : List Int} (h : dI.R 3 w base ok v xs) (os : Array Obj) : dI.R 3 (grow w os) base ok v xs :=
  Kd.R_below h (below_grow (Below.refl _ _) (Nat.le_refl _) os)
theorem size_alloc1 (w : World) (o : Obj) : (w.alloc o).heap.size = w.heap.size + 1 := by
  show (w.heap.push o).size = _
  simp
theorem le_alloc1 (w : World) (o : Obj) : w.heap.size + 1 ≤ (w.alloc o).heap.size := Nat.le_of_eq (size_alloc1 w o).symm
theorem box_cell {w w1 : World} {v : Value} {t : Nat} {B : Nat} (hb : Below B (w.alloc (.cells #[v] t)) w1) (hB : w.heap.size < B) : w1.cell? ⟨w.heap.size, 0, none⟩ = some v :=
  (hb.cell (p := ⟨w.heap.size, 0, none⟩) hB).trans (by simp)
theorem cell_later {w w1 : World} {B g o : Nat} {v : Value} (hb : Below B w w1) (hc : w.cell? ⟨g, o, none⟩ = some v) (hB : g < B) : w1.cell? ⟨g, o, none⟩ = some v := (hb.cell (p := ⟨g, o, none⟩) hB).trans hc
theorem one_cells {W : World} {g : Nat} (hg : g = W.heap.size) (x : Value) (t : Nat) (j : Nat) (u : Value) (h : [x][j]? = some u) : (W.alloc (.cells #[x] t)).cell? ((⟨g, 0, none⟩ : Addr).add j) = some u := by
  subst hg
  match j, h with
  | 0, h => simpa [Go.WideShapes.add_plain] using h
  | j + 1, h => simp at h
theorem two_cells {W : World} {g : Nat} (hg : g = W.heap.size) (x y : Value) (t : Nat) (j : Nat) (u : Value) (h : [x, y][j]? = some u) : (W.alloc (.cells #[x, y] t)).cell? ((⟨g, 0, none⟩ : Addr).add j) = some u := by
  subst hg
  match j, h with
  | 0, h => simpa [Go.WideShapes.add_plain] using h
  | 1, h => simpa [Go.WideShapes.add_plain] using h
  | j + 2, h => simp at h
theorem size_s (w : World) (q : Nat) (p : Addr) (u : Value) : w.heap.size = ((w.drewN q).setCell p u).heap.size := by simp [World.setCell]
theorem size_sa (w : World) (q : Nat) (p : Addr) (u : Value) (o : Obj) : (((w.drewN q).setCell p u).alloc o).heap.size = w.heap.size + 1 := by
  rw [size_alloc1]
  simp [World.setCell]
theorem S_setrow {wr w5 : World} {base go n cap k : Nat} {v5 : Value} {xs : List (List Int)} {row : List Int} (h : Kd.S dG 32 wr base (fun _ => True) (.slice (some ⟨go, 0, none⟩) n cap) xs) (hk : k < n)
    (hb : Below wr.heap.size wr w5) (ho : dI.R 3 w5 wr.heap.size (fun _ => True) v5 row) :
    (∃ u, w5.cell? ⟨go, k, none⟩ = some u ∧ w5.frozen? ⟨go, k, none⟩ = false) ∧ Kd.S dG 32 (w5.setCell ⟨go, k, none⟩ v5) base (fun _ => True) (.slice (some ⟨go, 0, none⟩) n cap) (xs.set k row) := by
  have hbase : base ≤ go ∧ go < wr.heap.size := ⟨Kd.S_base h go (by simp [Value.ownBlock]), Kd.S_lt h go (by simp [Value.ownBlock])⟩
  have hv : ∀ b, v5.ownBlock = some b → wr.heap.size ≤ b := fun b hb' => own_base (R_ints ho) b hb'
  have h2 : Kd.S dG 32 w5 base (fun b => True ∧ ¬ (some b = v5.ownBlock)) (.slice (some ⟨go, 0, none⟩) n cap) xs :=
    Kd.S_mono (Kd.S_below (Kd.S_bound h) hb) (fun b hb' => ⟨trivial, fun e => by have := hv b e.symm; have := hb'.2.2.1; omega⟩)
  obtain ⟨oki, c, hcl, _, hcc, hfr, _, hH⟩ := Kd.S_elem h2 [] (k : Int) (by omega) (by omega)
  have hs1 : dG.sz = 1 := rfl
  obtain ⟨u, rfl⟩ : ∃ u, c = [u] := List.length_eq_one_iff.1 (hcl.trans hs1)
  have hu := hcc 0 u rfl
  have hf := hfr 0
  rw [hs1, Int.toNat_natCast, Nat.mul_one, Nat.add_zero] at hu hf
  refine ⟨⟨u, hu, hf⟩, ?_⟩
  have hP := Kd.S_seg (okg := fun b => some b = v5.ownBlock) hH (by omega) (by omega) (seg := [v5]) (j := 0) (show 0 + 1 ≤ 1 from Nat.le_refl _) (x' := row) (okp := fun b => some b = v5.ownBlock)
    ⟨v5, rfl, Kd.R_lower (Kd.R_tight rfl ho) (by omega)⟩ (fun _ hb' => .inr hb') (fun b hb' => ⟨trivial, fun e => by have := hv b hb'.symm; omega⟩)
  have hP1 := hP.1
  rw [hs1, Int.toNat_natCast, Nat.mul_one, Nat.add_zero] at hP1
  exact hP1
end Go.Proofs.Ytdknhgbjgdmfkaa.P
namespace Go.Proofs.Ytdknhgbjgdmfkaa.P
open Go.RowKit Go.Lib Go.Sort Go.Shelf Go.Proofs.YtdknhgbjgdmfkaaW.PrintWords Go.Proofs.YtdknhgbjgdmfkaaW.PrintLast Go.Proofs.YtdknhgbjgdmfkaaW.PrintMore
theorem clone_c (A : Option Addr) (c : Nat) (xs : List Int) (w : World) (h : dI.C w A xs.length xs) (hb : xs.length * 8 ≤ 140737488355328) :
    Calls Try.prog 51 #[.slice A xs.length c] w fun e w' => ∃ v, e = .returned v ∧ dI.R 3 w' w.heap.size (fun _ => True) v xs ∧ Below w.heap.size w w' := by
  cases A with
  | none =>
    have hn : xs.length = 0 := by
      rcases Nat.eq_zero_or_pos xs.length with h0 | h0
      · exact h0
      · obtain ⟨ad, he, _⟩ := h.2.2 h0
        cases he
    obtain rfl := List.eq_nil_of_length_eq_zero hn
    refine (Try.slices_Clone_int_nil _ _ w).mono ?_
    rintro e w' ⟨rfl, rfl⟩
    exact ⟨_, rfl, Kd.R_nil _ _ _ _ _, Below.refl _ _⟩
  | some a =>
    rcases Nat.eq_zero_or_pos xs.length with h0 | h0
    · obtain rfl := List.eq_nil_of_length_eq_zero h0
      refine (Try.slices_Clone_int_zero a c w).mono ?_
      rintro e w' ⟨v, rfl, ho, _, hB⟩
      exact ⟨_, rfl, ints_R ho (fun _ _ => trivial), hB⟩
    · obtain ⟨b, off, he, _, hc⟩ := C_ints h h0
      cases he
      refine (Try.slices_Clone_int b off xs.length c xs w (Nat.le_refl _) hb hc).mono ?_
      rintro e w' ⟨v, rfl, ho, _, hB⟩
      rw [List.take_length] at ho
      exact ⟨_, rfl, ints_R ho (fun _ _ => trivial), hB⟩
theorem sort_c (v : Value) (xs : List Int) (base : Nat) (ok : Nat → Prop) (w : World) (h : dI.R 3 w base ok v xs) (hb : xs.length < 4611686018427387904) (hw : base ≤ w.heap.size) :
    Calls Try.prog 54 #[v] w fun e w' => e = .returned (.tuple #[]) ∧ dI.R 3 w' base ok v (xs.mergeSort fun x y => decide (x ≤ y)) ∧ Below base w w' := by
  rcases R_ints_form h with ⟨rfl, rfl⟩ | ⟨g, cap, rfl, hbg, hlt, hn, hH⟩
  · refine (Try.slices_Sort_int_none none 0 w).mono ?_
    rintro e w' ⟨rfl, rfl⟩
    exact ⟨rfl, by simpa using h, Below.refl _ _⟩
  · refine (Try.slices_Sort_int g 0 cap xs w hH hlt hb).mono ?_
    rintro e w' ⟨rfl, n, os, rfl⟩
    refine ⟨rfl, R_growos ?_ os, below_grow (below_putRow' hbg) (by simp [putRow, mapBlock, Sort.ahead]; omega) os⟩
    exact R_put h (by simp) (by simp) (by rw [List.take_of_length_le (Nat.le_refl _)]) (by simp)
theorem compact_c (v : Value) (xs : List Int) (base : Nat) (ok : Nat → Prop) (w : World) (h : dI.R 3 w base ok v xs) (hb : xs.length ≤ 9223372036854775807) :
    Calls Try.prog 55 #[v] w fun e w' => ∃ v', e = .returned v' ∧ dI.R 3 w' base ok v' (Lib.compact xs) ∧ Below base w w' := by
  rcases R_ints_form h with ⟨rfl, rfl⟩ | ⟨g, cap, rfl, hbg, hlt, hn, hH⟩
  · refine (Try.slices_Compact_int_empty none 0 w).mono ?_
    rintro e w' ⟨rfl, rfl⟩
    exact ⟨_, rfl, h, Below.refl _ _⟩
  · have hle := Lib.compact_length_le xs
    refine (Try.slices_Compact_int g 0 cap xs w hH hb hn).mono ?_
    rintro e w' ⟨rfl, q, rfl⟩
    refine ⟨_, rfl, R_put h ?_ rfl ?_ hle, below_putRow' hbg⟩
    · rw [List.length_append, List.length_replicate]; omega
    · rw [List.take_left']; rfl
set_option maxHeartbeats 1000000 in
theorem del_nil_c (fv : Value) (w : World) :
    Calls Try.prog 50 #[.slice none 0 0, fv] w fun e w' => e = .returned (.slice none 0 0) ∧ w' = w := by
  have hi : ∀ W, Calls Try.prog 77 #[.slice none 0 0, fv] W fun e w' => e = .returned (.int .i64 (-1)) ∧ w' = W := fun W => Try.slices_IndexFunc_empty (α := Int) none 0 fv W
  go_enter Try.func50, Try.ntmps50
  go_wp2_with (go_at_call 77; refine (hi _).mono ?_; rintro e w' ⟨rfl, rfl⟩)
  go_ret
  exact ⟨rfl, rfl⟩
theorem del_c (g : Nat) (lb : Array Value) (p : Int → Bool) (eg : ∀ args w, (callFunc g args).run Try.prog w = .ok (.enter g args) w) (v : Value) (xs : List Int) (base : Nat) (ok : Nat → Prop) (w : World)
    (hp : ∀ W x, Below base w W → FnGives Try.prog g lb #[.int .i64 x] (.bool (p x)) W) (h : dI.R 3 w base ok v xs) (hb : xs.length ≤ 9223372036854775807) (hw : base ≤ w.heap.size) :
    Calls Try.prog 50 #[v, .func (.func g) #[] lb] w fun e w' => ∃ v', e = .returned v' ∧ dI.R 3 w' base ok v' (xs.filter fun x => !p x) ∧ Below base w w' := by
  rcases R_ints_form h with ⟨rfl, rfl⟩ | ⟨gb, cap, rfl, hbg, hlt, hn, hH⟩
  · refine (del_nil_c _ w).mono ?_
    rintro e w' ⟨rfl, rfl⟩
    exact ⟨_, rfl, h, Below.refl _ _⟩
  · have hle : (xs.filter fun x => !p x).length ≤ xs.length := List.length_filter_le _ _
    have hc := Try.slices_DeleteFunc (Value.int .i64) (fun _ => rfl) p g lb eg 0 Try.zeroValue3 gb 0 cap xs.toArray w
      (fun W x hB => hp W x (hB.mono hw)) (fun n os dk x hd => hp _ x (below_grow (below_putRow' hbg) (by simp [putRow, mapBlock, Sort.ahead]; omega) os)) hH (by simpa using hb) (by simpa using hn)
    simp only [List.size_toArray] at hc
    refine hc.mono ?_
    rintro e w' ⟨rfl, q, rfl⟩
    refine ⟨_, rfl, R_put h ?_ rfl ?_ hle, below_putRow' hbg⟩
    · rw [List.length_append, List.length_replicate]; omega
    · rw [List.take_left']; rfl
set_option maxHeartbeats 1000000 in
theorem cleanfn_gives (x : Int) (B : Nat) (A : Option Addr) (n c : Nat) (W : World) (hc : W.cell? ⟨B, 0, none⟩ = some (.slice A n c)) :
    FnGives Try.prog 52 #[.pointer (some ⟨B, 0, none⟩)] #[.int .i64 x] (.bool (!isN n x)) W := by
  show Calls Try.prog 52 #[.int .i64 x, .pointer (some ⟨B, 0, none⟩)] W _
  have hq : (!isN n x) = (!(decide (0 ≤ x) && decide (x < (n : Int)))) := by unfold isN; rw [Bool.decide_and]
  rw [hq]
  clear hq
  by_cases h1 : 0 ≤ x
  · by_cases h2 : x < (n : Int)
    · go_enter Try.func52, Try.ntmps52
      go_wp2
      go_ret
      exact ⟨by simp [h1, h2], 0, rfl⟩
    · go_enter Try.func52, Try.ntmps52
      go_wp2
      go_ret
      exact ⟨by simp [h2], 0, rfl⟩
  · go_enter Try.func52, Try.ntmps52
    go_wp2
    go_ret
    exact ⟨by simp [h1], 0, rfl⟩
set_option maxHeartbeats 1000000 in
theorem is_c (x : Int) (A : Option Addr) (n c : Nat) (w : World) : Calls Try.prog 53 #[.slice A n c, .int .i64 x] w fun e w' => e = .returned (.bool (isN n x)) ∧ w = w' := by
  have hq : isN n x = (decide (0 ≤ x) && decide (x < (n : Int))) := by unfold isN; rw [Bool.decide_and]
  rw [hq]
  clear hq
  by_cases h1 : 0 ≤ x
  · by_cases h2 : x < (n : Int)
    · go_enter Try.func53, Try.ntmps53
      go_wp2
      go_ret
      exact ⟨by simp [h1, h2], rfl⟩
    · go_enter Try.func53, Try.ntmps53
      go_wp2
      go_ret
      exact ⟨by simp [h2], rfl⟩
  · go_enter Try.func53, Try.ntmps53
    go_wp2
    go_ret
    exact ⟨by rw [decide_eq_false (show ¬ 0 ≤ x by omega)]; rfl, rfl⟩
theorem rd_nat (g : List (List Int)) (k : Nat) (hk : k < g.length) : rd_L1 g k = g[k] := by
  unfold rd_L1
  rw [Int.toNat_natCast, List.getD_eq_getElem?_getD, List.getElem?_eq_getElem hk]
  rfl
set_option maxHeartbeats 4000000 in
set_option maxRecDepth 100000 in
theorem graph_Clean.calls (A0 : Option Addr) (c0 : Nat) (l0 : List (List Int)) (r : List (List Int)) (w : World) (hr0 : Kd.C (Kd.slice 3 (Kd.int .i64)) w A0 l0.length l0) (hc0 : l0.length ≤ c0) (h : graph_Clean.f l0 = some r) :
    Calls Try.prog 16 #[.slice A0 l0.length c0] w fun e w' => ∃ v0_ : Value, e = .returned v0_ ∧ Kd.S (Kd.slice 3 (Kd.int .i64)) 32 w' w.heap.size (fun _ => True) v0_ r ∧ Below w.heap.size w w' := by
  have HR0 := Aside0.mk hr0
  have HC0 := Aside0.mk hc0
  have HF : Aside0 (fits l0 = true ∧ r = clean l0) := by
    unfold graph_Clean.f at h
    split at h
    · exact ⟨⟨by assumption, (Option.some.inj h).symm⟩⟩
    · cases h
  clear hr0 hc0 h
  have hn : l0.length ≤ 100000 := by
    have := HF.out.1
    unfold fits at this
    simp at this
    exact this.1
  have hz : 0 ≤ (l0.length : Int) := by omega
  go_enter Try.func16, Try.ntmps16
  go_wp2_with ((with_reducible refine gate_dst (N := 9) rfl ?_); refine Kd.S_make (Kd.slice 3 (Kd.int .i64)) (w0 := w.alloc (.cells #[.slice A0 l0.length c0] 22)) (w.heap.size + 1) 32 rfl (N := 9) rfl 22 _ _ rfl (l0.length : Int) rfl rfl Try.underlying22 (.slice none 0 0) 24 info32 rfl Nat.one_pos (by omega) [] (ok := fun _ => True) (okp := fun _ => True) ⟨_, rfl, Kd.R_nil _ _ _ _ _⟩ (fun _ hk => hk) trivial hz (by omega) (Below.refl _ _) (le_alloc1 _ _) ?_; intro v1 w1 ho1 hb1 hg1 hn1; clear hg1 hn1; have hbx := box_cell hb1 (Nat.lt_succ_self _); rw [Int.toNat_natCast, ← cleanSo_zero] at ho1; have HS := Aside0.mk ho1; have HB := Aside0.mk hb1; clear ho1 hb1)
  go_loopw [12] (fun v12 wr => ∃ k : Nat, v12 = .int .i64 k ∧ k ≤ l0.length ∧ Aside0 (Kd.S (Kd.slice 3 (Kd.int .i64)) 32 wr (w.heap.size + 1) (fun _ => True) v1 (cleanSo l0 k)) ∧ Aside0 (Below (w.heap.size + 1) (w.alloc (.cells #[.slice A0 l0.length c0] 22)) wr)) (fun v12 _ => l0.length - (intOf v12).toNat)
  case atStart => exact ⟨0, rfl, Nat.zero_le _, HS, HB⟩
  case round =>
    obtain ⟨k, rfl, hk, HSr, HBr⟩ := hrel
    clear HS HB hbx
    by_cases hlt : k < l0.length
    · have hbx := box_cell HBr.out (Nat.lt_succ_self _)
      obtain ⟨ad, A1, c1, e1, hx1, hl1, hC1⟩ := at_L1 HR0.out (k : Int) (by omega) (by omega)
      subst e1
      have hBw : Below w.heap.size w wr := below_step (below_alloc (Below.refl _ _) _) (HBr.out.mono (Nat.le_of_eq (size_alloc1 _ _)))
      replace hx1 := (hBw.cell (World.block_lt_of_cell? w _ hx1)).trans hx1
      replace hC1 := Kd.C_below hC1 hBw
      rw [Int.toNat_natCast] at hx1
      have hrow : Aside0 ((rd_L1 l0 k).length ≤ 100000 ∧ cleanRow l0.length (rd_L1 l0 k) = cleanRow l0.length l0[k]) := by
        rw [rd_nat l0 k hlt]
        exact ⟨fits_row HF.out.1 hlt, rfl⟩
      obtain ⟨row, er⟩ : ∃ row, row = rd_L1 l0 k := ⟨_, rfl⟩
      rw [← er] at hx1 hl1 hC1 hrow
      clear er
      have HC1 := Aside0.mk hC1
      clear hC1 hl1
      have hwz : Aside0 (w.heap.size + 1 ≤ wr.heap.size) := ⟨Nat.le_trans (le_alloc1 _ _) HBr.out.size⟩
      obtain ⟨go, capo, e0, hgo, hgl, _⟩ := Kd.S_form HSr.out (by rw [cleanSo_len _ _ hk]; omega)
      rw [cleanSo_len _ _ hk] at e0
      subst e0
      have hgo' : Aside0 (w.heap.size + 1 ≤ go ∧ go < wr.heap.size) := ⟨hgo, hgl⟩
      clear hgo hgl
      go_wp2_with (go_at_call 51; refine (clone_c _ _ row _ HC1.out (by have := hrow.out.1; omega)).mono ?_; rintro e w2 ⟨v2, rfl, ho2, hb2⟩; have HO2 := Aside0.mk ho2; have HB2 := Aside0.mk hb2; clear ho2 hb2; have hbx2 := cell_later HB2.out hbx (by have := hwz.out; omega))
      go_wp2_with (go_at_call 50; refine (del_c 52 _ (fun x => !isN l0.length x) (enters_of Try.func52 (by kernel_rfl) rfl) v2 row wr.heap.size (fun _ => True) w2 (fun W x hW => cleanfn_gives x _ _ _ _ W (cell_later hW hbx2 (by have := hwz.out; omega))) HO2.out (by have := hrow.out.1; omega) HB2.out.size).mono ?_; rintro e w3 ⟨v3, rfl, ho3, hb3⟩; have HO3 := Aside0.mk ho3; have HB3 := Aside0.mk (HB2.out.trans hb3); clear ho3 hb3 HO2 HB2 hbx2)
      go_wp2_with (go_at_call 54; refine (sort_c v3 _ wr.heap.size (fun _ => True) w3 HO3.out (by have := hrow.out.1; have := List.length_filter_le (fun x => !!isN l0.length x) row; omega) HB3.out.size).mono ?_; rintro e w4 ⟨rfl, ho4, hb4⟩; have HO4 := Aside0.mk ho4; have HB4 := Aside0.mk (HB3.out.trans hb4); clear ho4 hb4 HO3 HB3)
      go_wp2_with (go_at_call 55; refine (compact_c v3 _ wr.heap.size (fun _ => True) w4 HO4.out (by simp only [List.length_mergeSort]; have := hrow.out.1; have := List.length_filter_le (fun x => !!isN l0.length x) row; omega)).mono ?_; rintro e w5 ⟨v5, rfl, ho5, hb5⟩; simp only [Bool.not_not] at ho5; have HB5 := Aside0.mk (HB4.out.trans hb5); (obtain ⟨⟨u5, hu5, hf5⟩, hs5⟩ := S_setrow HSr.out hlt HB5.out ho5); have HS5 := Aside0.mk hs5; obtain ⟨A5, c5, rfl⟩ := Kd.R_slice ho5; clear ho5 hb5 HO4 HB4 hs5)
      go_roundw
      case rel =>
        refine ⟨k + 1, by go_num, by omega, ⟨?_⟩, ⟨?_⟩⟩
        · rw [← cleanSo_succ l0 k hlt, ← hrow.out.2]
          exact HS5.out
        · exact HBr.out.trans ((HB5.out.mono hwz.out).setCell hgo'.out.1 _)
      case measure => simp [intOf]; omega
    · obtain rfl : k = l0.length := by omega
      clear hlt
      go_wp2
      go_ret
      have hfin := HSr.out
      rw [cleanSo_all, ← HF.out.2] at hfin
      exact ⟨_, rfl, Kd.S_lower hfin (Nat.le_succ _), below_step (below_alloc (Below.refl _ _) _) (HBr.out.mono (Nat.le_of_eq (size_alloc1 _ _)))⟩
end Go.Proofs.Ytdknhgbjgdmfkaa.P
namespace Go.Proofs.Ytdknhgbjgdmfkaa.P
open Go.RowKit Go.Lib Go.Sort Go.Shelf Go.Proofs.YtdknhgbjgdmfkaaW.PrintWords Go.Proofs.YtdknhgbjgdmfkaaW.PrintLast Go.Proofs.YtdknhgbjgdmfkaaW.PrintMore
def wayCells (st : List (Int × Int)) : List Value := st.reverse.flatMap fun p => [.int .i64 p.1, .int .i64 p.2]
theorem info_step : (Try.prog.info? 82).map (fun i => (i.zero, i.size, i.bytes)) = some (some (.agg #[.int .i64 0, .int .i64 0]), 2, 16) := by kernel_rfl
structure Fr (S : Nat → Prop) (w w' : World) : Prop where
  os : w'.os = w.os
  tape : w'.tape = w.tape
  output : w'.output = w.output
  size : w.heap.size ≤ w'.heap.size
  block : ∀ k, k < w.heap.size → ¬ S k → w'.heap[k]? = w.heap[k]?
theorem Fr.refl (S : Nat → Prop) (w : World) : Fr S w w := ⟨rfl, rfl, rfl, Nat.le_refl _, fun _ _ _ => rfl⟩
theorem Fr.trans {S S' : Nat → Prop} {a b c : World} (h : Fr S a b) (k : Fr S' b c) (hs : ∀ i, S' i → S i ∨ a.heap.size ≤ i) : Fr S a c :=
  ⟨k.os.trans h.os, k.tape.trans h.tape, k.output.trans h.output, Nat.le_trans h.size k.size, fun i hi hn => (k.block i (Nat.lt_of_lt_of_le hi h.size) (fun hh => (hs i hh).elim hn (fun h2 => by omega))).trans (h.block i hi hn)⟩
theorem Fr.below {B : Nat} {S : Nat → Prop} {a b : World} (h : Below B a b) (hS : ∀ i, B ≤ i → S i ∨ a.heap.size ≤ i) : Fr S a b :=
  ⟨h.os, h.tape, h.output, h.size, fun k hk hn => h.block k (by rcases Nat.lt_or_ge k B with h1 | h1; exact h1; rcases hS k h1 with h2 | h2; exact absurd h2 hn; omega)⟩
theorem own_pos {w : World} {base e size m : Nat} {v : Value} {xs : List Value} (h : w.ownsRow base e size v (m + 1) xs) : ∃ g cap, v = .slice (some ⟨g, 0, none⟩) (m + 1) cap ∧ base ≤ g ∧ g < w.heap.size ∧ m + 1 ≤ cap := by
  rcases h.2 with ⟨_, h0⟩ | ⟨g, cap, cur, rfl, hg, hh, hn, _⟩
  · omega
  · refine ⟨g, cap, rfl, hg, ?_, hn⟩
    rcases Nat.lt_or_ge g w.heap.size with h1 | h1
    · exact h1
    · rw [Array.getElem?_eq_none h1] at hh
      cases hh
structure EachSt (I : World → List Int → (Nat → Prop) → Prop) (g : List (List Int)) (n gm cm : Nat) (w : World) (S0 : Nat → Prop) (told : List Int) (k kq : Nat) (v7 : Value) (wr : World) (met : List Bool) (st : List (Int × Int)) (tl : List Int) (S : Nat → Prop) : Prop where
  run : dfs g kq met st tl = some told
  fuel : kq ≤ k ∧ tl.length + kq ≤ k ∧ st.length + kq ≤ k + 1
  lenm : met.length = n
  way : ∀ p ∈ st, 0 ≤ p.1 ∧ p.1 < (n : Int) ∧ 0 ≤ p.2
  own : wr.ownsRow w.heap.size 82 2 v7 st.length (wayCells st)
  omet : dB.R 4 wr w.heap.size (fun _ => True) (.slice (some ⟨gm, 0, none⟩) n cm) met
  inv : I wr tl S
  sub : ∀ i, S i → S0 i ∨ w.heap.size ≤ i
  slt : ∀ i, S i → i < wr.heap.size
  ngm : ¬ S gm
  nway : ∀ b, v7.ownBlock = some b → ¬ S b ∧ b ≠ gm
  fr : Fr S0 w wr
theorem wayCells_cons (p : Int × Int) (st : List (Int × Int)) : wayCells (p :: st) = wayCells st ++ [.int .i64 p.1, .int .i64 p.2] := by simp [wayCells]
theorem wayCells_len (st : List (Int × Int)) : (wayCells st).length = st.length * 2 := by
  induction st with
  | nil => rfl
  | cons p st ih => rw [wayCells_cons, List.length_append, ih]; simp; omega
theorem way_cells {w : World} {base e gw cw : Nat} {a i : Int} {st : List (Int × Int)} (h : w.ownsRow base e 2 (.slice (some ⟨gw, 0, none⟩) (st.length + 1) cw) (st.length + 1) (wayCells ((a, i) :: st))) :
    w.cell? ⟨gw, st.length * 2, none⟩ = some (.int .i64 a) ∧ w.cell? ⟨gw, st.length * 2 + 1, none⟩ = some (.int .i64 i) ∧ w.frozen? ⟨gw, st.length * 2 + 1, none⟩ = false := by
  refine ⟨?_, ?_, h.frozenAt _⟩
  · rw [h.cellAt _ (by omega), wayCells_cons, List.getElem?_append_right (by rw [wayCells_len]; omega), wayCells_len, Nat.sub_self]
    rfl
  · rw [h.cellAt _ (by omega), wayCells_cons, List.getElem?_append_right (by rw [wayCells_len]; omega), wayCells_len, Nat.add_sub_cancel_left]
    rfl
theorem below_fr {B : Nat} {S : Nat → Prop} {a w w' : World} (h : Below B a w) (hf : Fr S w w') (hS : ∀ k, S k → B ≤ k) (hB : B ≤ w.heap.size) : Below B a w' :=
  ⟨hf.os.trans h.os, hf.tape.trans h.tape, hf.output.trans h.output, Nat.le_trans h.size hf.size, fun k hk => (hf.block k (by omega) (fun hs => by have := hS k hs; omega)).trans (h.block k hk)⟩
theorem Fr.drewN (S : Nat → Prop) (w : World) (q : Nat) : Fr S w (w.drewN q) := ⟨rfl, rfl, rfl, Nat.le_refl _, fun _ _ _ => rfl⟩
theorem Fr.setCell {S : Nat → Prop} {a w : World} (h : Fr S a w) {p : Addr} (hp : S p.block ∨ a.heap.size ≤ p.block) (u : Value) : Fr S a (w.setCell p u) :=
  ⟨h.os, h.tape, h.output, by have := h.size; simp [World.setCell]; omega, fun k hk hn => by
    rw [Below.heap_setCell _ _ _ _ (fun e => by rcases hp with h1 | h1; exact hn (e ▸ h1); omega)]
    exact h.block k hk hn⟩
theorem Fr.alloc {S : Nat → Prop} {a w : World} (h : Fr S a w) (o : Obj) : Fr S a (w.alloc o) :=
  ⟨h.os, h.tape, h.output, by have := h.size; have := size_alloc1 w o; omega, fun k hk hn => by
    rw [Below.heap_alloc _ _ _ (Nat.lt_of_lt_of_le hk h.size)]
    exact h.block k hk hn⟩
theorem Fr.grown {S : Nat → Prop} {a w w' : World} {row : Option Nat} (h : Fr S a w) (hg : w.grownBy w' row) (hr : ∀ k, row = some k → S k ∨ a.heap.size ≤ k) : Fr S a w' :=
  ⟨hg.os.trans h.os, hg.tape.trans h.tape, hg.output.trans h.output, Nat.le_trans h.size hg.size, fun k hk hn => by
    rw [hg.block k (Nat.lt_of_lt_of_le hk h.size) (fun e => (hr k e.symm).elim hn (fun h1 => by omega))]
    exact h.block k hk hn⟩
section
variable {I : World → List Int → (Nat → Prop) → Prop} {g : List (List Int)} {n gm cm gw cw m : Nat} {w wr : World} {S0 : Nat → Prop} {told : List Int} {k kq : Nat} {met : List Bool} {st : List (Int × Int)} {tl : List Int} {S : Nat → Prop} {a ii b : Int}
theorem each_frame (hI : ∀ W W' l S, I W l S → W.heap.size ≤ W'.heap.size → (∀ k, S k → W'.heap[k]? = W.heap[k]?) → I W' l S) {v7 : Value} (H : EachSt I g n gm cm w S0 told k kq v7 wr met st tl S) (hv : v7.ownBlock = some gw) (hgm : w.heap.size ≤ gm) (hgw : w.heap.size ≤ gw) {W' : World}
    (hf : Fr (fun i => i = gm ∨ i = gw) wr W') : I W' tl S ∧ Fr S0 w W' :=
  ⟨hI _ _ _ _ H.inv hf.size (fun i hi => hf.block i (H.slt i hi) (fun e => by rcases e with e | e; exact H.ngm (e ▸ hi); exact (H.nway gw hv).1 (e ▸ hi))),
   H.fr.trans hf (fun i e => .inr (by rcases e with e | e <;> omega))⟩
theorem each_push (hI : ∀ W W' l S, I W l S → W.heap.size ≤ W'.heap.size → (∀ k, S k → W'.heap[k]? = W.heap[k]?) → I W' l S) (H : EachSt I g n gm cm w S0 told k (kq + 1) (.slice (some ⟨gw, 0, none⟩) (m + 1) cw) wr met ((a, ii) :: st) tl S) (hm : m = st.length)
    (hgm : w.heap.size ≤ gm ∧ gm < wr.heap.size) (hgw : w.heap.size ≤ gw ∧ gw < wr.heap.size) (hl : ii < ((g.getD a.toNat []).length : Int)) (hb : b = (g.getD a.toNat []).getD ii.toNat 0) (hbn : 0 ≤ b ∧ b < (n : Int)) (hmb : rdOf false met b = false)
    {W1 w2 : World} {v' : Value} {q : Nat} {o : Obj} (hW : W1 = ((wr.drewN q).setCell ⟨gm, b.toNat, none⟩ (.bool true)).alloc o) (ho : w2.ownsRow w.heap.size 82 2 v' (m + 1 + 1) (wayCells ((a, ii) :: st) ++ [.int .i64 b, .int .i64 0])) (hgr : W1.grownBy w2 (some gw))
    (hat : v'.ownBlock = some gw ∨ v'.ownBlock = some W1.heap.size) : EachSt I g n gm cm w S0 told k kq v' w2 (met.set b.toNat true) ((b, 0) :: (a, ii) :: st) tl S := by
  have hmgw : gw ≠ gm := (H.nway gw (by simp [Value.ownBlock])).2
  have hsz : W1.heap.size = wr.heap.size + 1 := by rw [hW, size_alloc1]; simp [World.setCell]
  have hfr : Fr (fun i => i = gm ∨ i = gw) wr w2 := by
    have h1 : Fr (fun i => i = gm ∨ i = gw) wr W1 := by rw [hW]; exact ((Fr.drewN _ wr q).setCell (.inl (.inl rfl)) _).alloc _
    exact h1.grown hgr (fun i e => .inl (.inr (by injection e with e; exact e.symm)))
  obtain ⟨h1, h2⟩ := each_frame hI H (by simp [Value.ownBlock]) hgm.1 hgw.1 hfr
  have hmt : met.getD b.toNat true = false := by
    have hlt : b.toNat < met.length := by have := H.lenm; omega
    unfold rdOf at hmb
    rw [List.getD_eq_getElem?_getD, List.getElem?_eq_getElem hlt] at hmb ⊢
    exact hmb
  refine ⟨dfs_push H.run hl hb hmt, ?_, by rw [List.length_set]; exact H.lenm, ?_, ?_, ?_, h1, H.sub, fun i hi => Nat.lt_of_lt_of_le (H.slt i hi) hfr.size, H.ngm, ?_, h2⟩
  · have := H.fuel
    simp only [List.length_cons] at this ⊢
    omega
  · intro p hp
    rcases List.mem_cons.1 hp with rfl | hp
    · exact ⟨hbn.1, hbn.2, Int.le_refl _⟩
    · exact H.way p hp
  · rw [wayCells_cons, List.length_cons, List.length_cons, ← hm]
    exact ho
  · have h3 : dB.R 4 W1 w.heap.size (fun _ => True) (.slice (some ⟨gm, 0, none⟩) n cm) (met.set b.toNat true) := by
      rw [hW]
      exact Kd.R_alloc (Kd.R_putn (Kd.R_drewN H.omet q) b true) o
    exact Kd.R_mono (Kd.R_grown (Kd.R_tight rfl h3) hgr (fun i hi e => by simp only [Value.ownBlock] at hi; rw [hi] at e; injection e with e; exact hmgw e.symm)) (fun _ _ => trivial)
  · intro b' hb'
    rcases hat with e | e
    · rw [e] at hb'
      injection hb' with hb'
      subst hb'
      exact H.nway _ (by simp [Value.ownBlock])
    · rw [e] at hb'
      injection hb' with hb'
      refine ⟨fun hs => ?_, by omega⟩
      have := H.slt _ hs
      omega
theorem wayCells_set : (wayCells ((a, ii) :: st)).set (st.length * 2 + 1) (.int .i64 (ii + 1)) = wayCells ((a, ii + 1) :: st) := by
  rw [wayCells_cons, wayCells_cons, List.set_append_right _ _ (by rw [wayCells_len]; omega), wayCells_len, Nat.add_sub_cancel_left]
  rfl
theorem each_skip (hI : ∀ W W' l S, I W l S → W.heap.size ≤ W'.heap.size → (∀ k, S k → W'.heap[k]? = W.heap[k]?) → I W' l S) (H : EachSt I g n gm cm w S0 told k (kq + 1) (.slice (some ⟨gw, 0, none⟩) (m + 1) cw) wr met ((a, ii) :: st) tl S) (hm : m = st.length)
    (hgm : w.heap.size ≤ gm) (hgw : w.heap.size ≤ gw) (hl : ii < ((g.getD a.toNat []).length : Int)) (hb : b = (g.getD a.toNat []).getD ii.toNat 0) (hbn : 0 ≤ b ∧ b < (n : Int)) (hmb : rdOf false met b = true) (q : Nat) :
    EachSt I g n gm cm w S0 told k kq (.slice (some ⟨gw, 0, none⟩) (m + 1) cw) ((wr.drewN q).setCell ⟨gw, m * 2 + 1, none⟩ (.int .i64 (ii + 1))) met ((a, ii + 1) :: st) tl S := by
  have hmgw : gw ≠ gm := (H.nway gw (by simp [Value.ownBlock])).2
  have hfr : Fr (fun i => i = gm ∨ i = gw) wr ((wr.drewN q).setCell ⟨gw, m * 2 + 1, none⟩ (.int .i64 (ii + 1))) := (Fr.drewN _ wr q).setCell (.inl (.inr rfl)) _
  obtain ⟨h1, h2⟩ := each_frame hI H (by simp [Value.ownBlock]) hgm hgw hfr
  have hmt : met.getD b.toNat true = true := by
    have hlt : b.toNat < met.length := by have := H.lenm; omega
    unfold rdOf at hmb
    rw [List.getD_eq_getElem?_getD, List.getElem?_eq_getElem hlt] at hmb ⊢
    exact hmb
  refine ⟨dfs_skip H.run hl hb hmt, ?_, H.lenm, ?_, ?_, ?_, h1, H.sub, fun i hi => Nat.lt_of_lt_of_le (H.slt i hi) hfr.size, H.ngm, H.nway, h2⟩
  · have := H.fuel
    simp only [List.length_cons] at this ⊢
    omega
  · intro p hp
    rcases List.mem_cons.1 hp with rfl | hp
    · have := H.way (a, ii) List.mem_cons_self
      exact ⟨this.1, this.2.1, by have := this.2.2; simp only at this ⊢; omega⟩
    · exact H.way p (List.mem_cons_of_mem _ hp)
  · have h3 := H.own
    rw [List.length_cons, ← hm] at h3 ⊢
    have h4 := World.ownsRow.stored (w := wr.drewN q) (pw_own_drewN h3 q) (m * 2 + 1) (.int .i64 (ii + 1))
    rw [hm, wayCells_set] at h4
    rw [hm]
    exact h4.1
  · exact Kd.R_mono (Kd.R_far (Kd.R_tight rfl (Kd.R_drewN H.omet q)) (fun i hi => by simp only [Value.ownBlock] at hi; injection hi with hi; exact fun e => hmgw ((show i = gw from e).symm.trans hi)) _) (fun _ _ => trivial)
theorem each_tell (hL : ∀ W l S, I W l S → ∀ k, S k → k < W.heap.size) (H : EachSt I g n gm cm w S0 told k (kq + 1) (.slice (some ⟨gw, 0, none⟩) (m + 1) cw) wr met ((a, ii) :: st) tl S) (hm : m = st.length)
    (hgm : w.heap.size ≤ gm ∧ gm < wr.heap.size) (hgw : w.heap.size ≤ gw ∧ gw < wr.heap.size) (hl : ¬ ii < ((g.getD a.toNat []).length : Int)) {q : Nat} {W1 : World} {S1 : Nat → Prop} (hI1 : I W1 (tl ++ [a]) S1) (hS1 : ∀ k, S1 k → S k ∨ (wr.drewN q).heap.size ≤ k) (hf : Fr S (wr.drewN q) W1) :
    EachSt I g n gm cm w S0 told k kq (.slice (some ⟨gw, 0, none⟩) m cw) W1 met st (tl ++ [a]) S1 := by
  have hmgw : gw ≠ gm := (H.nway gw (by simp [Value.ownBlock])).2
  have hsw : ¬ S gw := (H.nway gw (by simp [Value.ownBlock])).1
  have hS1' : ∀ k, S1 k → S k ∨ wr.heap.size ≤ k := hS1
  have hbk : ∀ i, i < wr.heap.size → ¬ S i → W1.heap[i]? = wr.heap[i]? := fun i hi hn => hf.block i hi hn
  refine ⟨dfs_pop H.run hl, ?_, H.lenm, fun p hp => H.way p (List.mem_cons_of_mem _ hp), ?_, ?_, hI1, ?_, hL _ _ _ hI1, ?_, ?_, ?_⟩
  · have := H.fuel
    simp only [List.length_cons, List.length_append, List.length_nil] at this ⊢
    omega
  · have h3 := H.own
    rw [List.length_cons, ← hm, wayCells_cons] at h3
    have h4 := ownsRow_pop (by rw [wayCells_len, hm]) h3
    rw [hm] at h4 ⊢
    exact own_move h4 (fun i hi => hbk i (by simp only [Value.ownBlock] at hi; injection hi with hi; omega) (by simp only [Value.ownBlock] at hi; injection hi with hi; rw [← hi]; exact hsw))
  · exact Kd.R_mono (Kd.R_move (Kd.R_tight rfl H.omet) (fun i hi => by simp only [Value.ownBlock] at hi; injection hi with hi; subst hi; exact hbk _ hgm.2 H.ngm)) (fun _ _ => trivial)
  · intro i hi
    rcases hS1' i hi with h1 | h1
    · exact H.sub i h1
    · exact .inr (by omega)
  · intro hs
    rcases hS1' _ hs with h1 | h1
    · exact H.ngm h1
    · omega
  · intro b' hb'
    simp only [Value.ownBlock] at hb'
    injection hb' with hb'
    subst hb'
    refine ⟨fun hs => ?_, hmgw⟩
    rcases hS1' _ hs with h1 | h1
    · exact hsw h1
    · omega
  · exact H.fr.trans ((Fr.drewN S wr q).trans hf (fun i h => .inl h)) (fun i h => H.sub i h)
end
set_option maxHeartbeats 4000000 in
set_option maxRecDepth 100000 in
theorem each_c (f : Nat) (lb : Array Value) (eg : ∀ args w, (callFunc f args).run Try.prog w = .ok (.enter f args) w) (I : World → List Int → (Nat → Prop) → Prop) (n : Nat)
    (hmove : ∀ W W' l S, I W l S → W.heap.size ≤ W'.heap.size → (∀ k, S k → W'.heap[k]? = W.heap[k]?) → I W' l S) (hlt : ∀ W l S, I W l S → ∀ k, S k → k < W.heap.size)
    (hstep : ∀ W l S a, I W l S → 0 ≤ a → a < (n : Int) → l.length < 1000000 → Calls Try.prog f (#[.int .i64 a] ++ lb) W fun e W' => e = .returned (.tuple #[]) ∧ ∃ S', I W' (l ++ [a]) S' ∧ (∀ k, S' k → S k ∨ W.heap.size ≤ k) ∧ Fr S W W')
    (g : List (List Int)) (hn : g.length = n) (hsm : n ≤ 100000) (hg : ∀ l ∈ g, ∀ b ∈ l, 0 ≤ b ∧ b < (n : Int)) (hgl : ∀ l ∈ g, l.length ≤ 100000)
    (A0 : Option Addr) (c0 : Nat) (S0 : Nat → Prop) (w : World) (hC : ∀ W, Fr S0 w W → dG.C W A0 n g) (from_ : Int) (h0 : 0 ≤ from_) (h1 : from_ < (n : Int)) (k : Nat) (hk : k ≤ 1000000) (told : List Int)
    (hI : I w [] S0) (hd : dfs g k ((List.replicate n false).set from_.toNat true) [(from_, 0)] [] = some told) :
    Calls Try.prog 56 #[.slice A0 n c0, .int .i64 from_, .func (.func f) #[] lb] w fun e w' => e = .returned (.tuple #[]) ∧ ∃ S', I w' told S' ∧ (∀ i, S' i → S0 i ∨ w.heap.size ≤ i) ∧ Fr S0 w w' := by
  have HM := Aside0.mk hmove
  have HL := Aside0.mk hlt
  have HST := Aside0.mk hstep
  have HG := Aside0.mk hg
  have HGL := Aside0.mk hgl
  have HC := Aside0.mk hC
  have HI := Aside0.mk hI
  have HD := Aside0.mk hd
  have HN := Aside0.mk hn
  clear hmove hlt hstep hg hgl hC hI hd hn
  go_enter Try.func56, Try.ntmps56
  have HIS : ∀ W, Calls Try.prog 53 #[.slice A0 n c0, .int .i64 from_] W fun e w' => e = .returned (.bool true) ∧ W = w' := fun W => by
    have := is_c from_ A0 n c0 W
    rw [isN_yes h0 h1] at this
    exact this
  have hz : 0 ≤ (n : Int) := by omega
  go_wp2_with (fail)
  go_step3
  go_wp2_with (first | (go_at_call 53; refine (HIS _).mono ?_; rintro e w' ⟨rfl, rfl⟩) | ((with_reducible refine gate_dst (N := 16) rfl ?_); refine Kd.R_make Kd.bool (w0 := w) w.heap.size 4 rfl (N := 16) rfl 29 _ _ rfl (n : Int) rfl rfl Try.underlying29 (.bool false) 1 info4 rfl Nat.one_pos Nat.one_pos false (ok := fun _ => True) (okp := fun _ => True) rfl (fun _ hk => hk) trivial hz (by omega) (Below.refl _ _) (Nat.le_refl _) ?_; intro v1 w1 ho1 hb1 hg1 hn1; clear hg1 hn1; rw [Int.toNat_natCast] at ho1; obtain ⟨gm, cm, e1, hgm1, hgm2, _⟩ := Kd.R_form ho1 (by rw [List.length_replicate]; omega); rw [List.length_replicate] at e1; subst e1; have HM1 := Aside0.mk ho1; have HB1 := Aside0.mk hb1; have HGM := Aside0.mk (And.intro hgm1 hgm2); obtain ⟨hx1, hf1⟩ := Kd.R_celln false ho1 from_ h0 h1; clear ho1 hb1 hgm1 hgm2))
  go_step3
  go_wp2
  go_loopg [7] k (fun kq v7 wr => ∃ (met : List Bool) (st : List (Int × Int)) (tl : List Int) (S : Nat → Prop), Aside0 (EachSt I g n gm cm w S0 told k kq v7 wr met st tl S))
  case atStart =>
    refine ⟨(List.replicate n false).set from_.toNat true, [(from_, 0)], [], S0, ⟨?_⟩⟩
    have hS0 : ∀ i, S0 i → i < w.heap.size := HL.out _ _ _ HI.out
    have hf : Fr (fun i => i = gm) w1 ((w1.setCell ⟨gm, from_.toNat, none⟩ (.bool true)).alloc (.cells #[.int .i64 from_, .int .i64 0] 82)) := ((Fr.refl (fun i => i = gm) w1).setCell (.inl rfl) _).alloc _
    have hf1 : Fr S0 w ((w1.setCell ⟨gm, from_.toNat, none⟩ (.bool true)).alloc (.cells #[.int .i64 from_, .int .i64 0] 82)) :=
      (Fr.below HB1.out (fun i hi => .inr hi)).trans hf (fun i e => .inr (by have := HGM.out.1; omega))
    have hsz : w1.heap.size = (w1.setCell ⟨gm, from_.toNat, none⟩ (.bool true)).heap.size := by simp [World.setCell]
    refine ⟨HD.out, ⟨Nat.le_refl _, by simp, by simp; omega⟩, by simp, ?_, ?_, ?_, ?_, fun i hi => .inl hi, fun i hi => Nat.lt_of_lt_of_le (hS0 i hi) hf1.size, fun hs => by have := hS0 _ hs; have := HGM.out.1; omega, ?_, hf1⟩
    · intro p hp
      obtain rfl := List.mem_singleton.1 hp
      exact ⟨h0, h1, Int.le_refl _⟩
    · rw [hsz]
      exact World.ownsRow_lit _ #[.int .i64 from_, .int .i64 0] 1 (by rw [← hsz]; exact HB1.out.size) (by decide) rfl
    · exact Kd.R_alloc (Kd.R_putn HM1.out from_ true) _
    · exact HM.out _ _ _ _ HI.out hf1.size (fun i hi => (hf.block i (Nat.lt_of_lt_of_le (hS0 i hi) HB1.out.size) (fun e => by have := hS0 _ hi; have := HGM.out.1; omega)).trans (HB1.out.block i (hS0 i hi)))
    · intro b hb
      simp only [Value.ownBlock] at hb
      injection hb with hb
      have := HGM.out
      have := HB1.out.size
      exact ⟨fun hs => by have := hS0 _ hs; omega, by omega⟩
  case round =>
    obtain ⟨met, st, tl, S, HE⟩ := hrel
    cases st with
    | nil =>
      obtain ⟨A7, c7, e7⟩ := own_slice HE.out.own
      subst e7
      have hl : decide (0 < (([] : List (Int × Int)).length : Int)) = false := rfl
      have hfin : Aside0 (told = tl) := by
        have h := HE.out.run
        cases gk with
        | zero => exact absurd h (by simp [dfs])
        | succ kq => exact ⟨(Option.some.inj (by rw [dfs] at h; exact h)).symm⟩
      go_wp2
      rw [Exit.noGoto_normal]
      go_end0
      exact ⟨rfl, S, by rw [hfin.out]; exact HE.out.inv, HE.out.sub, HE.out.fr⟩
    | cons p st =>
      obtain ⟨a, i⟩ := p
      obtain ⟨gw, cw, e7, hgw1, hgw2, hcw⟩ := own_pos HE.out.own
      subst e7
      obtain ⟨m, hm⟩ : ∃ m, m = st.length := ⟨_, rfl⟩
      rw [← hm] at HE ⊢
      have HMM := Aside0.mk hm
      have hmb : m ≤ 1000001 := by have h := HE.out.fuel.2.2; simp only [List.length_cons] at h; omega
      have hgw : Aside0 (w.heap.size ≤ gw ∧ gw < wr.heap.size) := ⟨hgw1, hgw2⟩
      have hab : 0 ≤ a ∧ a < (n : Int) := ⟨(HE.out.way (a, i) (List.mem_cons_self)).1, (HE.out.way (a, i) (List.mem_cons_self)).2.1⟩
      obtain ⟨ha0, ha1⟩ := hab
      have hmc : m ≤ cw := by omega
      clear hm hgw1 hgw2 hcw
      go_upto_region 6 with (fail)
      obtain ⟨ko, rfl⟩ : ∃ ko, ko = gk := ⟨_, rfl⟩
      obtain ⟨wo, rfl⟩ : ∃ wo, wo = wr := ⟨_, rfl⟩
      go_loopg [7] ko (fun kq v7 wi => ∃ i : Int, v7 = .slice (some ⟨gw, 0, none⟩) (m + 1) cw ∧ Aside0 (EachSt I g n gm cm w S0 told k kq (.slice (some ⟨gw, 0, none⟩) (m + 1) cw) wi met ((a, i) :: st) tl S) ∧ Aside0 (kq ≤ ko))
      case atStart => exact ⟨i, rfl, HE, ⟨Nat.le_refl _⟩⟩
      case round =>
        clear HE
        obtain ⟨ii, rfl, HE, HK⟩ := hrel
        have HG1 := HC.out wr HE.out.fr
        have hown := HE.out.own
        rw [List.length_cons, ← HMM.out] at hown
        have hii : 0 ≤ ii := (HE.out.way (a, ii) (List.mem_cons_self)).2.2
        obtain ⟨hca, hci, hfi⟩ : wr.cell? ⟨gw, m * 2, none⟩ = some (.int .i64 a) ∧ wr.cell? ⟨gw, m * 2 + 1, none⟩ = some (.int .i64 ii) ∧ wr.frozen? ⟨gw, m * 2 + 1, none⟩ = false := by
          have h := HMM.out
          subst h
          exact way_cells hown
        obtain ⟨ad, A1, c1, e1, hx1, hl1, hC1⟩ := at_L1 HG1 a ha0 ha1
        obtain ⟨row, er⟩ : ∃ row, row = rd_L1 g a := ⟨_, rfl⟩
        rw [← er] at hx1 hl1 hC1
        have HR := Aside0.mk er
        have HC1 := Aside0.mk hC1
        clear er hC1 HG1 hown
        cases gk with
        | zero => exact absurd HE.out.run (by simp [dfs])
        | succ kq =>
          by_cases hlt : ii < (row.length : Int)
          · have hdl : decide (ii < (row.length : Int)) = true := decide_eq_true hlt
            subst e1
            obtain ⟨rb, ro, e2, _, hrc⟩ := C_ints HC1.out (by omega)
            subst e2
            have hcb := hrc ii.toNat (by omega)
            clear hrc
            obtain ⟨b, eb⟩ : ∃ b, b = row.getD ii.toNat 0 := ⟨_, rfl⟩
            rw [← eb] at hcb
            have hb : 0 ≤ b ∧ b < (n : Int) := by
              have hmem : row ∈ g := by
                rw [HR.out]
                unfold rd_L1
                rw [List.getD_eq_getElem?_getD, List.getElem?_eq_getElem (by have := HN.out; omega)]
                exact List.getElem_mem _
              refine HG.out row hmem b ?_
              rw [eb, List.getD_eq_getElem?_getD, List.getElem?_eq_getElem (by omega)]
              exact List.getElem_mem _
            have HBB := Aside0.mk eb
            clear eb
            have hrow : row = g.getD a.toNat [] := HR.out
            have hHL : Aside0 (ii < ((g.getD a.toNat []).length : Int) ∧ b = (g.getD a.toNat []).getD ii.toNat 0) := by
              rw [← hrow]
              exact ⟨hlt, HBB.out⟩
            clear hrow
            obtain ⟨hb0, hb1⟩ := hb
            have HGW : Aside0 ((w.heap.size ≤ gm ∧ gm < wr.heap.size) ∧ (w.heap.size ≤ gw ∧ gw < wr.heap.size)) := by
              refine ⟨⟨HGM.out.1, ?_⟩, ⟨hgw.out.1, ?_⟩⟩
              · exact Kd.R_lt HE.out.omet gm (by simp [Value.ownBlock])
              · exact (own_lt HE.out.own gw (by simp [Value.ownBlock]))
            obtain ⟨hcm, hfm⟩ := Kd.R_celln false HE.out.omet b hb0 hb1
            by_cases hmb : rdOf false met b = true
            · rw [hmb] at hcm
              have hi1 : ii + 1 ≤ 100001 := by
                have hmem : row ∈ g := by
                  rw [HR.out]
                  unfold rd_L1
                  rw [List.getD_eq_getElem?_getD, List.getElem?_eq_getElem (by have := HN.out; omega)]
                  exact List.getElem_mem _
                have := HGL.out row hmem
                omega
              have hmb' := Aside0.mk hmb
              clear hmb
              go_wp2
              go_quiet (fail)
              go_wp2
              go_quiet (fail)
              go_wp2
              go_roundg kq
              case measure => exact Nat.lt_succ_self _
              case rel =>
                exact ⟨ii + 1, rfl, ⟨each_skip HM.out HE.out HMM.out HGM.out.1 hgw.out.1 hHL.out.1 hHL.out.2 ⟨hb0, hb1⟩ hmb'.out _⟩, ⟨by have := HK.out; omega⟩⟩
            · rw [Bool.not_eq_true] at hmb
              rw [hmb] at hcm
              have hmb' := Aside0.mk hmb
              clear hmb
              obtain ⟨ti, hti, hz0, hz1, hz2⟩ := info_parts info_step
              have HTI := Aside0.mk (And.intro hti (And.intro hz0 (And.intro hz1 hz2)))
              clear hti hz0 hz1 hz2
              go_wp2
              go_quiet (fail)
              go_wp2
              go_quiet (fail)
              go_upto_region 11 with (fail)
              go_wp2_with (at_builtin; refine wpList_append_own_at _ rfl _ _ 83 rfl w.heap.size 82 ti (.agg #[.int .i64 0, .int .i64 0]) 2 16 Try.underlying83 HTI.out.1 HTI.out.2.1 HTI.out.2.2.1 HTI.out.2.2.2 rfl (by decide) _ _ _ rfl ((own_setCell (pw_own_drewN (by have h := HE.out.own; rw [List.length_cons, ← HMM.out] at h; exact h) _) (by simp only [Value.ownBlock]; intro e; injection e with e; exact (HE.out.nway gw (by simp [Value.ownBlock])).2 e.symm) _).alloc _) ⟨_, 0, none⟩ 1 1 [.int .i64 b, .int .i64 0] rfl rfl (two_cells (size_s _ _ _ _) _ _ _) (fun u hu => by simp at hu; rcases hu with rfl | rfl <;> rfl) (by unfold maxLen; omega) (by omega) (by rw [size_sa]; have := HE.out.fr.size; omega) ?_; intro v2 w2 ho2 hg2 _ hat2; have HE2 := Aside0.mk (each_push HM.out HE.out HMM.out HGW.out.1 HGW.out.2 hHL.out.1 hHL.out.2 ⟨hb0, hb1⟩ hmb'.out rfl ho2 hg2 hat2); clear ho2 hg2 hat2)
              go_roundg kq
              case measure => have := HK.out; omega
              case rel => exact ⟨_, _, _, _, HE2⟩
          · have hdl : decide (ii < (row.length : Int)) = false := decide_eq_false hlt
            subst e1
            have hrow : row = g.getD a.toNat [] := HR.out
            have hHL : Aside0 (¬ ii < ((g.getD a.toNat []).length : Int)) := by
              rw [← hrow]
              exact ⟨hlt⟩
            clear hrow
            have HGW : Aside0 ((w.heap.size ≤ gm ∧ gm < wr.heap.size) ∧ (w.heap.size ≤ gw ∧ gw < wr.heap.size)) := by
              refine ⟨⟨HGM.out.1, ?_⟩, ⟨hgw.out.1, ?_⟩⟩
              · exact Kd.R_lt HE.out.omet gm (by simp [Value.ownBlock])
              · exact (own_lt HE.out.own gw (by simp [Value.ownBlock]))
            have hcall : ∀ q, Calls Try.prog f (#[.int .i64 a] ++ lb) (wr.drewN q) fun e W' => e = .returned (.tuple #[]) ∧ ∃ S', I W' (tl ++ [a]) S' ∧ (∀ k, S' k → S k ∨ (wr.drewN q).heap.size ≤ k) ∧ Fr S (wr.drewN q) W' :=
              fun q => HST.out _ tl S a (HM.out wr _ tl S HE.out.inv (Nat.le_refl _) (fun _ _ => rfl)) ha0 ha1 (by have := HE.out.fuel; omega)
            go_wp2
            go_quiet (fail)
            go_wp2_with (go_at_fn f; refine (hcall _).mono ?_; rintro e w2 ⟨rfl, S1, hI1, hS1, hf1⟩; have HE2 := Aside0.mk (each_tell HL.out HE.out HMM.out HGW.out.1 HGW.out.2 (by have := hHL.out; omega) hI1 hS1 hf1); clear hI1 hS1 hf1)
            go_roundg kq
            case measure => have := HK.out; omega
            case rel => exact ⟨_, _, _, _, HE2⟩
end Go.Proofs.Ytdknhgbjgdmfkaa.P
namespace Go.Proofs.Ytdknhgbjgdmfkaa.P
open Go.RowKit Go.Lib Go.Sort Go.Shelf Go.Proofs.YtdknhgbjgdmfkaaW.PrintWords Go.Proofs.YtdknhgbjgdmfkaaW.PrintLast Go.Proofs.YtdknhgbjgdmfkaaW.PrintMore
def ITold (Bv base : Nat) (W : World) (l : List Int) (S : Nat → Prop) : Prop :=
  ∃ v, W.heap[Bv]? = some (.cells #[v] 32 (0, 0)) ∧ dI.R 3 W base (fun _ => True) v l ∧ ∀ k, S k ↔ k = Bv ∨ v.ownBlock = some k
theorem ITold.move {Bv base : Nat} (W W' : World) (l : List Int) (S : Nat → Prop) (h : ITold Bv base W l S) (_ : W.heap.size ≤ W'.heap.size) (hs : ∀ k, S k → W'.heap[k]? = W.heap[k]?) : ITold Bv base W' l S := by
  obtain ⟨v, h1, h2, h3⟩ := h
  exact ⟨v, (hs Bv ((h3 Bv).2 (.inl rfl))).trans h1, Kd.R_mono (Kd.R_move (Kd.R_tight rfl h2) (fun k hk => hs k ((h3 k).2 (.inr hk.symm)))) (fun _ _ => trivial), h3⟩
theorem ITold.lt {Bv base : Nat} (W : World) (l : List Int) (S : Nat → Prop) (h : ITold Bv base W l S) (k : Nat) (hk : S k) : k < W.heap.size := by
  obtain ⟨v, h1, h2, h3⟩ := h
  rcases (h3 k).1 hk with rfl | e
  · exact lt_of_block h1
  · exact own_lt (R_ints h2) k e
theorem row_apart {w : World} {B base : Nat} {ok : Nat → Prop} {u v : Value} {xs : List Int} (hb : w.heap[B]? = some (.cells #[u] 32 (0, 0))) (h : dI.R 3 w base ok v xs) : v.ownBlock ≠ some B := by
  intro e
  obtain ⟨cells, hc⟩ := own_typed (R_ints h) B e
  rw [hb] at hc
  injection hc with hc
  injection hc with _ hc
  exact absurd hc (by decide)
theorem ITold.app {Bv base : Nat} {W w2 : World} {l : List Int} {S : Nat → Prop} {v v2 : Value} {a : Int} {o : Obj} (h1 : W.heap[Bv]? = some (.cells #[v] 32 (0, 0))) (h2 : dI.R 3 W base (fun _ => True) v l) (h3 : ∀ k, S k ↔ k = Bv ∨ v.ownBlock = some k)
    (ho : w2.ownsRow base 3 1 v2 (l.length + 1) (l.map (Value.int .i64) ++ [.int .i64 a])) (hg : (W.alloc o).grownBy w2 v.ownBlock) (hat : v2.ownBlock = v.ownBlock ∨ v2.ownBlock = some (W.heap.size + 1)) :
    w2.heap[Bv]? = some (.cells #[v] 32 (0, 0)) ∧ ∃ S', ITold Bv base (w2.setCell ⟨Bv, 0, none⟩ v2) (l ++ [a]) S' ∧ (∀ k, S' k → S k ∨ W.heap.size ≤ k) ∧ Fr S W (w2.setCell ⟨Bv, 0, none⟩ v2) := by
  have hlt := lt_of_block h1
  have hne : v.ownBlock ≠ some Bv := by
    intro e
    obtain ⟨cells, hc⟩ := own_typed (R_ints h2) Bv e
    rw [h1] at hc
    injection hc with hc
    injection hc with _ hc
    exact absurd hc (by decide)
  have e2 : w2.heap[Bv]? = some (.cells #[v] 32 (0, 0)) := by
    rw [hg.block Bv (by rw [size_alloc1]; omega) (fun e => hne e.symm), Below.heap_alloc _ _ _ hlt]
    exact h1
  have hne2 : v2.ownBlock ≠ some Bv := by
    rcases hat with e | e
    · rw [e]; exact hne
    · rw [e]; intro h; injection h with h; omega
  refine ⟨e2, fun k => k = Bv ∨ v2.ownBlock = some k, ⟨v2, one_setCell e2, ?_, fun _ => Iff.rfl⟩, ?_, ?_⟩
  · refine ints_R ?_ (fun _ _ => trivial)
    rw [List.length_append, List.length_singleton, List.map_append]
    exact ownsRow_setCell_other ho hne2 _
  · intro k hk
    rcases hk with hk | hk
    · exact .inl ((h3 k).2 (.inl hk))
    · rcases hat with e | e
      · exact .inl ((h3 k).2 (.inr (by rw [← e]; exact hk)))
      · rw [e] at hk
        injection hk with hk
        exact .inr (by omega)
  · exact ((Fr.refl S W).alloc o |>.grown hg (fun k e => .inl ((h3 k).2 (.inr e)))).setCell (.inl ((h3 Bv).2 (.inl rfl))) _
set_option maxHeartbeats 4000000 in
set_option maxRecDepth 100000 in
theorem ITold.step {Bv base : Nat} (hb : base ≤ Bv) (W : World) (l : List Int) (S : Nat → Prop) (a : Int) (h : ITold Bv base W l S) (hl : l.length < 1000000) :
    Calls Try.prog 59 (#[.int .i64 a] ++ #[.pointer (some ⟨Bv, 0, none⟩)]) W fun e W' => e = .returned (.tuple #[]) ∧ ∃ S', ITold Bv base W' (l ++ [a]) S' ∧ (∀ k, S' k → S k ∨ W.heap.size ≤ k) ∧ Fr S W W' := by
  show Calls Try.prog 59 #[.int .i64 a, .pointer (some ⟨Bv, 0, none⟩)] W _
  obtain ⟨v, h1, h2, h3⟩ := h
  have hlt := lt_of_block h1
  have hc := cell_of_one h1
  have hf := free_of_one h1
  have HO := Aside0.mk (R_ints h2)
  have H1 := Aside0.mk h1
  have H3 := Aside0.mk h3
  have H2 := Aside0.mk h2
  clear h1 h2 h3
  obtain ⟨ti, hti, hz0, hz1, hz2⟩ := info_parts info3
  have HTI := Aside0.mk (And.intro hti (And.intro hz0 (And.intro hz1 hz2)))
  clear hti hz0 hz1 hz2
  go_enter Try.func59, Try.ntmps59
  go_wp2_with (at_builtin; refine wpList_append_own_at _ rfl _ _ 32 rfl base 3 ti (.int .i64 0) 1 8 Try.underlying32 HTI.out.1 HTI.out.2.1 HTI.out.2.2.1 HTI.out.2.2.2 rfl (by decide) v l.length _ rfl (HO.out.alloc _) ⟨_, 0, none⟩ 1 1 [.int .i64 a] rfl rfl (one_cells rfl _ _) (fun u hu => by simp at hu; subst hu; rfl) (by unfold maxLen; omega) (by omega) (by rw [size_alloc1]; omega) ?_; intro v2 w2 ho2 hg2 _ hat2; rw [size_alloc1] at hat2; (have happ := ITold.app H1.out H2.out H3.out ho2 hg2 hat2); obtain ⟨A2, c2, rfl⟩ := own_slice ho2; have hc2 := cell_of_one happ.1; have hf2 := free_of_one happ.1; have HA := Aside0.mk happ.2; clear ho2 hg2 hat2 happ)
  go_end0
  exact ⟨rfl, HA.out⟩
theorem marks_snoc (n : Nat) (l : List Int) (a : Int) : marks n (l ++ [a]) = (marks n l).set a.toNat true := by simp [marks]
def IMark (Bv base go n cap : Nat) (W : World) (l : List Int) (S : Nat → Prop) : Prop :=
  W.heap[Bv]? = some (.cells #[.slice (some ⟨go, 0, none⟩) n cap] 29 (0, 0)) ∧ dB.R 4 W base (fun _ => True) (.slice (some ⟨go, 0, none⟩) n cap) (marks n l) ∧ go ≠ Bv ∧ ∀ k, S k ↔ k = Bv ∨ k = go
theorem IMark.move {Bv base go n cap : Nat} (W W' : World) (l : List Int) (S : Nat → Prop) (h : IMark Bv base go n cap W l S) (_ : W.heap.size ≤ W'.heap.size) (hs : ∀ k, S k → W'.heap[k]? = W.heap[k]?) : IMark Bv base go n cap W' l S := by
  obtain ⟨h1, h2, h4, h3⟩ := h
  exact ⟨(hs Bv ((h3 Bv).2 (.inl rfl))).trans h1, Kd.R_mono (Kd.R_move (Kd.R_tight rfl h2) (fun k hk => hs k ((h3 k).2 (.inr (by simp only [Value.ownBlock] at hk; injection hk))))) (fun _ _ => trivial), h4, h3⟩
theorem IMark.lt {Bv base go n cap : Nat} (W : World) (l : List Int) (S : Nat → Prop) (h : IMark Bv base go n cap W l S) (k : Nat) (hk : S k) : k < W.heap.size := by
  obtain ⟨h1, h2, _, h3⟩ := h
  rcases (h3 k).1 hk with rfl | rfl
  · exact lt_of_block h1
  · exact Kd.R_lt h2 k (by simp [Value.ownBlock])
set_option maxHeartbeats 4000000 in
set_option maxRecDepth 100000 in
theorem IMark.step {Bv base go n cap : Nat} (W : World) (l : List Int) (S : Nat → Prop) (a : Int) (h : IMark Bv base go n cap W l S) (h0 : 0 ≤ a) (h1 : a < (n : Int)) :
    Calls Try.prog 57 (#[.int .i64 a] ++ #[.pointer (some ⟨Bv, 0, none⟩)]) W fun e W' => e = .returned (.tuple #[]) ∧ ∃ S', IMark Bv base go n cap W' (l ++ [a]) S' ∧ (∀ k, S' k → S k ∨ W.heap.size ≤ k) ∧ Fr S W W' := by
  show Calls Try.prog 57 #[.int .i64 a, .pointer (some ⟨Bv, 0, none⟩)] W _
  obtain ⟨h4, h2, h5, h3⟩ := h
  have hc := cell_of_one h4
  obtain ⟨hcg, hfg⟩ := Kd.R_celln false h2 a h0 h1
  have HA : Aside0 (∃ S', IMark Bv base go n cap (W.setCell ⟨go, a.toNat, none⟩ (.bool true)) (l ++ [a]) S' ∧ (∀ k, S' k → S k ∨ W.heap.size ≤ k) ∧ Fr S W (W.setCell ⟨go, a.toNat, none⟩ (.bool true))) := by
    refine ⟨S, ⟨?_, ?_, h5, h3⟩, fun k hk => .inl hk, (Fr.refl S W).setCell (.inl ((h3 go).2 (.inr rfl))) _⟩
    · rw [Below.heap_setCell _ _ _ _ (fun e => h5 e.symm)]
      exact h4
    · rw [marks_snoc]
      exact Kd.R_putn h2 a true
  clear h2 h3 h4 h5
  go_enter Try.func57, Try.ntmps57
  go_wp2
  go_end0
  exact ⟨rfl, HA.out⟩
set_option maxHeartbeats 1000000 in
theorem each_no (fv : Value) (A0 : Option Addr) (n c0 : Nat) (from_ : Int) (w : World) (h : isN n from_ = false) :
    Calls Try.prog 56 #[.slice A0 n c0, .int .i64 from_, fv] w fun e w' => e = .returned (.tuple #[]) ∧ w = w' := by
  have HIS : ∀ W, Calls Try.prog 53 #[.slice A0 n c0, .int .i64 from_] W fun e w' => e = .returned (.bool false) ∧ W = w' := fun W => by
    have := is_c from_ A0 n c0 W
    rw [h] at this
    exact this
  clear h
  go_enter Try.func56, Try.ntmps56
  go_wp2_with (fail)
  go_step3
  go_wp2_with (go_at_call 53; refine (HIS _).mono ?_; rintro e w' ⟨rfl, rfl⟩)
  rw [Exit.noGoto_ret]
  refine bodyPost_ret (results_none rfl _ _ _) rfl ?_
  exact ⟨rfl, rfl⟩
theorem each_told (f : Nat) (lb : Array Value) (eg : ∀ args w, (callFunc f args).run Try.prog w = .ok (.enter f args) w) (I : World → List Int → (Nat → Prop) → Prop) (n : Nat)
    (hmove : ∀ W W' l S, I W l S → W.heap.size ≤ W'.heap.size → (∀ k, S k → W'.heap[k]? = W.heap[k]?) → I W' l S) (hlt : ∀ W l S, I W l S → ∀ k, S k → k < W.heap.size)
    (hstep : ∀ W l S a, I W l S → 0 ≤ a → a < (n : Int) → l.length < 1000000 → Calls Try.prog f (#[.int .i64 a] ++ lb) W fun e W' => e = .returned (.tuple #[]) ∧ ∃ S', I W' (l ++ [a]) S' ∧ (∀ k, S' k → S k ∨ W.heap.size ≤ k) ∧ Fr S W W')
    (g : List (List Int)) (hn : g.length = n) (hsm : n ≤ 100000) (hg : ∀ l ∈ g, ∀ b ∈ l, 0 ≤ b ∧ b < (n : Int)) (hgl : ∀ l ∈ g, l.length ≤ 100000)
    (A0 : Option Addr) (c0 : Nat) (S0 : Nat → Prop) (w : World) (hC : ∀ W, Fr S0 w W → dG.C W A0 n g) (from_ : Int) (told : List Int) (hI : I w [] S0) (hd : toldOf g from_ = some told) :
    Calls Try.prog 56 #[.slice A0 n c0, .int .i64 from_, .func (.func f) #[] lb] w fun e w' => e = .returned (.tuple #[]) ∧ ∃ S', I w' told S' ∧ (∀ i, S' i → S0 i ∨ w.heap.size ≤ i) ∧ Fr S0 w w' := by
  unfold toldOf at hd
  split at hd
  · rename_i h
    rw [hn] at h hd
    obtain ⟨h0, h1⟩ := isN_iff.1 h
    exact each_c f lb eg I n hmove hlt hstep g hn hsm hg hgl A0 c0 S0 w hC from_ h0 h1 1000000 (Nat.le_refl _) told hI hd
  · rename_i h
    rw [hn, Bool.not_eq_true] at h
    obtain rfl := Option.some.inj hd
    refine (each_no _ A0 n c0 from_ w h).mono ?_
    rintro e w' ⟨rfl, rfl⟩
    exact ⟨rfl, S0, hI, fun i hi => .inl hi, Fr.refl _ _⟩
theorem clean_stays {w : World} {base : Nat} {A : Option Addr} {n c : Nat} {xs : List (List Int)} {S : Nat → Prop} (h : Kd.S dG 32 w base (fun _ => True) (.slice A n c) xs) (hn : n = xs.length) (hS : ∀ k, S k → k < base) (W : World) (hf : Fr S w W) : dG.C W A n xs := by
  have h1 := Kd.S_step (w1 := W) (Kd.S_bound h) (fun k hk hlt => hf.block k hlt (fun hs => by have := hS k hs; have := hk.2.1; omega))
  have h2 := (Kd.S_reads' h1).2.2
  rw [← (Kd.S_reads' h1).1] at h2
  rw [hn] at h2 ⊢
  exact h2
theorem row_stays {w : World} {base : Nat} {A : Option Addr} {n c : Nat} {xs : List (List Int)} {S : Nat → Prop} (h : Kd.S dG 32 w base (fun _ => True) (.slice A n c) xs) (hS : ∀ k, S k → k < base) {k : Nat} (hk : k < n) :
    ∃ g A1 c1, A = some ⟨g, 0, none⟩ ∧ (xs.getD k []).length ≤ c1 ∧ ∀ W, Fr S w W → W.cell? ⟨g, k, none⟩ = some (.slice A1 (xs.getD k []).length c1) ∧ dI.C W A1 (xs.getD k []).length (xs.getD k []) := by
  have hn := (Kd.S_reads' h).1
  obtain ⟨g, cap, e, hb, hl, _⟩ := Kd.S_form h (by omega)
  injection e with e1 e2 e3
  subst e1
  obtain ⟨oki, cc, hcl, hM, hcc, _, _, _⟩ := Kd.S_elem h [] (k : Int) (by omega) (by omega)
  have hs1 : dG.sz = 1 := rfl
  obtain ⟨u, rfl⟩ : ∃ u, cc = [u] := List.length_eq_one_iff.1 (hcl.trans hs1)
  have hu := hcc 0 u rfl
  rw [hs1, Int.toNat_natCast, Nat.mul_one, Nat.add_zero] at hu
  rw [Int.toNat_natCast] at hM
  obtain ⟨u', e', hR⟩ := hM
  injection e' with e'
  subst e'
  obtain ⟨A1, c1, e4, hl1, _⟩ := Kd.R_reads hR
  subst e4
  refine ⟨g, A1, c1, rfl, hl1, fun W hf => ⟨?_, ?_⟩⟩
  · have hbk := hf.block g hl (fun hs => by have := hS g hs; omega)
    simp only [World.cell?, hbk]
    exact hu
  · have h2 := Kd.R_step (w1 := W) (Kd.R_bound hR) (fun b hbk hlt => hf.block b hlt (fun hs => by have := hS b hs; have := hbk.2.1; omega))
    exact (Kd.R_reads' h2).2.2
theorem fr_putRow (w : World) (g q : Nat) (d : Array Int) : Fr (fun k => k = g) w (putRow (Value.int .i64) (Sort.ahead w q) g 0 d) :=
  ⟨rfl, rfl, rfl, by simp [putRow, mapBlock, Sort.ahead], fun k _ hn => by
    have hn' : ¬ g = k := fun e => hn e.symm
    simp [putRow, mapBlock, Sort.ahead, Array.getElem?_modify, hn']⟩
theorem reverse_c (v : Value) (xs : List Int) (base : Nat) (ok : Nat → Prop) (w : World) (h : dI.R 3 w base ok v xs) (hb : xs.length ≤ 9223372036854775807) :
    Calls Try.prog 60 #[v] w fun e w' => e = .returned (.tuple #[]) ∧ dI.R 3 w' base ok v xs.reverse ∧ Fr (fun k => v.ownBlock = some k) w w' := by
  rcases R_ints_form h with ⟨rfl, rfl⟩ | ⟨g, cap, rfl, hbg, hlt, hn, hH⟩
  · refine (Try.slices_Reverse_int_empty none 0 w).mono ?_
    rintro e w' ⟨rfl, rfl⟩
    exact ⟨rfl, h, Fr.refl _ _⟩
  · refine (Try.slices_Reverse_int g 0 cap xs w hH hb).mono ?_
    rintro e w' ⟨rfl, n, rfl⟩
    refine ⟨rfl, R_put h (by simp) (by simp) (by rw [List.take_of_length_le (Nat.le_refl _)]) (by simp), ?_⟩
    have := fr_putRow w g n xs.reverse.toArray
    exact ⟨this.os, this.tape, this.output, this.size, fun k hk hn => this.block k hk (fun e => hn (by simp [Value.ownBlock, e]))⟩
set_option maxHeartbeats 4000000 in
set_option maxRecDepth 100000 in
theorem graph_Order.calls (A0 : Option Addr) (c0 : Nat) (l0 : List (List Int)) (a1 : Int) (r : List Int) (w : World) (hr0 : Kd.C (Kd.slice 3 (Kd.int .i64)) w A0 l0.length l0) (hc0 : l0.length ≤ c0) (h : graph_Order.f l0 a1 = some r) :
    Calls Try.prog 24 #[.slice A0 l0.length c0, .int .i64 a1] w fun e w' => ∃ v0_ : Value, e = .returned v0_ ∧ Kd.R (Kd.int .i64) 3 w' w.heap.size (fun _ => True) v0_ r ∧ Below w.heap.size w w' := by
  have HR0 := Aside0.mk hr0
  have HC0 := Aside0.mk hc0
  obtain ⟨hfit, t, ht, rfl⟩ : fits l0 = true ∧ ∃ t, toldOf (clean l0) a1 = some t ∧ t.reverse = r := by
    unfold graph_Order.f at h
    split at h
    · exact ⟨by assumption, by simpa using h⟩
    · cases h
  have HF := Aside0.mk hfit
  have HT := Aside0.mk ht
  clear hr0 hc0 h hfit ht
  have HCL : ∀ o, Calls Try.prog 16 #[.slice A0 l0.length c0] (w.alloc o) fun e w' => ∃ v0_ : Value, e = .returned v0_ ∧ Kd.S (Kd.slice 3 (Kd.int .i64)) 32 w' (w.alloc o).heap.size (fun _ => True) v0_ (clean l0) ∧ Below (w.alloc o).heap.size (w.alloc o) w' :=
    fun o => graph_Clean.calls A0 c0 l0 (clean l0) (w.alloc o) (Kd.C_alloc HR0.out o) HC0.out (by unfold graph_Clean.f; rw [if_pos HF.out])
  go_enter Try.func24, Try.ntmps24
  go_wp2_with (go_at_call 16; refine (HCL _).mono ?_; rintro e w2 ⟨v2, rfl, ho2, hb2⟩; obtain ⟨A2, c2, e2, hl2, _⟩ := Kd.S_reads ho2; rw [clean_len] at e2 hl2; subst e2; rw [size_alloc1] at ho2 hb2; have HO2 := Aside0.mk ho2; have HB2 := Aside0.mk hb2; clear ho2 hb2)
  have HN : Aside0 (l0.length ≤ 100000) := by
    have := HF.out
    unfold fits at this
    simp only [Bool.and_eq_true, decide_eq_true_eq] at this
    exact ⟨this.1⟩
  have hbv : w2.heap[w.heap.size]? = some (.cells #[.slice none 0 0] 32 (0, 0)) := (HB2.out.block w.heap.size (Nat.lt_succ_self _)).trans (heap_alloc_new w _)
  have HEA := each_told 59 #[.pointer (some ⟨w.heap.size, 0, none⟩)] (enters_of Try.func59 (by kernel_rfl) rfl) (ITold w.heap.size w.heap.size) l0.length ITold.move ITold.lt (fun W l S a h _ _ hl => ITold.step (Nat.le_refl _) W l S a h hl)
    (clean l0) (clean_len l0) HN.out clean_valid (clean_small HF.out) A2 c2 (fun k => k = w.heap.size) w2 (fun W hf => clean_stays HO2.out (clean_len l0).symm (fun k hk => by omega) W hf) a1 t ⟨_, hbv, Kd.R_nil _ _ _ _ _, fun k => by simp [Value.ownBlock]⟩ HT.out
  have HEA' := Aside0.mk HEA
  clear HEA hbv
  go_wp2_with (go_at_call 56; refine HEA'.out.mono ?_; rintro e w3 ⟨rfl, S3, hI3, hS3, hf3⟩; obtain ⟨v3, hb3, ho3, hs3⟩ := hI3; have hc3 := cell_of_one hb3; have HO3 := Aside0.mk ho3; have HF3 := Aside0.mk hf3; have HB3 := Aside0.mk hb3; clear hb3 ho3 hs3 hf3 hS3)
  have hlen : Aside0 (t.length ≤ 1000000) := ⟨toldOf_len HT.out⟩
  go_wp2_with (go_at_call 60; refine (reverse_c _ _ _ _ _ HO3.out (by have := hlen.out; omega)).mono ?_; rintro e w4 ⟨rfl, ho4, hf4⟩; (have hc4 : w4.cell? ⟨w.heap.size, 0, none⟩ = some v3 := cell_of_one ((hf4.block _ (lt_of_block HB3.out) (row_apart HB3.out HO3.out)).trans HB3.out)); have HO4 := Aside0.mk ho4; have HF4 := Aside0.mk hf4; clear ho4 hf4)
  go_ret
  refine ⟨_, rfl, HO4.out, ?_⟩
  have h2 : Below w.heap.size w w2 := (below_alloc (Below.refl _ _) _).trans (HB2.out.mono (Nat.le_succ _))
  have h3 : Below w.heap.size w w3 := below_fr h2 HF3.out (fun k hk => by omega) h2.size
  exact below_fr h3 HF4.out (fun k hk => own_base (R_ints HO3.out) k hk) h3.size
theorem R_form' {α : Type} {d : Kd α} {e b : Nat} {w : World} {base : Nat} {ok : Nat → Prop} {v : Value} {xs : List α} (h : d.R e w base ok v xs) (hb : v.ownBlock = some b) : ∃ cap, v = .slice (some ⟨b, 0, none⟩) xs.length cap := by
  obtain ⟨_, inner, ho, _⟩ := h
  rcases ho.2 with ⟨rfl, _⟩ | ⟨g, cap, cur, rfl, _⟩
  · simp [Value.ownBlock] at hb
  · simp only [Value.ownBlock] at hb
    injection hb with hb
    subst hb
    exact ⟨cap, rfl⟩
set_option maxHeartbeats 4000000 in
set_option maxRecDepth 100000 in
theorem graph_Reach.calls (A0 : Option Addr) (c0 : Nat) (l0 : List (List Int)) (a1 : Int) (r : List Bool) (w : World) (hr0 : Kd.C (Kd.slice 3 (Kd.int .i64)) w A0 l0.length l0) (hc0 : l0.length ≤ c0) (h : graph_Reach.f l0 a1 = some r) :
    Calls Try.prog 21 #[.slice A0 l0.length c0, .int .i64 a1] w fun e w' => ∃ v0_ : Value, e = .returned v0_ ∧ Kd.R Kd.bool 4 w' w.heap.size (fun _ => True) v0_ r ∧ Below w.heap.size w w' := by
  have HR0 := Aside0.mk hr0
  have HC0 := Aside0.mk hc0
  obtain ⟨hfit, t, ht, rfl⟩ : fits l0 = true ∧ ∃ t, toldOf (clean l0) a1 = some t ∧ marks l0.length t = r := by
    unfold graph_Reach.f at h
    split at h
    · exact ⟨by assumption, by simpa using h⟩
    · cases h
  have HF := Aside0.mk hfit
  have HT := Aside0.mk ht
  have hn : l0.length ≤ 100000 := by
    unfold fits at hfit
    simp only [Bool.and_eq_true, decide_eq_true_eq] at hfit
    exact hfit.1
  clear hr0 hc0 h hfit ht
  have hz : 0 ≤ (l0.length : Int) := by omega
  have HCL : ∀ W, Below w.heap.size w W → Calls Try.prog 16 #[.slice A0 l0.length c0] W fun e w' => ∃ v0_ : Value, e = .returned v0_ ∧ Kd.S (Kd.slice 3 (Kd.int .i64)) 32 w' W.heap.size (fun _ => True) v0_ (clean l0) ∧ Below W.heap.size W w' :=
    fun W hW => graph_Clean.calls A0 c0 l0 (clean l0) W (Kd.C_below HR0.out hW) HC0.out (by unfold graph_Clean.f; rw [if_pos HF.out])
  have HCL' := Aside0.mk HCL
  clear HCL
  go_enter Try.func21, Try.ntmps21
  go_wp2_with (first | ((with_reducible refine gate_dst (N := 8) rfl ?_); refine Kd.R_make Kd.bool (w0 := w) w.heap.size 4 rfl (N := 8) rfl 29 _ _ rfl (l0.length : Int) rfl rfl Try.underlying29 (.bool false) 1 info4 rfl Nat.one_pos Nat.one_pos false (ok := fun _ => True) (okp := fun _ => True) rfl (fun _ hk => hk) trivial hz (by omega) (Below.refl _ _) (Nat.le_refl _) ?_; intro v1 w1 ho1 hb1 hg1 hn1; clear hg1; obtain ⟨go, hn1, _⟩ := hn1; obtain ⟨cap, e1⟩ := R_form' ho1 hn1; rw [List.length_replicate, Int.toNat_natCast] at e1; subst e1; rw [Int.toNat_natCast] at ho1; have HO1 := Aside0.mk ho1; have HB1 := Aside0.mk hb1; clear ho1 hb1 hn1) | (go_at_call 16; refine (HCL'.out _ (below_alloc HB1.out _)).mono ?_; rintro e w2 ⟨v2, rfl, ho2, hb2⟩; obtain ⟨A2, c2, e2, hl2, _⟩ := Kd.S_reads ho2; rw [clean_len] at e2 hl2; subst e2; rw [size_alloc1] at ho2 hb2; have HO2 := Aside0.mk ho2; have HB2 := Aside0.mk hb2; clear ho2 hb2))
  have hgo : go < w1.heap.size := Kd.R_lt HO1.out go (by simp [Value.ownBlock])
  have hgb : w.heap.size ≤ go := Kd.R_base HO1.out go (by simp [Value.ownBlock])
  have hbv : w2.heap[w1.heap.size]? = some (.cells #[.slice (some ⟨go, 0, none⟩) l0.length cap] 29 (0, 0)) := (HB2.out.block w1.heap.size (Nat.lt_succ_self _)).trans (heap_alloc_new w1 _)
  have hrow : Kd.R Kd.bool 4 w2 w.heap.size (fun _ => True) (.slice (some ⟨go, 0, none⟩) l0.length cap) (List.replicate l0.length false) := Kd.R_below (Kd.R_alloc HO1.out _) (by rw [size_alloc1]; exact HB2.out)
  have HEA := Aside0.mk (each_told 57 #[.pointer (some ⟨w1.heap.size, 0, none⟩)] (enters_of Try.func57 (by kernel_rfl) rfl) (IMark w1.heap.size w.heap.size go l0.length cap) l0.length IMark.move IMark.lt (fun W l S a h h0 h1 _ => IMark.step W l S a h h0 h1)
    (clean l0) (clean_len l0) hn clean_valid (clean_small HF.out) A2 c2 (fun k => k = w1.heap.size ∨ k = go) w2 (fun W hf => clean_stays HO2.out (clean_len l0).symm (fun k hk => by omega) W hf) a1 t ⟨hbv, hrow, by omega, fun k => Iff.rfl⟩ HT.out)
  have HG := Aside0.mk (And.intro hgo hgb)
  clear hbv hrow hgo hgb
  go_wp2_with (go_at_call 56; refine HEA.out.mono ?_; rintro e w3 ⟨rfl, S3, hI3, hS3, hf3⟩; obtain ⟨hb3, ho3, _, hs3⟩ := hI3; have hc3 := cell_of_one hb3; have HO3 := Aside0.mk ho3; have HF3 := Aside0.mk hf3; clear hb3 ho3 hs3 hf3 hS3)
  go_ret
  refine ⟨_, rfl, HO3.out, ?_⟩
  have h2 : Below w.heap.size w w2 := (below_alloc HB1.out _).trans (HB2.out.mono (by have := HB1.out.size; omega))
  exact below_fr h2 HF3.out (fun k hk => by have := HG.out; rcases hk with hk | hk <;> omega) h2.size
end Go.Proofs.Ytdknhgbjgdmfkaa.P
namespace Go.Proofs.Ytdknhgbjgdmfkaa.P
open Go.RowKit Go.Lib Go.Sort Go.Shelf Go.Proofs.YtdknhgbjgdmfkaaW.PrintWords Go.Proofs.YtdknhgbjgdmfkaaW.PrintLast Go.Proofs.YtdknhgbjgdmfkaaW.PrintMore
end Go.Proofs.Ytdknhgbjgdmfkaa.P
namespace Go.Proofs.Ytdknhgbjgdmfkaa.P
open Go.RowKit Go.Shelf Go.Proofs.YtdknhgbjgdmfkaaW.PrintWords Go.Proofs.YtdknhgbjgdmfkaaW.PrintLast Go.Proofs.YtdknhgbjgdmfkaaW.PrintMore
attribute [local go_sem] Oper.semAt_some
set_option maxRecDepth 100000 in
set_option maxHeartbeats 2000000 in
theorem back1_in (F : Fence) (n : Nat) (hf : F.fn 118) (hro : F.round = none) (hn : 1 ≤ n) (l Bs len cap : Nat) (A : Option Addr) (zs : List Int) (hl : zs.length = len) (hreach : len * 8 ≤ 140737488351232) (J Jx : Nat → World → Prop)
    (hcell : ∀ W k m, J m W → k < len → ∃ b off, A = some ⟨b, off, none⟩ ∧ W.cell? ⟨b, off + k, none⟩ = some (.int .i64 (zs.getD k 0)))
    (hbs : ∀ W m, J m W → W.cell? ⟨Bs, 0, none⟩ = some (.slice A len cap))
    (hY : ∀ m W, J (m + 1) W → m < len → YieldAt F (n - 1) Try.prog l #[.int .i64 m, .int .i64 (zs.getD m 0)] W fun e W' => (e = .returned (.bool true) ∧ J m W') ∨ (e = .returned (.bool false) ∧ Jx m W'))
    (W : World) (h0 : J len W) :
    CallsIn F n Try.prog 118 #[.func (.yield l) #[] #[], .pointer (some ⟨Bs, 0, none⟩)] W fun e W' => (∃ v, e = .returned v) ∧ (J 0 W' ∨ ∃ m, m < len ∧ Jx m W') := by
  have hb0 := hbs W len h0
  refine callsIn_of_wp Try.func118 rfl hf ?_ hro
  simp only [Try.ntmps118, List.size_toArray, List.length_cons, List.length_nil, Nat.reduceAdd, Nat.reduceSub, Array.replicate_succ, Array.replicate_zero, List.push_toArray, List.append_toArray, List.nil_append, List.cons_append]
  gi_wp2
  gi_loopw [3] (fun i wr => ∃ m : Nat, m ≤ len ∧ i = .int .i64 ((m : Int) - 1) ∧ J m wr) (fun i _ => (intOf i + 1).toNat)
  case atStart => exact ⟨len, Nat.le_refl _, by simp, h0⟩
  case round =>
    obtain ⟨m, hm, rfl, hJ⟩ := hrel
    have hbs' := hbs wr m hJ
    cases m with
    | zero =>
      have c0 : decide ((0 : Int) ≤ ((0 : Nat) : Int) - 1) = false := rfl
      gi_wp2
      go_end0
      exact ⟨⟨_, rfl⟩, .inl hJ⟩
    | succ m =>
      obtain ⟨b, off, e, hc⟩ := hcell wr m _ hJ (by omega)
      subst e
      have e1 : (((m + 1 : Nat) : Int) - 1) = (m : Int) := by omega
      rw [e1]
      obtain ⟨x, ex⟩ : ∃ x, x = zs.getD m 0 := ⟨_, rfl⟩
      obtain ⟨fn, tmps, assign, body, hy, hR⟩ := hY m wr hJ (by omega)
      rw [← ex] at hc hy
      clear ex e1
      gi_wp2
      refine hR.mono ?_
      rintro e W3 (⟨rfl, hJ3⟩ | ⟨rfl, hJx3⟩)
      · gi_wp2
        go_roundw
        case rel => exact ⟨m, by omega, by simp, hJ3⟩
        case measure => simp [intOf]
      · gi_wp2
        refine bodyPost_ret (results_none rfl _ _ _) rfl ?_
        exact ⟨⟨_, rfl⟩, .inr ⟨m, by omega, hJx3⟩⟩
theorem ckept {w W : World} {T : Nat → Prop} {a : Addr} {v : Value} (hc : w.cell? a = some v) (hk : Kept w W T) (hne : ¬ T a.block) : W.cell? a = some v := Go.Proofs.YtdknhgbjgdmfkaaW.PrintWords.cell_kept hc hk hne
def down {α : Type} (mk : Nat → α) (len k : Nat) : List α := (List.range k).map fun j => mk (len - 1 - j)
theorem down_succ {α : Type} (mk : Nat → α) (len k : Nat) : down mk len (k + 1) = down mk len k ++ [mk (len - 1 - k)] := by simp [down, List.range_succ]
theorem down_length {α : Type} (mk : Nat → α) (len k : Nat) : (down mk len k).length = k := by simp [down]
set_option maxHeartbeats 1000000 in
theorem back_in (F : Fence) (n : Nat) (h5 : F.fn 91) (hro : F.round = none) (a : Option Addr) (len cap : Nat) (w : World) :
    CallsIn F n Try.prog 91 #[.slice a len cap] w fun e w' => e = .returned (.func (.func 118) #[] #[.pointer (some ⟨w.heap.size, 0, none⟩)]) ∧ w' = w.alloc (.cells #[.slice a len cap] 32) := by
  refine callsIn_of_wp Try.func91 rfl h5 ?_ hro
  simp only [Try.ntmps91, List.size_toArray, List.length_cons, List.length_nil, Nat.reduceAdd, Nat.reduceSub, Array.replicate_succ, Array.replicate_zero, List.push_toArray, List.append_toArray, List.nil_append, List.cons_append]
  gi_wp2
  go_ret
  exact ⟨rfl, rfl⟩
theorem back_stops {α : Type} (mk : Nat → α) (val : α → Nat × Int) (T : Nat → Prop) (F : Fence) (n : Nat) (hf : F.fn 118) (hro : F.round = none) (hn : 1 ≤ n) (Bs len cap : Nat) (A : Option Addr) (zs : List Int) (hl : zs.length = len) (hmk : ∀ m, m < len → val (mk m) = (m, zs.getD m 0)) (hreach : len * 8 ≤ 140737488351232) (w : World) (hBs : ¬ T Bs)
    (hc : w.cell? ⟨Bs, 0, none⟩ = some (.slice A len cap)) (hI : ∀ k, k < len → ∃ b off, ¬ T b ∧ A = some ⟨b, off, none⟩ ∧ w.cell? ⟨b, off + k, none⟩ = some (.int .i64 (zs.getD k 0))) :
    SeqStopsK F n Try.prog 118 #[.pointer (some ⟨Bs, 0, none⟩)] (fun x : α => #[Value.int .i64 ((val x).1 : Int), Value.int .i64 (val x).2]) (fun A B => Kept A B T) (fun ys => ys = down mk len len) (fun pre => ∃ k, k ≤ len ∧ pre = down mk len k) len w := fun l J Jx W hW _ _ hY h0 => by
  have hW' : Kept w W T := Kept.of_below hW T
  refine (back1_in F n hf hro hn l Bs len cap A zs hl hreach (fun m W' => J (down mk len (len - m)) W' ∧ Kept w W' T) (fun m W' => Jx (down mk len (len - m)) W') ?_ ?_ ?_ W ⟨by rw [Nat.sub_self]; exact h0, hW'⟩).mono ?_
  · rintro W1 k m ⟨_, hb⟩ hk
    obtain ⟨b, off, hlt, e, h⟩ := hI k hk
    exact ⟨b, off, e, ckept h hb hlt⟩
  · rintro W1 m ⟨_, hb⟩
    exact ckept hc hb hBs
  · rintro m W1 ⟨hj, hb⟩ hm
    have e : down mk len (len - m) = down mk len (len - (m + 1)) ++ [mk m] := by
      rw [show len - m = (len - (m + 1)) + 1 by omega, down_succ, show len - 1 - (len - (m + 1)) = m by omega]
    have h := hY _ (mk m) W1 hj (by rw [down_length]; omega)
    dsimp only at h
    rw [hmk m hm] at h
    refine h.mono ?_
    rintro e' W2 (⟨h1, h2, h3⟩ | ⟨h1, h2⟩)
    · exact .inl ⟨h1, by rw [e]; exact h2, hb.then_ h3 (fun k hk => .inl hk)⟩
    · exact .inr ⟨h1, by rw [e]; exact h2⟩
  · rintro e W' ⟨he, ⟨h, _⟩ | ⟨m, hm, h⟩⟩
    · exact ⟨he, .inl ⟨_, rfl, h⟩⟩
    · exact ⟨he, .inr ⟨_, ⟨len - m, by omega, rfl⟩, h⟩⟩
end Go.Proofs.Ytdknhgbjgdmfkaa.P
namespace Go.Proofs.Ytdknhgbjgdmfkaa.P
open Go.RowKit Go.Lib Go.Sort Go.Shelf Go.Proofs.YtdknhgbjgdmfkaaW.PrintWords Go.Proofs.YtdknhgbjgdmfkaaW.PrintLast Go.Proofs.YtdknhgbjgdmfkaaW.PrintMore
theorem u64_in (x : Int) (h0 : 0 ≤ x) (h1 : x < 18446744073709551616) : IntKind.u64.wrap x = x := by rw [IntKind.wrap_u64]; omega
theorem i64_in (x : Int) (h0 : -9223372036854775808 ≤ x) (h1 : x ≤ 9223372036854775807) : IntKind.i64.wrap x = x := by rw [IntKind.wrap_i64]; omega
theorem mul_one (n : Nat) (h : n ≤ 100000) : bits_Mul.f 1 (n : Int) = some (0, (n : Int)) := by
  have e1 : Go.bits .and .u64 1 4294967295 = 1 := by have := Mul64.maskN 1 (by decide); simpa using this
  have e2 : Go.bits .and .u64 (n : Int) 4294967295 = (n : Int) := by
    rw [Mul64.maskN n (by omega), Nat.mod_eq_of_lt (by omega)]
  have e3 : (n : Int) / 4294967296 = 0 := by omega
  have e4 : (1 : Int) / 4294967296 = 0 := by decide
  have e0 : IntKind.u64.wrap 0 = 0 := by decide
  have en : IntKind.u64.wrap (n : Int) = (n : Int) := u64_in _ (by omega) (by omega)
  have e5 : Go.bits .and .u64 0 4294967295 = 0 := by have := Mul64.maskN 0 (by decide); simpa using this
  have e6 : (0 : Int) / 4294967296 = 0 := by decide
  unfold bits_Mul.f bits_Mul64.f
  simp only [e1, e2, e3, e4, Int.zero_mul, Int.mul_zero, Int.one_mul, e0, en, Int.add_zero, e5, e6, Option.bind_some]
structure RepAt (w wr : World) (g n m : Nat) (v : Int) (cur : List Value) : Prop where
  blk : wr.heap[g]? = some (.cells cur.toArray 3 (0, 0))
  len : cur.length = n
  one : ∀ i, i < m → cur[i]? = some (.int .i64 v)
  bel : Below w.heap.size w wr
theorem RepAt.cell {w wr : World} {g n m : Nat} {v : Int} {cur : List Value} (h : RepAt w wr g n m v cur) (i : Nat) (hi : i < m) : wr.cell? ⟨g, i, none⟩ = some (.int .i64 v) := by
  have := h.one i hi
  simp only [World.cell?, h.blk]
  simpa using this
theorem getElem?_splice {cur : List Value} {off k : Nat} {v : Value} (h : off + k ≤ cur.length) (i : Nat) : (splice cur off (List.replicate k v))[i]? = if off ≤ i ∧ i < off + k then some v else cur[i]? := by
  unfold splice
  rw [List.length_replicate]
  by_cases h1 : i < off
  · rw [List.getElem?_append_left (by rw [List.length_take]; omega), List.getElem?_take_of_lt h1, if_neg (by omega)]
  · rw [List.getElem?_append_right (by rw [List.length_take]; omega), List.length_take, Nat.min_eq_left (by omega)]
    by_cases h2 : i < off + k
    · rw [List.getElem?_append_left (by rw [List.length_replicate]; omega), List.getElem?_replicate, if_pos (by omega), if_pos (by omega)]
    · rw [List.getElem?_append_right (by rw [List.length_replicate]; omega), List.getElem?_drop, List.length_replicate, if_neg (by omega)]
      congr 1
      omega
set_option maxHeartbeats 8000000 in
set_option maxRecDepth 100000 in
theorem repeat_c (v : Int) (n : Nat) (h0 : 0 < n) (hn : n ≤ 100000) (A : Option Addr) (c : Nat) (w : World) (_hc : 1 ≤ c) (hC : dI.C w A 1 [v]) :
    Calls Try.prog 90 #[.slice A 1 c, .int .i64 n] w fun e w' => ∃ v0 : Value, e = .returned v0 ∧ dI.R 3 w' w.heap.size (fun _ => True) v0 (List.replicate n v) ∧ Below w.heap.size w w' := by
  obtain ⟨b, off, rfl, _, hcell⟩ := C_ints hC (by omega)
  have hcl : w.cell? ⟨b, off, none⟩ = some (.int .i64 v) := hcell 0 (by simp)
  have HCL := Aside0.mk hcl
  have HM := Aside0.mk (fun W => bits_Mul.calls 1 (n : Int) 0 (n : Int) W (mul_one n hn))
  have hmk := run_make_row' (P := Try.prog) 32 3 (.int .i64 0) 8 Try.underlying32 info3 rfl .i64 .i64 n (by omega) (by omega)
  have hbl : b < w.heap.size := by
    simp only [World.cell?] at hcl
    by_cases h : b < w.heap.size
    · exact h
    · rw [Array.getElem?_eq_none (by omega)] at hcl
      simp at hcl
  have HSP : ∀ nd : Nat, Aside0 ((((w.drewN nd).alloc (.cells (madeCells #[.int .i64 0] n) 3)).heap[w.heap.size]? = some (.cells (List.replicate n (.int .i64 0)).toArray 3 (0, 0))) ∧ (((w.drewN nd).alloc (.cells (madeCells #[.int .i64 0] n) 3)).cell? ⟨b, off, none⟩ = some (.int .i64 v)) ∧ Below w.heap.size w ((w.drewN nd).alloc (.cells (madeCells #[.int .i64 0] n) 3))) := fun nd => by
    refine ⟨?_, ?_, ?_⟩
    · have e : madeCells #[Value.int .i64 0] n = (List.replicate n (Value.int .i64 0)).toArray := by rw [← toList_madeCells_one, Array.toArray_toList]
      rw [e]
      show (w.heap.push _)[w.heap.size]? = _
      simp
    · exact (World.cell?_alloc_lt (w := w.drewN nd) (a := ⟨b, off, none⟩) _ hbl).trans hcl
    · exact below_alloc (pw_below_drewN (Below.refl _ _) nd) _
  clear hC hcell hcl
  go_enter Try.func90, Try.ntmps90
  go_wp2_with (first | (go_at_call 117; refine (HM.out _).mono ?_; rintro e w1 ⟨rfl, nd, rfl⟩) | ((with_reducible refine gate_dst (N := 33) rfl ?_); refine wpList_copy_splice rfl (.tmp 31) (.tmp 32) 32 32 rfl 3 Try.underlying32 (by kernel_rfl) (some ⟨w.heap.size, 0, none⟩) (some ⟨b, off, none⟩) n n 1 c rfl rfl w.heap.size 0 (List.replicate n (.int .i64 0)) 3 (HSP nd).out.1 [.int .i64 v] (show 1 = Nat.min 1 n from (Nat.min_eq_left h0).symm) (fun _ => ⟨rfl, _, rfl, ?_⟩) (show 0 + 1 ≤ (List.replicate n (Value.int .i64 0)).length by rw [List.length_replicate]; omega) (fun u hu => by simp at hu; subst hu; rfl) w.heap.size w (HSP nd).out.2.2 (Nat.le_refl _) ?_; (intro j u hj; match j, hj with | 0, hj => simpa [Go.WideShapes.add_plain, ← (Option.some.inj hj)] using (HSP nd).out.2.1 | j + 1, hj => simp at hj); intro w2 hg2 hb2; have HG2 := Aside0.mk hg2.out; have HB2 := Aside0.mk hb2; clear hg2 hb2))
  have HS0 : Aside0 (RepAt w w2 w.heap.size n 1 v (splice (List.replicate n (.int .i64 0)) 0 (List.replicate 1 (.int .i64 v)))) := by
    refine ⟨⟨HG2.out, by rw [length_splice _ _ _ (by simp; omega)]; simp, fun i hi => ?_, HB2.out⟩⟩
    rw [getElem?_splice (by simp; omega), if_pos (by omega)]
  clear HG2 HB2
  go_loopw [8] (fun v8 wr => ∃ m : Nat, v8 = .int .i64 m ∧ 1 ≤ m ∧ m ≤ n ∧ ∃ cur, Aside0 (RepAt w wr w.heap.size n m v cur)) (fun v8 _ => n - (intOf v8).toNat)
  case atStart => exact ⟨1, rfl, Nat.le_refl _, h0, _, HS0⟩
  case round =>
    clear HS0
    obtain ⟨m, rfl, hm1, hmn, cur, HS⟩ := hrel
    by_cases hlt : m < n
    · have hblk := HS.out.blk
      have hbel := HS.out.bel
      obtain ⟨q, hq⟩ : ∃ q, q = Nat.min m (n - m) := ⟨_, rfl⟩
      have hq1 : q ≤ m := by rw [hq]; exact Nat.min_le_left ..
      have hq2 : q ≤ n - m := by rw [hq]; exact Nat.min_le_right ..
      have hq3 : 1 ≤ q := by rw [hq]; exact Nat.le_min.2 ⟨hm1, by omega⟩
      have HQ := Aside0.mk hq
      clear hq
      have HL : Aside0 (m + (List.replicate q (Value.int .i64 v)).length ≤ cur.length) := ⟨by rw [List.length_replicate, HS.out.len]; omega⟩
      have HCE : ∀ W : World, W.heap = wr.heap → Aside0 (∀ j u, (List.replicate q (Value.int .i64 v))[j]? = some u → W.cell? ((⟨w.heap.size, 0, none⟩ : Addr).add j) = some u) := fun W hW => by
        refine ⟨fun j u hj => ?_⟩
        have hj2 : j < q := by
          by_cases h : j < q
          · exact h
          · rw [List.getElem?_eq_none (by rw [List.length_replicate]; omega)] at hj
            cases hj
        rw [List.getElem?_replicate, if_pos hj2] at hj
        rw [← Option.some.inj hj]
        have h2 := HS.out.cell j (show j < m from Nat.lt_of_lt_of_le hj2 hq1)
        rw [Go.WideShapes.add_plain, Nat.zero_add, ← h2]
        simp only [World.cell?, hW]
      have HBL := Aside0.mk (And.intro hblk hbel)
      clear hblk hbel
      go_wp2
      go_region_law (refine step_copy_splice rfl (.tmp 41) (.tmp 44) 32 32 rfl 3 Try.underlying32 (by kernel_rfl) (some ⟨w.heap.size, m, none⟩) (some ⟨w.heap.size, 0, none⟩) (n - m) (n - m) m n (by simp [Act.eval, Act.put]; omega) (by simp [Act.eval, Act.put]) w.heap.size m cur 3 HBL.out.1 (List.replicate q (.int .i64 v)) (by rw [List.length_replicate]; exact HQ.out) (fun _ => ⟨rfl, _, rfl, (HCE _ rfl).out⟩) HL.out (fun u hu => by rw [List.eq_of_mem_replicate hu]; rfl) w.heap.size w (by repeat (first | exact HBL.out.2 | apply pw_below_drewN | apply below_drew1 | apply below_drew)) (Nat.le_refl _) ?_; intro w4 hg4 hb4)
      have HR : Aside0 (RepAt w w4 w.heap.size n (m + q) v (splice cur m (List.replicate q (.int .i64 v)))) := by
        refine ⟨⟨hg4.out, ?_, fun i hi => ?_, hb4⟩⟩
        · rw [length_splice _ _ _ HL.out, HS.out.len]
        · have := HL.out
          rw [List.length_replicate] at this
          rw [getElem?_splice this]
          split
          · rfl
          · exact HS.out.one i (by omega)
      clear hg4 hb4
      go_wp2
      go_roundw
      case rel => exact ⟨m + q, by rw [i64_in _ (by omega) (by omega)]; rfl, by omega, by omega, _, HR⟩
      case measure => simp only [intOf]; rw [i64_in _ (by omega) (by omega)]; simp; omega
    · obtain rfl : m = n := by omega
      go_wp2
      go_ret
      refine ⟨_, rfl, ?_, HS.out.bel⟩
      have hcur : cur = List.replicate m (Value.int .i64 v) := by
        apply List.ext_getElem?
        intro i
        by_cases h : i < m
        · rw [HS.out.one i h, List.getElem?_replicate, if_pos h]
        · rw [List.getElem?_eq_none (by rw [HS.out.len]; omega), List.getElem?_eq_none (by rw [List.length_replicate]; omega)]
      have hb := HS.out.blk
      rw [hcur] at hb
      exact ints_R ⟨by simp, .inr ⟨w.heap.size, m, _, by simp, Nat.le_refl _, hb, by simp, by unfold maxLen; simp; omega, by simp, by simp⟩⟩ (fun _ _ => trivial)
end Go.Proofs.Ytdknhgbjgdmfkaa.P
namespace Go.Proofs.Ytdknhgbjgdmfkaa.P
open Go.RowKit Go.Lib Go.Sort Go.Shelf Go.Proofs.YtdknhgbjgdmfkaaW.PrintWords Go.Proofs.YtdknhgbjgdmfkaaW.PrintLast Go.Proofs.YtdknhgbjgdmfkaaW.PrintMore
theorem cell_one {W : World} {b off : Nat} {v : Int} (h : W.cell? ⟨b, off, none⟩ = some (.int .i64 v)) : dI.C W (some ⟨b, off, none⟩) 1 [v] := by
  refine ⟨rfl, by omega, fun _ => ⟨_, rfl, fun i x hi => ?_⟩⟩
  match i, hi with
  | 0, hi =>
    obtain rfl := Option.some.inj hi
    refine ⟨[.int .i64 v], rfl, rfl, fun j u hj => ?_⟩
    match j, hj with
    | 0, hj =>
      obtain rfl := Option.some.inj hj
      simpa [Go.WideShapes.add_plain] using h
    | j + 1, hj => simp at hj
  | i + 1, hi => simp at hi
set_option maxHeartbeats 1000000 in
set_option maxRecDepth 100000 in
theorem repeat0_c (v : Int) (n : Nat) (h0 : n ≤ 0) (hn : n ≤ 100000) (A : Option Addr) (c : Nat) (w : World) :
    Calls Try.prog 90 #[.slice A 1 c, .int .i64 n] w fun e w' => ∃ v0 : Value, e = .returned v0 ∧ dI.R 3 w' w.heap.size (fun _ => True) v0 (List.replicate n v) ∧ Below w.heap.size w w' := by
  have HM := Aside0.mk (fun W => bits_Mul.calls 1 (n : Int) 0 (n : Int) W (mul_one n hn))
  have hmk := run_make_row' (P := Try.prog) 32 3 (.int .i64 0) 8 Try.underlying32 info3 rfl .i64 .i64 n (by omega) (by omega)
  go_enter Try.func90, Try.ntmps90
  go_wp2_with (first | (go_at_call 117; refine (HM.out _).mono ?_; rintro e w1 ⟨rfl, nd, rfl⟩) | ((with_reducible refine gate_dst (N := 33) rfl ?_); refine wpList_copy_nothing rfl (.tmp 31) (.tmp 32) 32 32 rfl 3 Try.underlying32 (by kernel_rfl) (some ⟨w.heap.size, 0, none⟩) A n n 1 c rfl rfl (by rw [Nat.le_zero.1 h0]; rfl) ?_))
  go_loopw [8] (fun v8 wr => v8 = .int .i64 0 ∧ wr = ((w.drewN nd).alloc (.cells (madeCells #[.int .i64 0] n) 3))) (fun _ _ => 0)
  case atStart => exact ⟨rfl, rfl⟩
  case round =>
    obtain ⟨rfl, rfl⟩ := hrel
    have c0 : decide ((0 : Int) < (n : Int)) = false := decide_eq_false (by omega)
    go_wp2
    go_ret
    obtain rfl := Nat.le_zero.1 h0
    refine ⟨_, rfl, ?_, below_alloc (pw_below_drewN (Below.refl _ _) nd) _⟩
    exact Kd.R_of_own (xs := []) ⟨rfl, .inr ⟨w.heap.size, 0, #[], rfl, Nat.le_refl _, by show (w.heap.push (.cells (madeCells #[Value.int .i64 0] 0) 3))[w.heap.size]? = _; rw [← Array.toArray_toList (xs := madeCells #[Value.int .i64 0] 0), toList_madeCells_one]; simp, Nat.le_refl _, by decide, rfl, rfl⟩⟩ (fun k e => trivial)
end Go.Proofs.Ytdknhgbjgdmfkaa.P
namespace Go.Proofs.Ytdknhgbjgdmfkaa.P
open Go.RowKit Go.Shelf Go.Lib Go.Sort Go.Maps Go.Proofs.YtdknhgbjgdmfkaaW.PrintWords Go.Proofs.YtdknhgbjgdmfkaaW.PrintLast Go.Proofs.YtdknhgbjgdmfkaaW.PrintMore
attribute [local go_sem] Oper.semAt_some
def placeStep (n : Nat) (out : List Int) (p : Nat × Int) : List Int := if 0 ≤ p.2 ∧ p.2 < (n : Int) then out.set p.2.toNat (p.1 : Int) else out
def pairOf (l : List Int) (m : Nat) : Nat × Int := (m, l.getD m 0)
def placesB (l : List Int) (n : Nat) : List Int := (down (pairOf l) l.length l.length).foldl (placeStep n) (List.replicate n (-1))
def rank_places.f (l0 : List Int) (a1 : Int) : Option (List Int) := if 0 ≤ a1 ∧ a1 ≤ 100000 ∧ l0.length ≤ 1000000 then some (placesB l0 a1.toNat) else none
theorem placeStep_len (n : Nat) (out : List Int) (p : Nat × Int) : (placeStep n out p).length = out.length := by unfold placeStep; split <;> simp
theorem places_len (n : Nat) : ∀ (l : List (Nat × Int)) (out : List Int), (l.foldl (placeStep n) out).length = out.length
  | [], out => rfl
  | p :: l, out => by rw [List.foldl_cons, places_len n l, placeStep_len]
structure PlJ (w : World) (n : Nat) (A1 : Option Addr) (c1 : Nat) (W2 W : World) (cur : List Int) : Prop where
  row : dI.R 3 W w.heap.size (fun k => some k = (Value.slice A1 n c1).ownBlock) (.slice A1 n c1) cur
  kept : Kept W2 W (fun k => some k = (Value.slice A1 n c1).ownBlock)
  bel : Below w.heap.size w W
theorem PlJ_own {w W2 : World} {n c1 : Nat} {A1 : Option Addr} (hz : w.heap.size ≤ W2.heap.size) (ho : ∀ k, some k = (Value.slice A1 n c1).ownBlock → k < W2.heap.size) : OwnFrom W2.heap.size (fun (pre : List (Nat × Int)) W => PlJ w n A1 c1 W2 W (pre.foldl (placeStep n) (List.replicate n (-1)))) := fun pre W W' row hs hg hr =>
  ⟨Kd.R_kept hs.row (Kept.of_grown hg (Kept.refl W (fun k => W2.heap.size ≤ k)) (fun k e => .inl (hr k e).1)) (fun k e => by have := ho k e; omega), Kept.of_grown hg hs.kept (fun k e => .inr (hr k e).1), hs.bel.grown hg hs.bel.size (fun j e => by have := (hr j e).1; omega)⟩
theorem K_put2 {S : Nat → Prop} {n : Nat} (W : World) (l : Nat) (o o' : Obj) (hl : n ≤ l) (_ : W.heap[l]? = some o) (_ : o.isCells = false) (_ : o.isWalk = false) : Kept W (W.putObj l o') (fun k => S k ∨ n ≤ k) :=
  Kept.of_grown (grownBy_putObj' W l o') (Kept.refl W _) (fun k e => .inl (.inr (by injection e with e; omega)))
theorem cell_of_blk {w : World} {b t j : Nat} {cs : Array Value} {v : Value} (h : w.heap[b]? = some (.cells cs t (0, 0))) (hj : cs[j]? = some v) : w.cell? ⟨b, j, none⟩ = some v := by simp [World.cell?, h, hj]
theorem heap_new (W : World) (o : Obj) (k : Nat) (hk : k = W.heap.size) : (W.alloc o).heap[k]? = some o := by
  subst hk
  show (W.heap.push o)[W.heap.size]? = some o
  simp
theorem heap_old {W : World} {o c : Obj} {k : Nat} (h : W.heap[k]? = some c) : (W.alloc o).heap[k]? = some c := by
  have hk : k < W.heap.size := by
    by_cases hk : k < W.heap.size
    · exact hk
    · rw [Array.getElem?_eq_none (by omega)] at h
      cases h
  rw [Below.heap_alloc _ _ _ hk]
  exact h
theorem R_int_cell {W : World} {base g n cap : Nat} {ok : Nat → Prop} {xs : List Int} (h : dI.R 3 W base ok (.slice (some ⟨g, 0, none⟩) n cap) xs) (i : Nat) (hi : i < n) : W.cell? ⟨g, i, none⟩ = some (.int .i64 (xs.getD i 0)) ∧ W.frozen? ⟨g, i, none⟩ = false := by
  have := Kd.R_celln (0 : Int) h (i : Int) (by omega) (by omega)
  exact this
theorem rep_c (v : Int) (n : Nat) (hn : n ≤ 100000) (A : Option Addr) (c : Nat) (w : World) (hc : 1 ≤ c) (hC : dI.C w A 1 [v]) :
    Calls Try.prog 90 #[.slice A 1 c, .int .i64 n] w fun e w' => ∃ v0 : Value, e = .returned v0 ∧ dI.R 3 w' w.heap.size (fun _ => True) v0 (List.replicate n v) ∧ Below w.heap.size w w' := by
  by_cases h : 0 < n
  · exact repeat_c v n h hn A c w hc hC
  · exact repeat0_c v n (by omega) hn A c w
set_option maxHeartbeats 8000000 in
set_option maxRecDepth 100000 in
theorem places_in (A0 : Option Addr) (c0 : Nat) (l0 : List Int) (n : Nat) (w : World) (hr0 : dI.C w A0 l0.length l0) (hn : n ≤ 100000) (hl : l0.length ≤ 1000000) :
    CallsIn Fence.wide 6 Try.prog 71 #[.slice A0 l0.length c0, .int .i64 n] w fun e w' => ∃ v0_ : Value, e = .returned v0_ ∧ dI.R 3 w' w.heap.size (fun _ => True) v0_ (placesB l0 n) ∧ Below w.heap.size w w' := by
  have HC := Aside0.mk hr0
  obtain ⟨N, en⟩ : ∃ N, N = l0.length := ⟨_, rfl⟩
  have HN := Aside0.mk en
  have HR := Aside0.mk (fun A c (hc : 1 ≤ c) W (hC : dI.C W A 1 [-1]) => rep_c (-1) n hn A c W hc hC)
  rw [← en] at hr0 hl ⊢
  clear hr0 en
  refine callsIn_of_wp_marks Try.func71 rfl trivial ?_ rfl
  simp only [Try.ntmps71, List.size_toArray, List.length_cons, List.length_nil, Nat.reduceAdd, Nat.reduceSub, Array.replicate_succ, Array.replicate_zero, List.push_toArray, List.append_toArray, List.nil_append, List.cons_append]
  gi_wp2_with (first | (refine ⟨trivial, ?_⟩; gi_at_call 90; refine (callsIn_wide.2 (HR.out _ _ (by decide) _ (cell_one (by simp)))).mono ?_; rintro e w1 ⟨v1, rfl, ho1, hb1⟩; have HO1 := Aside0.mk ho1; have HB1 := Aside0.mk hb1; clear ho1 hb1; have hs1 := Kd.R_slice HO1.out; rw [List.length_replicate] at hs1; obtain ⟨A1, c1, rfl⟩ := hs1) | (refine ⟨trivial, ?_⟩; gi_at_call 91; refine (back_in Fence.wide _ trivial rfl _ _ _ _).mono ?_; rintro e w2 ⟨rfl, rfl⟩))
  have hs1 := HB1.out.size
  rw [World.size_alloc] at hs1
  have hbw : Below w.heap.size w w1 := (below_alloc (Below.refl _ w) _).trans (HB1.out.mono (by simp))
  obtain ⟨W2, hW2⟩ : ∃ W2, (w1.alloc (Obj.cells #[Value.slice A1 n c1] 32)).alloc (Obj.cells #[Value.slice A0 N c0] 32) = W2 := ⟨_, rfl⟩
  have hz : W2.heap.size = w1.heap.size + 2 := by rw [← hW2]; simp
  have h0 : W2.heap[w1.heap.size]? = some (Obj.cells #[Value.slice A1 n c1] 32) := by rw [← hW2]; exact heap_old (heap_new _ _ _ rfl)
  have h1 : W2.heap[w1.heap.size + 1]? = some (Obj.cells #[Value.slice A0 N c0] 32) := by rw [← hW2]; exact heap_new _ _ _ (by simp)
  have hbel : Below w1.heap.size w1 W2 := by rw [← hW2]; exact below_alloc (below_alloc (Below.refl _ _) _) _
  have HOB : ∀ k, some k = (Value.slice A1 n c1).ownBlock → k < w1.heap.size ∧ w.heap.size + 1 ≤ k := fun k e => ⟨Kd.R_lt HO1.out k e.symm, by have := Kd.R_base HO1.out k e.symm; rwa [World.size_alloc] at this⟩
  have hR2 : dI.R 3 W2 w.heap.size (fun k => some k = (Value.slice A1 n c1).ownBlock) (.slice A1 n c1) (List.replicate n (-1)) := Kd.R_lower (Kd.R_below (Kd.R_tight rfl HO1.out) hbel) (by simp)
  rw [hW2]
  have hI6 : ∀ k, k < N → ∃ b off, ¬ (some b = (Value.slice A1 n c1).ownBlock ∨ W2.heap.size ≤ b) ∧ A0 = some ⟨b, off, none⟩ ∧ W2.cell? ⟨b, off + k, none⟩ = some (.int .i64 (l0.getD k 0)) := by
    intro k hk
    obtain ⟨b, off, e, _, hc⟩ := C_ints HC.out (by have := HN.out; omega)
    have hck := hc k (by have := HN.out; omega)
    have hlt : b < w.heap.size := World.block_lt_of_cell? w ⟨b, off + k, none⟩ hck
    refine ⟨b, off, ?_, e, (hbel.cell (p := ⟨b, off + k, none⟩) (by show b < w1.heap.size; omega)).trans ((hbw.cell (p := ⟨b, off + k, none⟩) hlt).trans hck)⟩
    rintro (h | h)
    · have := HOB b h; omega
    · omega
  have hnB : ¬ (some (w1.heap.size + 1) = (Value.slice A1 n c1).ownBlock ∨ W2.heap.size ≤ w1.heap.size + 1) := by
    rintro (h | h)
    · have := HOB _ h; omega
    · omega
  refine wpIn_rangeFunc_ownG rfl (by decide) (gf := 118) (lb := #[.pointer (some ⟨w1.heap.size + 1, 0, none⟩)]) rfl trivial (enters_of Try.func118 (by kernel_rfl) rfl)
    (back_stops (pairOf l0) (fun p : Nat × Int => p) (fun k => some k = (Value.slice A1 n c1).ownBlock ∨ W2.heap.size ≤ k) Fence.wide 5 trivial rfl (by decide) (w1.heap.size + 1) N c0 A0 l0 HN.out.symm (fun m _ => rfl) (by omega) W2 hnB (cell_of_blk h1 rfl) hI6)
    (fun h1 h2 => h1.then_ h2 (fun k hk => .inl hk)) K_put2 (Below.refl _ _) (fun _ => rfl)
    (fun pre W => PlJ w n A1 c1 W2 W (pre.foldl (placeStep n) (List.replicate n (-1))))
    (fun _ _ _ => False) (PlJ_own (by omega) (fun k e => by have := HOB k e; omega)) (fun _ _ _ _ _ hs _ _ => hs) ⟨hR2, Kept.refl _ _, hbw.trans (hbel.mono (by omega))⟩
    (fun x => { tmps := #[Value.slice A0 N c0, Value.int IntKind.i64 n, undef, undef, Value.slice none 0 0,
          Value.pointer (some { block := w1.heap.size, off := 0 }), .int .i64 (x.1 : Int), .int .i64 x.2,
          Value.slice (some { block := w.heap.size, off := 0 }) 1 1, Value.int IntKind.i64 n, Value.slice A1 n c1,
          Value.slice A0 N c0,
          Value.func (Fn.func 118) #[] #[Value.pointer (some { block := w1.heap.size + 1, off := 0 })], .int .i64 (x.1 : Int), .int .i64 x.2,
          undef, undef, undef, undef, undef, undef, undef, undef, undef, undef, undef, undef, undef], defers := [] }) ?assign ?body ?done ?stop
  case assign =>
    intro l x W K hK
    gi_wp2
    exact hK
  case body =>
    rintro l pre ⟨m, y⟩ W ⟨hr, hk, hb⟩ hlt
    have c0' := cell_of_blk (j := 0) (blk_kept h0 hk (fun e => by have := HOB _ e; omega)) rfl
    obtain ⟨cur, ecur⟩ : ∃ cur, cur = pre.foldl (placeStep n) (List.replicate n (-1)) := ⟨_, rfl⟩
    rw [← ecur] at hr
    have hcl : cur.length = n := by rw [ecur, places_len, List.length_replicate]
    have hJn : (pre ++ [((m, y) : Nat × Int)]).foldl (placeStep n) (List.replicate n (-1)) = placeStep n cur (m, y) := by rw [List.foldl_append, ← ecur]; rfl
    by_cases g0 : 0 ≤ y
    · have b0 : decide (0 ≤ y) = true := decide_eq_true g0
      by_cases g1 : y < (n : Int)
      · have b1 : decide (y < (n : Int)) = true := decide_eq_true g1
        obtain ⟨g, cap, e, hg1, hg2, _⟩ := Kd.R_form hr (by omega)
        rw [hcl] at e
        injection e with e1 e2 e3
        subst e1
        subst e3
        obtain ⟨j, rfl⟩ : ∃ j : Nat, y = (j : Int) := ⟨y.toNat, by omega⟩
        have hj : j < n := by omega
        have hcf := R_int_cell hr j hj
        obtain ⟨hc1, hf1⟩ := hcf
        obtain ⟨old, eold⟩ : ∃ old, old = cur.getD j 0 := ⟨_, rfl⟩
        rw [← eold] at hc1
        have HRP := Aside0.mk (Kd.R_putn hr (j : Int) (m : Int))
        have HJN := Aside0.mk hJn
        have HKB := Aside0.mk (And.intro hk hb)
        clear hk hb hJn ecur eold hr
        gi_wp2
        have es : placeStep n cur (m, (j : Int)) = cur.set (j : Int).toNat (m : Int) := by unfold placeStep; rw [if_pos ⟨g0, g1⟩]
        refine ⟨KeepsFrom.of_grownBy (Go.Lib.grownBy_setCell W g j _) (fun k e => by injection e with e; have := HOB k (by rw [← e]; rfl); omega), (Kept.refl W _).setCell (p := ⟨g, j, none⟩) (.inl (.inl rfl)) _, ?_⟩
        show PlJ _ _ _ _ _ _ _
        rw [HJN.out, es]
        exact ⟨HRP.out, HKB.out.1.setCell (p := ⟨g, j, none⟩) (.inl rfl) _, HKB.out.2.setCell hg1 _⟩
      · have b1 : decide (y < (n : Int)) = false := decide_eq_false g1
        have HRP := Aside0.mk hr
        have HJN := Aside0.mk hJn
        have HKB := Aside0.mk (And.intro hk hb)
        clear hk hb hJn ecur hr
        gi_wp2
        have es : placeStep n cur (m, y) = cur := by unfold placeStep; rw [if_neg (fun h => by have := h.2; dsimp only at this; omega)]
        refine ⟨KeepsFrom.refl _ W, Kept.refl _ _, ?_⟩
        show PlJ _ _ _ _ _ _ _
        rw [HJN.out, es]
        exact ⟨HRP.out, HKB.out.1, HKB.out.2⟩
    · have b0 : decide (0 ≤ y) = false := decide_eq_false g0
      have HRP := Aside0.mk hr
      have HJN := Aside0.mk hJn
      have HKB := Aside0.mk (And.intro hk hb)
      clear hk hb hJn ecur hr
      gi_wp2
      have es : placeStep n cur (m, y) = cur := by unfold placeStep; rw [if_neg (fun h => by have := h.1; dsimp only at this; omega)]
      refine ⟨KeepsFrom.refl _ W, Kept.refl _ _, ?_⟩
      show PlJ _ _ _ _ _ _ _
      rw [HJN.out, es]
      exact ⟨HRP.out, HKB.out.1, HKB.out.2⟩
  case done =>
    rintro D ys W hD rfl ⟨hr, hk, hb⟩ hK
    have c0' := cell_of_blk (j := 0) (blk_kept h0 hk (fun e => by have := HOB _ e; omega)) rfl
    have HRR := Aside0.mk hr
    have HBB := Aside0.mk hb
    clear hr hb
    gi_wp2
    refine ⟨by simp, .inl ⟨_, _, rfl, run_takeDeferred hK, ?_⟩⟩
    refine ⟨_, results_tmp rfl _ _ _, ?_⟩
    have hgr := grownBy_putObj' W D (.deferred none)
    refine ⟨_, rfl, ?_, HBB.out.grown hgr HBB.out.size (fun j e => by injection e with e; omega)⟩
    have hq := Kd.R_kept HRR.out (Kept.of_grown hgr (Kept.refl W (fun k => k = D)) (fun k e => .inl (by injection e with e; exact e.symm))) (fun k e => by have := HOB k e; omega)
    have ep : placesB l0 n = (down (pairOf l0) N N).foldl (placeStep n) (List.replicate n (-1)) := by unfold placesB; rw [← HN.out]
    rw [ep]
    exact Kd.R_mono hq (fun _ _ => trivial)
  case stop =>
    rintro D c pre W _ _ h _
    exact h.elim
theorem rank_places.calls (A0 : Option Addr) (c0 : Nat) (l0 : List Int) (a1 : Int) (r : List Int) (w : World) (hr0 : dI.C w A0 l0.length l0) (_hc0 : l0.length ≤ c0) (h : rank_places.f l0 a1 = some r) :
    Calls Try.prog 71 #[.slice A0 l0.length c0, .int .i64 a1] w fun e w' => ∃ v0_ : Value, e = .returned v0_ ∧ dI.R 3 w' w.heap.size (fun _ => True) v0_ r ∧ Below w.heap.size w w' := by
  unfold rank_places.f at h
  by_cases hc : 0 ≤ a1 ∧ a1 ≤ 100000 ∧ l0.length ≤ 1000000
  · rw [if_pos hc] at h
    obtain rfl := Option.some.inj h
    obtain ⟨n, rfl⟩ : ∃ n : Nat, a1 = (n : Int) := ⟨a1.toNat, by omega⟩
    rw [Int.toNat_natCast]
    exact callsIn_wide.1 (places_in A0 c0 l0 n w hr0 (by omega) hc.2.2)
  · rw [if_neg hc] at h
    cases h
end Go.Proofs.Ytdknhgbjgdmfkaa.P
namespace Go.Proofs.Ytdknhgbjgdmfkaa.P
open Go.RowKit Go.Shelf Go.Lib Go.Sort Go.Proofs.YtdknhgbjgdmfkaaW.PrintWords Go.Proofs.YtdknhgbjgdmfkaaW.PrintLast Go.Proofs.YtdknhgbjgdmfkaaW.PrintMore
section
variable {w : World} {b t : Nat} {v0 v1 v2 v3 v4 v5 v6 v7 u : Value}
theorem cells8 (h : w.heap[b]? = some (.cells #[v0, v1, v2, v3, v4, v5, v6, v7] t (0, 0))) : w.cell? ⟨b, 0, none⟩ = some v0 ∧ w.cell? ⟨b, 1, none⟩ = some v1 ∧ w.cell? ⟨b, 2, none⟩ = some v2 ∧ w.cell? ⟨b, 3, none⟩ = some v3 ∧ w.cell? ⟨b, 4, none⟩ = some v4 ∧ w.cell? ⟨b, 5, none⟩ = some v5 ∧ w.cell? ⟨b, 6, none⟩ = some v6 ∧ w.cell? ⟨b, 7, none⟩ = some v7 := by
  refine ⟨?_, ?_, ?_, ?_, ?_, ?_, ?_, ?_⟩ <;> simp [World.cell?, h]
theorem free8 (h : w.heap[b]? = some (.cells #[v0, v1, v2, v3, v4, v5, v6, v7] t (0, 0))) (i : Nat) : w.frozen? ⟨b, i, none⟩ = false := by simp [World.frozen?, h]
theorem set8 (h : w.heap[b]? = some (.cells #[v0, v1, v2, v3, v4, v5, v6, v7] t (0, 0))) (i : Nat) : (w.setCell ⟨b, i, none⟩ u).heap[b]? = some (.cells (#[v0, v1, v2, v3, v4, v5, v6, v7].setIfInBounds i u) t (0, 0)) := by
  simp only [World.setCell, Array.getElem?_modify]
  rw [if_pos trivial, h]
  rfl
end
theorem Fr.of_grown {S : Nat → Prop} {a w' : World} {row : Option Nat} (hg : a.grownBy w' row) (hr : ∀ k, row = some k → S k) : Fr S a w' := (Fr.refl S a).grown hg (fun k e => .inl (hr k e))
theorem info_sstep : (Try.prog.info? 90).map (fun i => (i.zero, i.size, i.bytes)) = some (some (.agg #[.int .i64 0, .int .i64 0]), 2, 16) := by kernel_rfl
section
variable {w : World} {B t base : Nat} {v0 v1 v2 v3 v4 v5 v6 v7 : Value} {S : Nat → Prop} {xs : List Int} {st : List (Int × Int)}
set_option maxHeartbeats 4000000 in
set_option maxRecDepth 100000 in
theorem ipush_c (x : Int) (hB : w.heap[B]? = some (.cells #[v0, v1, v2, v3, v4, v5, v6, v7] t (0, 0))) (hR : dI.R 3 w base S v3 xs) (hS : ¬ S B) (hbase : base ≤ w.heap.size) (hn : xs.length ≤ 1000000) :
    Calls Try.prog 106 #[.pointer (some ⟨B, 3, none⟩), .int .i64 x] w fun e w' => e = .returned (.tuple #[]) ∧ ∃ v, w'.heap[B]? = some (.cells #[v0, v1, v2, v, v4, v5, v6, v7] t (0, 0)) ∧ dI.R 3 w' base (fun k => (S k ∨ w.heap.size ≤ k) ∧ k ≠ B) v (xs ++ [x]) ∧ Fr (fun k => S k ∨ k = B) w w' := by
  have HB := Aside0.mk hB
  have HR := Aside0.mk hR
  obtain ⟨_, _, _, hc, _⟩ := cells8 hB
  have hf := free8 hB 3
  have HBL := Aside0.mk (Below.refl base w)
  clear hB hR
  go_enter Try.func106, Try.ntmps106
  go_wp2_with (at_builtin; refine Kd.R_append (Kd.int .i64) (w0 := w) base rfl (.tmp 7) (.tmp 9) 65 3 (.int .i64 0) 8 rfl Try.underlying65 info3 rfl (by decide) (by omega) v3 xs x [.int .i64 x] (fun k => S k ∨ w.heap.size ≤ k) (fun _ => False) rfl rfl rfl (fun _ hk => hk.elim) (fun k hk => .inr hk) (Kd.R_mono HR.out (fun k hk => .inl hk)) HBL.out hbase (by omega) ?_; intro v8 w8 ho8 hb8 hg8 hat8; obtain ⟨A8, c8, rfl⟩ := Kd.R_slice ho8; have HO8 := Aside0.mk ho8; have HG8 := Aside0.mk hg8; have HF8 := Aside0.mk ((Fr.of_grown (S := fun k => S k ∨ k = B) hg8 (fun k e => .inl (HR.out.1 k e)))); have HB8 := Aside0.mk ((hg8.block B (blk_lt HB.out) (fun e => hS (HR.out.1 B e.symm))).trans HB.out); have hc8 := (cells8 HB8.out).2.2.2.1; have hf8 := free8 HB8.out 3; clear ho8 hb8 hg8 hat8)
  go_end0
  have HO := HO8.out
  rw [List.length_append, List.length_singleton] at HO
  refine ⟨rfl, _, set8 HB8.out 3, Kd.R_mono (Kd.R_far (ok := fun k => (S k ∨ w.heap.size ≤ k) ∧ k ≠ B) (Kd.R_mono (Kd.R_bound HO) (fun k hk => ⟨hk.1, ?_⟩)) (fun k hk => hk.2) _) (fun k hk => hk), HF8.out.setCell (.inl (.inr rfl)) _⟩
  rintro rfl
  rcases hk.1 with h1 | h1
  · exact hS h1
  · have := blk_lt HB.out; omega
set_option maxHeartbeats 4000000 in
set_option maxRecDepth 100000 in
theorem ipop_c {n : Nat} (hB : w.heap[B]? = some (.cells #[v0, v1, v2, v3, v4, v5, v6, v7] t (0, 0))) (hR : dI.R 3 w base S v3 xs) (hS : ¬ S B) (hn : xs.length = n + 1) (hl : n ≤ 1000000) :
    Calls Try.prog 108 #[.pointer (some ⟨B, 3, none⟩)] w fun e w' => e = .returned (.int .i64 (xs.getD n 0)) ∧ ∃ v, w'.heap[B]? = some (.cells #[v0, v1, v2, v, v4, v5, v6, v7] t (0, 0)) ∧ dI.R 3 w' base S v (xs.take n) ∧ Fr (fun k => k = B) w w' := by
  have HB := Aside0.mk hB
  have HR := Aside0.mk hR
  obtain ⟨_, _, _, hc, _⟩ := cells8 hB
  have hf := free8 hB 3
  obtain ⟨g, cap, rfl, _, _, _, hcap⟩ : ∃ g cap, v3 = .slice (some ⟨g, 0, none⟩) (n + 1) cap ∧ True ∧ True ∧ True ∧ n + 1 ≤ cap := by
    obtain ⟨g, cap, e, _⟩ := Kd.R_form hR (by omega)
    subst e
    have := (Kd.R_reads' hR).2.1
    rw [hn] at this ⊢
    exact ⟨g, cap, rfl, trivial, trivial, trivial, this⟩
  have hx0 := (Kd.R_celln 0 hR (n : Int) (by omega) (by omega)).1
  obtain ⟨x, ex⟩ : ∃ x, x = xs.getD n 0 := ⟨_, rfl⟩
  have hx : w.cell? ⟨g, n, none⟩ = some (.int .i64 x) := by
    rw [ex]
    rw [Int.toNat_natCast] at hx0
    exact hx0
  have HN := Aside0.mk hn
  rw [← ex]
  clear hB hR hx0 ex hn
  go_enter Try.func108, Try.ntmps108
  go_wp2
  go_quiet ((fail))
  go_wp2
  go_region
  all_goals go_wp2
  go_ret
  refine ⟨rfl, _, set8 (w := w.drewN _) HB.out 3, Kd.R_far (p := ⟨B, 3, none⟩) (Kd.R_drewN (Kd.R_take HR.out (by have := HN.out; omega)) _) (fun k hk (e : k = B) => hS (e ▸ hk)) _, (Fr.drewN (fun k => k = B) w _).setCell (.inl rfl) _⟩
theorem wpush_end {w W1 : World} {S : Nat → Prop} {v v' : Value} {B : Nat} (hS : ¬ S B) (hz : w.heap.size ≤ W1.heap.size) (hV : ∀ k, v.ownBlock = some k → S k) (hB : B < w.heap.size) (hat : v'.ownBlock = v.ownBlock ∨ ∃ b, v'.ownBlock = some b ∧ W1.drew.heap.size ≤ b) : ∀ k, v'.ownBlock = some k → (S k ∨ w.heap.size ≤ k) ∧ k ≠ B := by
  intro k hk
  rcases hat with e | ⟨b, e, hb⟩
  · rw [e] at hk
    exact ⟨.inl (hV k hk), fun e => hS (e ▸ hV k hk)⟩
  · rw [e] at hk
    injection hk with hk
    have hb' : W1.heap.size ≤ b := hb
    exact ⟨.inr (by omega), by omega⟩
set_option maxHeartbeats 4000000 in
set_option maxRecDepth 100000 in
theorem wpush_c (a k : Int) {n : Nat} (hB : w.heap[B]? = some (.cells #[v0, v1, v2, v3, v4, v5, v6, v7] t (0, 0))) (hR : w.ownsRow base 90 2 v6 n (wayCells st)) (hS : ¬ S B) (hv : ∀ k, v6.ownBlock = some k → S k) (hbase : base ≤ w.heap.size) (hn : n ≤ 1000000) :
    Calls Try.prog 107 #[.pointer (some ⟨B, 6, none⟩), .agg #[.int .i64 a, .int .i64 k]] w fun e w' => e = .returned (.tuple #[]) ∧ ∃ v, w'.heap[B]? = some (.cells #[v0, v1, v2, v3, v4, v5, v, v7] t (0, 0)) ∧ w'.ownsRow base 90 2 v (n + 1) (wayCells ((a, k) :: st)) ∧ (∀ k, v.ownBlock = some k → (S k ∨ w.heap.size ≤ k) ∧ k ≠ B) ∧ Fr (fun k => S k ∨ k = B) w w' := by
  have HB := Aside0.mk hB
  have HR := Aside0.mk hR
  have HV := Aside0.mk hv
  obtain ⟨_, _, _, _, _, _, hc, _⟩ := cells8 hB
  have hf := free8 hB 6
  have HBL := Aside0.mk (Below.refl base w)
  have hca : ∀ o, (w.alloc o).cell? ⟨B, 6, none⟩ = some v6 := fun o => (World.cell?_alloc_lt w o ⟨B, 6, none⟩ (blk_lt hB)).trans hc
  have hsl : ∃ A c, v6 = .slice A n c := own_slice hR
  obtain ⟨A, c, rfl⟩ := hsl
  clear hB hR hv
  go_enter Try.func107, Try.ntmps107
  go_upto_region 1 with (fail)
  obtain ⟨W1, hW1⟩ : ∃ W1, W1 = w.alloc (.cells #[.int .i64 a, .int .i64 k] 90) := ⟨_, rfl⟩
  have hz1 : w.heap.size ≤ W1.heap.size := by rw [hW1, size_alloc1]; omega
  have HF1 := Aside0.mk (show Fr (fun k => S k ∨ k = B) w W1.drew by rw [hW1]; exact ((Fr.refl _ w).alloc _).trans (Fr.drewN (fun _ => False) _ 1) (fun _ h => h.elim))
  have HR1 : Aside0 (W1.drew.ownsRow base 90 2 (.slice A n c) n (wayCells st)) := ⟨by rw [hW1]; exact own_move (HR.out.alloc _) (fun k hk => rfl)⟩
  have HB1 : Aside0 (W1.drew.heap[B]? = some (.cells #[v0, v1, v2, v3, v4, v5, .slice A n c, v7] t (0, 0))) := ⟨by rw [hW1]; exact (Below.heap_alloc _ _ _ (blk_lt HB.out)).trans HB.out⟩
  have HBL1 : Aside0 (RowKit.Below base w W1.drew) := ⟨by rw [hW1]; exact below_drew (HBL.out.alloc hbase _)⟩
  have hc1 := (cells8 HB1.out).2.2.2.2.2.2.1
  have hcb : W1.cell? ⟨w.heap.size, 0, none⟩ = some (.int .i64 a) ∧ W1.cell? ⟨w.heap.size, 1, none⟩ = some (.int .i64 k) := by
    have h0 := heap_alloc_new w (.cells #[.int .i64 a, .int .i64 k] 90)
    rw [← hW1] at h0
    exact ⟨by simp [World.cell?, h0], by simp [World.cell?, h0]⟩
  rw [← hW1]
  have hbase1 : base ≤ W1.drew.heap.size := Nat.le_trans hbase hz1
  have hca1 : ∀ o, (W1.alloc o).cell? ⟨B, 6, none⟩ = some (.slice A n c) := fun o => (World.cell?_alloc_lt W1 o ⟨B, 6, none⟩ (blk_lt HB1.out)).trans hc1
  have hlt1 : w.heap.size < W1.heap.size := by rw [hW1, size_alloc1]; omega
  have hcb1 : ∀ o, (W1.alloc o).cell? ⟨w.heap.size, 0, none⟩ = some (.int .i64 a) ∧ (W1.alloc o).cell? ⟨w.heap.size, 1, none⟩ = some (.int .i64 k) := fun o => ⟨(World.cell?_alloc_lt W1 o ⟨w.heap.size, 0, none⟩ hlt1).trans hcb.1, (World.cell?_alloc_lt W1 o ⟨w.heap.size, 1, none⟩ hlt1).trans hcb.2⟩
  obtain ⟨hcb0, hcb2⟩ := hcb
  clear hW1 hc hca
  go_region_law (refine step_append_cells (w0 := w) (W := W1.drew) base rfl (.tmp 7) (.tmp 9) 67 90 (.agg #[.int .i64 0, .int .i64 0]) 2 16 rfl Try.underlying67 info_sstep rfl (by decide) (by omega) (.slice A n c) n (wayCells st) [.int .i64 a, .int .i64 k] (by simp [Act.eval]) (by simp [Act.eval]) rfl (fun u hu => by simp at hu; rcases hu with rfl | rfl <;> rfl) HR1.out HBL1.out hbase1 (by omega) ?_; intro v9 w9 ho9 hb9 hg9 hat9; obtain ⟨A9, c9, rfl⟩ := own_slice ho9; have HPW := Aside0.mk ((hg9.block B (blk_lt HB1.out) (fun e => hS (HV.out B e.symm))).trans HB1.out); have hc9 := (cells8 HPW.out).2.2.2.2.2.2.1; have hf9 := free8 HPW.out 6; have HO9 := Aside0.mk ho9; have HF9 := Aside0.mk (HF1.out.trans (Fr.of_grown (S := fun k => S k ∨ k = B) hg9 (fun k e => .inl (HV.out k e))) (fun k h => .inl h)); have HAT9 := Aside0.mk hat9; clear ho9 hb9 hg9 hat9)
  all_goals
    go_end0
    have hbk : ∀ k, (Value.slice A9 (n + 1) c9).ownBlock = some k → (S k ∨ w.heap.size ≤ k) ∧ k ≠ B := wpush_end hS hz1 HV.out (blk_lt HB.out) HAT9.out
    refine ⟨rfl, _, set8 HPW.out 6, ?_, hbk, HF9.out.setCell (.inl (.inr rfl)) _⟩
    rw [wayCells_cons]
    exact own_move HO9.out (fun k hk => Below.heap_setCell _ _ _ _ (hbk k hk).2)
theorem wsl {n : Nat} (hR : w.ownsRow base 90 2 v6 (n + 1) (wayCells st)) : ∃ g c, v6 = .slice (some ⟨g, 0, none⟩) (n + 1) c ∧ g < w.heap.size ∧ n + 1 ≤ c := by
  obtain ⟨g, c, e, _, h, h2⟩ := own_pos hR
  exact ⟨g, c, e, h, h2⟩
set_option maxHeartbeats 4000000 in
set_option maxRecDepth 100000 in
theorem wtop_c {g n c : Nat} (hB : w.heap[B]? = some (.cells #[v0, v1, v2, v3, v4, v5, .slice (some ⟨g, 0, none⟩) (n + 1) c, v7] t (0, 0))) (hn : n ≤ 1000000) (_hg : g < w.heap.size) (_hcap : n + 1 ≤ c) :
    Calls Try.prog 85 #[.pointer (some ⟨B, 6, none⟩)] w fun e w' => e = .returned (.pointer (some ⟨g, n * 2, none⟩)) ∧ ∃ m, w' = w.drewN m := by
  obtain ⟨_, _, _, _, _, _, hc, _⟩ := cells8 hB
  clear hB
  go_enter Try.func85, Try.ntmps85
  go_wp2
  go_quiet ((fail))
  go_wp2
  go_ret
  exact ⟨rfl, nq, rfl⟩
set_option maxHeartbeats 4000000 in
set_option maxRecDepth 100000 in
theorem wpop_c {a k : Int} {g n c : Nat} (hB : w.heap[B]? = some (.cells #[v0, v1, v2, v3, v4, v5, .slice (some ⟨g, 0, none⟩) (n + 1) c, v7] t (0, 0))) (hR : w.ownsRow base 90 2 (.slice (some ⟨g, 0, none⟩) (n + 1) c) (n + 1) (wayCells ((a, k) :: st))) (hst : st.length = n) (hS : g ≠ B) (hn : n ≤ 1000000) :
    Calls Try.prog 87 #[.pointer (some ⟨B, 6, none⟩)] w fun e w' => e = .returned (.agg #[.int .i64 a, .int .i64 k]) ∧ w'.heap[B]? = some (.cells #[v0, v1, v2, v3, v4, v5, .slice (some ⟨g, 0, none⟩) n c, v7] t (0, 0)) ∧ w'.ownsRow base 90 2 (.slice (some ⟨g, 0, none⟩) n c) n (wayCells st) ∧ Fr (fun k => k = B) w w' := by
  have HB := Aside0.mk hB
  have HR := Aside0.mk hR
  obtain ⟨_, _, _, _, _, _, hc, _⟩ := cells8 hB
  have hf := free8 hB 6
  have hlB := blk_lt hB
  subst hst
  obtain ⟨hx0, hx1, _⟩ := way_cells hR
  obtain ⟨gg, _, e, hlg, hcap⟩ := wsl hR
  injection e with e _ e3
  injection e with e
  injection e with e
  subst e e3
  obtain ⟨n, en⟩ : ∃ n, n = st.length := ⟨_, rfl⟩
  rw [← en] at hn hx0 hx1 hc hcap
  have HEN := Aside0.mk en
  clear hB hR en
  go_enter Try.func87, Try.ntmps87
  go_upto_region 1 with (fail)
  obtain ⟨W1, hW1⟩ : ∃ W1, W1 = w.alloc (.cells #[.int .i64 0, .int .i64 0] 90) := ⟨_, rfl⟩
  have hz1 : W1.heap.size = w.heap.size + 1 := by rw [hW1, size_alloc1]
  have HF1 := Aside0.mk (show Fr (fun k => k = B) w W1 by rw [hW1]; exact (Fr.refl _ w).alloc _)
  have HB1 := Aside0.mk (show W1.heap[B]? = some (.cells #[v0, v1, v2, v3, v4, v5, .slice (some ⟨g, 0, none⟩) (st.length + 1) c, v7] t (0, 0)) by rw [hW1]; exact (Below.heap_alloc _ _ _ hlB).trans HB.out)
  have HR1 := Aside0.mk (show W1.ownsRow base 90 2 (.slice (some ⟨g, 0, none⟩) (st.length + 1) c) (st.length + 1) (wayCells ((a, k) :: st)) by rw [hW1]; exact HR.out.alloc _)
  have hc1 : W1.cell? ⟨B, 6, none⟩ = some (.slice (some ⟨g, 0, none⟩) (n + 1) c) := by rw [hW1]; exact (World.cell?_alloc_lt w _ ⟨B, 6, none⟩ hlB).trans hc
  have hy0 : W1.cell? ⟨g, n * 2, none⟩ = some (.int .i64 a) := by rw [hW1]; exact (World.cell?_alloc_lt w _ ⟨g, n * 2, none⟩ hlg).trans hx0
  have hy1 : W1.cell? ⟨g, n * 2 + 1, none⟩ = some (.int .i64 k) := by rw [hW1]; exact (World.cell?_alloc_lt w _ ⟨g, n * 2 + 1, none⟩ hlg).trans hx1
  rw [← hW1]
  have hres : W1.heap[w.heap.size]? = some (.cells #[.int .i64 0, .int .i64 0] 90 (0, 0)) := by rw [hW1]; exact heap_alloc_new w _
  clear hc hx0 hx1 hW1
  go_region
  all_goals go_wp2
  have hne0 : w.heap.size ≠ B := by omega
  have hne1 : w.heap.size + 1 ≠ B := by omega
  obtain ⟨W2, hW2⟩ : ∃ W2, W2 = (W1.alloc (.cells #[.int .i64 a, .int .i64 k] 90)).drew := ⟨_, rfl⟩
  have hlB1 : B < W1.heap.size := by omega
  have HF2 := Aside0.mk (show Fr (fun k => k = B) w W2 by rw [hW2]; exact (HF1.out.alloc _).trans (Fr.drewN (fun _ => False) _ 1) (fun _ h => h.elim))
  have HB2 := Aside0.mk (show W2.heap[B]? = some (.cells #[v0, v1, v2, v3, v4, v5, .slice (some ⟨g, 0, none⟩) (st.length + 1) c, v7] t (0, 0)) by rw [hW2]; exact (Below.heap_alloc _ _ _ hlB1).trans HB1.out)
  have HR2 := Aside0.mk (show W2.ownsRow base 90 2 (.slice (some ⟨g, 0, none⟩) (st.length + 1) c) (st.length + 1) (wayCells ((a, k) :: st)) by rw [hW2]; exact own_move (HR1.out.alloc _) (fun k hk => rfl))
  have hres2 : W2.heap[w.heap.size]? = some (.cells #[.int .i64 0, .int .i64 0] 90 (0, 0)) := by rw [hW2]; exact (Below.heap_alloc _ _ _ (by omega)).trans hres
  have hx2 : W2.heap[w.heap.size + 1]? = some (.cells #[.int .i64 a, .int .i64 k] 90 (0, 0)) := by rw [hW2, ← hz1]; exact heap_alloc_new W1 _
  have hc2 := (cells8 HB2.out).2.2.2.2.2.2.1
  have hf2 := free8 HB2.out 6
  rw [← hW2]
  obtain ⟨e0, e1, e2⟩ : W2.cell? ⟨w.heap.size + 1, 0, none⟩ = some (.int .i64 a) ∧ W2.cell? ⟨w.heap.size + 1, 1, none⟩ = some (.int .i64 k) ∧ ∀ i, W2.frozen? ⟨w.heap.size, i, none⟩ = false := ⟨by simp [World.cell?, hx2], by simp [World.cell?, hx2], fun i => by simp [World.frozen?, hres2]⟩
  obtain ⟨d0, d1⟩ : W2.cell? ⟨w.heap.size, 0, none⟩ = some (.int .i64 0) ∧ W2.cell? ⟨w.heap.size, 1, none⟩ = some (.int .i64 0) := ⟨by simp [World.cell?, hres2], by simp [World.cell?, hres2]⟩
  clear hW2 hc1 hy0 hy1 hres
  rw [← HEN.out] at hc2
  go_region
  all_goals go_wp2
  have hB3 : ((W2.setCell ⟨B, 6, none⟩ (.slice (some ⟨g, 0, none⟩) n c)).setCell ⟨w.heap.size, 0, none⟩ (.int .i64 a)).heap[w.heap.size]? = some (.cells #[.int .i64 a, .int .i64 0] 90 (0, 0)) := heap_setCell_same _ _ _ _ _ _ ((Below.heap_setCell _ _ _ _ hne0).trans hres2)
  have hB4 : (((W2.setCell ⟨B, 6, none⟩ (.slice (some ⟨g, 0, none⟩) n c)).setCell ⟨w.heap.size, 0, none⟩ (.int .i64 a)).setCell ⟨w.heap.size, 1, none⟩ (.int .i64 k)).heap[w.heap.size]? = some (.cells #[.int .i64 a, .int .i64 k] 90 (0, 0)) := heap_setCell_same _ _ _ _ _ _ hB3
  refine bodyPost_ret (results_cell_row rfl _ _ w.heap.size 90 #[.int .i64 a, .int .i64 k] (0, 0) _ rfl hB4 Try.underlying90 rfl (by kernel_rfl)) rfl ?_
  rw [← HEN.out]
  refine ⟨rfl, ?_, ?_, (((HF2.out.setCell (p := ⟨B, 6, none⟩) (.inl rfl) _).setCell (p := ⟨w.heap.size, 0, none⟩) (.inr (Nat.le_refl _)) _).setCell (p := ⟨w.heap.size, 1, none⟩) (.inr (Nat.le_refl _)) _).trans (Fr.drewN (fun _ => False) _ 1) (fun _ h => h.elim)⟩
  · show (((W2.setCell ⟨B, 6, none⟩ (.slice (some ⟨g, 0, none⟩) n c)).setCell ⟨w.heap.size, 0, none⟩ (.int .i64 a)).setCell ⟨w.heap.size, 1, none⟩ (.int .i64 k)).heap[B]? = _
    rw [Below.heap_setCell _ _ _ _ (Ne.symm hne0), Below.heap_setCell _ _ _ _ (Ne.symm hne0)]
    exact set8 HB2.out 6
  · have h3 := HR2.out
    rw [wayCells_cons] at h3
    have h4 := ownsRow_pop (by rw [wayCells_len]) h3
    rw [← HEN.out] at h4
    refine own_move h4 (fun k hk => ?_)
    have hk : k = g := by simpa [Value.ownBlock] using hk.symm
    show (((W2.setCell ⟨B, 6, none⟩ (.slice (some ⟨g, 0, none⟩) n c)).setCell ⟨w.heap.size, 0, none⟩ (.int .i64 a)).setCell ⟨w.heap.size, 1, none⟩ _).heap[k]? = _
    rw [Below.heap_setCell _ _ _ _ (by show k ≠ w.heap.size; omega), Below.heap_setCell _ _ _ _ (by show k ≠ w.heap.size; omega), Below.heap_setCell _ _ _ _ (by show k ≠ B; omega)]
end
end Go.Proofs.Ytdknhgbjgdmfkaa.P
namespace Go.Proofs.Ytdknhgbjgdmfkaa.P
open Go.RowKit Go.Shelf Go.Lib Go.Sort Go.Proofs.YtdknhgbjgdmfkaaW.PrintWords Go.Proofs.YtdknhgbjgdmfkaaW.PrintLast Go.Proofs.YtdknhgbjgdmfkaaW.PrintMore
def hdr (t : Nat × Nat × List Int) : Value := .slice (some ⟨t.1, 0, none⟩) t.2.2.length t.2.1
structure TJ (c : List (List Int)) (n B gm gl gi cm cl ci : Nat) (Ag : Option Addr) (cg : Nat) (w0 w : World) (tg : Nat → Nat) (vo vw vp : Value) (L : List (Nat × Nat × List Int)) (s : TS) : Prop where
  blk : w.heap[B]? = some (.cells #[.slice Ag n cg, .slice (some ⟨gm, 0, none⟩) n cm, .slice (some ⟨gl, 0, none⟩) n cl, vo, .slice (some ⟨gi, 0, none⟩) n ci, .int .i64 s.clk, vw, vp] 69 (0, 0))
  gr : Kd.S dG 32 w w0.heap.size (fun k => tg k = 0) (.slice Ag n cg) c
  met : dI.R 3 w w0.heap.size (fun k => k = gm) (.slice (some ⟨gm, 0, none⟩) n cm) s.met
  low : dI.R 3 w w0.heap.size (fun k => k = gl) (.slice (some ⟨gl, 0, none⟩) n cl) s.low
  inn : dB.R 4 w w0.heap.size (fun k => k = gi) (.slice (some ⟨gi, 0, none⟩) n ci) s.inn
  opn : dI.R 3 w w0.heap.size (fun k => tg k = 3) vo s.opn.reverse
  way : w.ownsRow w0.heap.size 90 2 vw s.way.length (wayCells s.way)
  wtg : ∀ k, vw.ownBlock = some k → tg k = 6
  prt : w.ownsRow w0.heap.size 32 1 vp L.length (L.map hdr)
  ptg : ∀ k, vp.ownBlock = some k → tg k = 7
  rows : ∀ t ∈ L, dI.R 3 w w0.heap.size (fun k => k = t.1) (hdr t) t.2.2 ∧ tg t.1 = 8
  nd : (L.map (fun t => t.1)).Nodup
  hL : L.map (fun t => t.2.2) = s.prt
  tB : tg B = 9
  tm : tg gm = 1
  tl : tg gl = 2
  ti : tg gi = 4
  b0 : w0.heap.size ≤ B
  bel : Below w0.heap.size w0 w
def newt (tg : Nat → Nat) (N i : Nat) : Nat → Nat := fun k => if k < N then tg k else i
theorem newt_lt {tg : Nat → Nat} {N i k : Nat} (h : k < N) : newt tg N i k = tg k := if_pos h
theorem newt_ge {tg : Nat → Nat} {N i k : Nat} (h : N ≤ k) : newt tg N i k = i := if_neg (by omega)
section
variable {c : List (List Int)} {n B gm gl gi cm cl ci : Nat} {Ag : Option Addr} {cg : Nat} {w0 w w' : World} {tg : Nat → Nat} {vo vw vp : Value} {L : List (Nat × Nat × List Int)} {s : TS} {T : Nat → Prop}
theorem own_fr {base e size m : Nat} {v : Value} {xs : List Value} (h : w.ownsRow base e size v m xs) (hf : Fr T w w') (hn : ∀ k, v.ownBlock = some k → ¬ T k) : w'.ownsRow base e size v m xs :=
  own_move h (fun k hk => hf.block k (own_lt h k hk) (hn k hk))
theorem R_fr {α : Type} {d : Kd α} {e base : Nat} {ok : Nat → Prop} {v : Value} {xs : List α} (h : d.R e w base ok v xs) (hf : Fr T w w') (hn : ∀ k, ok k → k < w.heap.size → ¬ T k) : d.R e w' base ok v xs :=
  Kd.R_step h (fun k hk hlt => hf.block k hlt (hn k hk hlt))
structure TJm (c : List (List Int)) (n B gm gl gi cm cl ci : Nat) (Ag : Option Addr) (cg : Nat) (w0 w w' : World) (tg : Nat → Nat) (vo vw vp : Value) (L : List (Nat × Nat × List Int)) (s : TS) (i j : Nat) : Prop where
  gr : Kd.S dG 32 w' w0.heap.size (fun k => newt tg w.heap.size j k = 0) (.slice Ag n cg) c
  met : i ≠ 1 → dI.R 3 w' w0.heap.size (fun k => k = gm) (.slice (some ⟨gm, 0, none⟩) n cm) s.met
  low : i ≠ 2 → dI.R 3 w' w0.heap.size (fun k => k = gl) (.slice (some ⟨gl, 0, none⟩) n cl) s.low
  inn : i ≠ 4 → dB.R 4 w' w0.heap.size (fun k => k = gi) (.slice (some ⟨gi, 0, none⟩) n ci) s.inn
  opn : i ≠ 3 → dI.R 3 w' w0.heap.size (fun k => newt tg w.heap.size j k = 3) vo s.opn.reverse
  way : i ≠ 6 → w'.ownsRow w0.heap.size 90 2 vw s.way.length (wayCells s.way) ∧ ∀ k, vw.ownBlock = some k → newt tg w.heap.size j k = 6
  prt : i ≠ 7 → w'.ownsRow w0.heap.size 32 1 vp L.length (L.map hdr) ∧ ∀ k, vp.ownBlock = some k → newt tg w.heap.size j k = 7
  rows : i ≠ 8 → ∀ t ∈ L, dI.R 3 w' w0.heap.size (fun k => k = t.1) (hdr t) t.2.2 ∧ newt tg w.heap.size j t.1 = 8
  tB : newt tg w.heap.size j B = 9
  tm : newt tg w.heap.size j gm = 1
  tl : newt tg w.heap.size j gl = 2
  ti : newt tg w.heap.size j gi = 4
  bel : Below w0.heap.size w0 w'
theorem TJ.lts (h : TJ c n B gm gl gi cm cl ci Ag cg w0 w tg vo vw vp L s) : B < w.heap.size ∧ (gm < w.heap.size ∧ w0.heap.size ≤ gm) ∧ (gl < w.heap.size ∧ w0.heap.size ≤ gl) ∧ gi < w.heap.size ∧ w0.heap.size ≤ gi :=
  ⟨blk_lt h.blk, ⟨Kd.R_lt h.met gm rfl, Kd.R_base h.met gm rfl⟩, ⟨Kd.R_lt h.low gl rfl, Kd.R_base h.low gl rfl⟩, Kd.R_lt h.inn gi rfl, Kd.R_base h.inn gi rfl⟩
theorem TJ.moved (h : TJ c n B gm gl gi cm cl ci Ag cg w0 w tg vo vw vp L s) (i j : Nat) (hi : i ≠ 0) (hf : Fr T w w') (hT : ∀ k, T k → k < w.heap.size → tg k = i ∨ k = B) (hb : ∀ k, T k → w0.heap.size ≤ k) : TJm c n B gm gl gi cm cl ci Ag cg w0 w w' tg vo vw vp L s i j := by
  obtain ⟨hB, hm, hl, hgi⟩ := h.lts
  have hn : ∀ k, k < w.heap.size → tg k ≠ i → k ≠ B → ¬ T k := fun k hk h1 h2 h3 => (hT k h3 hk).elim h1 h2
  have hBB : ∀ k x, tg k = x → x ≠ 9 → k ≠ B := fun k x e hj e2 => hj (by rw [← e, e2]; exact h.tB)
  have nw : ∀ k, k < w.heap.size → newt tg w.heap.size j k = tg k := fun k hk => newt_lt hk
  refine ⟨?_, fun hne => R_fr h.met hf (fun k e hk => ?_), fun hne => R_fr h.low hf (fun k e hk => ?_), fun hne => R_fr h.inn hf (fun k e hk => ?_), fun hne => ?_, fun hne => ⟨?_, fun k hk => ?_⟩, fun hne => ⟨?_, fun k hk => ?_⟩, fun hne t ht => ?_, ?_, ?_, ?_, ?_, ?_⟩
  · refine Kd.S_mono (Kd.S_step (Kd.S_bound h.gr) (fun k hk hlt => hf.block k hlt (hn k hlt (by rw [hk.1]; exact fun e => hi e.symm) (hBB k 0 hk.1 (by omega))))) (fun k hk => ?_)
    rw [nw k hk.2.2.1]
    exact hk.1
  · subst e; exact hn _ hk (by rw [h.tm]; exact fun e => hne e.symm) (hBB _ _ h.tm (by omega))
  · subst e; exact hn _ hk (by rw [h.tl]; exact fun e => hne e.symm) (hBB _ _ h.tl (by omega))
  · subst e; exact hn _ hk (by rw [h.ti]; exact fun e => hne e.symm) (hBB _ _ h.ti (by omega))
  · refine Kd.R_mono (R_fr (Kd.R_bound h.opn) hf (fun k hk hlt => hn k hlt (by rw [hk.1]; exact fun e => hne e.symm) (hBB k 3 hk.1 (by omega)))) (fun k hk => ?_)
    rw [nw k hk.2.2.1]
    exact hk.1
  · exact own_fr h.way hf (fun k hk => hn k (own_lt h.way k hk) (by rw [h.wtg k hk]; exact fun e => hne e.symm) (hBB k _ (h.wtg k hk) (by omega)))
  · rw [nw k (own_lt h.way k hk)]; exact h.wtg k hk
  · exact own_fr h.prt hf (fun k hk => hn k (own_lt h.prt k hk) (by rw [h.ptg k hk]; exact fun e => hne e.symm) (hBB k _ (h.ptg k hk) (by omega)))
  · rw [nw k (own_lt h.prt k hk)]; exact h.ptg k hk
  · obtain ⟨h1, h2⟩ := h.rows t ht
    refine ⟨R_fr h1 hf (fun k e hk => ?_), ?_⟩
    · subst e; exact hn _ hk (by rw [h2]; exact fun e => hne e.symm) (hBB _ _ h2 (by omega))
    · rw [nw _ (Kd.R_lt h1 t.1 rfl)]; exact h2
  · rw [nw _ hB]; exact h.tB
  · rw [nw _ hm.1]; exact h.tm
  · rw [nw _ hl.1]; exact h.tl
  · rw [nw _ hgi.1]; exact h.ti
  · exact below_fr h.bel hf hb h.bel.size
theorem TJ.len (h : TJ c n B gm gl gi cm cl ci Ag cg w0 w tg vo vw vp L s) : c.length = n ∧ s.met.length = n ∧ s.low.length = n ∧ s.inn.length = n :=
  ⟨(Kd.S_reads' h.gr).1.symm, (Kd.R_reads' h.met).1.symm, (Kd.R_reads' h.low).1.symm, (Kd.R_reads' h.inn).1.symm⟩
theorem TJ.ne (h : TJ c n B gm gl gi cm cl ci Ag cg w0 w tg vo vw vp L s) : gm ≠ B ∧ gl ≠ B ∧ gi ≠ B :=
  ⟨fun e => by have h1 := h.tm; have h2 := h.tB; rw [e] at h1; omega, fun e => by have h1 := h.tl; have h2 := h.tB; rw [e] at h1; omega, fun e => by have h1 := h.ti; have h2 := h.tB; rw [e] at h1; omega⟩
theorem TJ.moved1 (h : TJ c n B gm gl gi cm cl ci Ag cg w0 w tg vo vw vp L s) (i j : Nat) (hi : i ≠ 0) (g : Nat) (hg : tg g = i ∨ g = B) (hb : w0.heap.size ≤ g) (hf : Fr (fun k => k = g) w w') : TJm c n B gm gl gi cm cl ci Ag cg w0 w w' tg vo vw vp L s i j :=
  h.moved i j hi hf (fun k e _ => by rw [e]; exact hg) (fun k e => by rw [e]; exact hb)
theorem TJ.drewN (h : TJ c n B gm gl gi cm cl ci Ag cg w0 w tg vo vw vp L s) (m : Nat) : TJ c n B gm gl gi cm cl ci Ag cg w0 (w.drewN m) (newt tg w.heap.size 9) vo vw vp L s := by
  have k := h.moved1 9 9 (by omega) B (.inr rfl) h.b0 (Fr.drewN _ w m)
  exact ⟨h.blk, k.gr, k.met (by omega), k.low (by omega), k.inn (by omega), k.opn (by omega), (k.way (by omega)).1, (k.way (by omega)).2, (k.prt (by omega)).1, (k.prt (by omega)).2, k.rows (by omega), h.nd, h.hL, k.tB, k.tm, k.tl, k.ti, h.b0, k.bel⟩
theorem TJ.setClk (h : TJ c n B gm gl gi cm cl ci Ag cg w0 w tg vo vw vp L s) (x : Int) : TJ c n B gm gl gi cm cl ci Ag cg w0 (w.setCell ⟨B, 5, none⟩ (.int .i64 x)) (newt tg w.heap.size 9) vo vw vp L { s with clk := x } := by
  have k := h.moved1 9 9 (by omega) B (.inr rfl) h.b0 ((Fr.refl (fun k => k = B) w).setCell (p := ⟨B, 5, none⟩) (.inl rfl) (.int .i64 x))
  exact ⟨set8 h.blk 5, k.gr, k.met (by omega), k.low (by omega), k.inn (by omega), k.opn (by omega), (k.way (by omega)).1, (k.way (by omega)).2, (k.prt (by omega)).1, (k.prt (by omega)).2, k.rows (by omega), h.nd, h.hL, k.tB, k.tm, k.tl, k.ti, h.b0, k.bel⟩
theorem TJ.setM (h : TJ c n B gm gl gi cm cl ci Ag cg w0 w tg vo vw vp L s) (j : Nat) (x : Int) : TJ c n B gm gl gi cm cl ci Ag cg w0 (w.setCell ⟨gm, j, none⟩ (.int .i64 x)) (newt tg w.heap.size 1) vo vw vp L { s with met := s.met.set j x } := by
  have k := h.moved1 1 1 (by omega) gm (.inl h.tm) h.lts.2.1.2 ((Fr.refl (fun k => k = gm) w).setCell (p := ⟨gm, j, none⟩) (.inl rfl) (.int .i64 x))
  exact ⟨(Below.heap_setCell _ _ _ _ h.ne.1.symm).trans h.blk, k.gr, Kd.R_putn h.met (j : Int) x, k.low (by omega), k.inn (by omega), k.opn (by omega), (k.way (by omega)).1, (k.way (by omega)).2, (k.prt (by omega)).1, (k.prt (by omega)).2, k.rows (by omega), h.nd, h.hL, k.tB, k.tm, k.tl, k.ti, h.b0, k.bel⟩
theorem TJ.setL (h : TJ c n B gm gl gi cm cl ci Ag cg w0 w tg vo vw vp L s) (j : Nat) (x : Int) : TJ c n B gm gl gi cm cl ci Ag cg w0 (w.setCell ⟨gl, j, none⟩ (.int .i64 x)) (newt tg w.heap.size 2) vo vw vp L { s with low := s.low.set j x } := by
  have k := h.moved1 2 2 (by omega) gl (.inl h.tl) h.lts.2.2.1.2 ((Fr.refl (fun k => k = gl) w).setCell (p := ⟨gl, j, none⟩) (.inl rfl) (.int .i64 x))
  exact ⟨(Below.heap_setCell _ _ _ _ h.ne.2.1.symm).trans h.blk, k.gr, k.met (by omega), Kd.R_putn h.low (j : Int) x, k.inn (by omega), k.opn (by omega), (k.way (by omega)).1, (k.way (by omega)).2, (k.prt (by omega)).1, (k.prt (by omega)).2, k.rows (by omega), h.nd, h.hL, k.tB, k.tm, k.tl, k.ti, h.b0, k.bel⟩
theorem TJ.setI (h : TJ c n B gm gl gi cm cl ci Ag cg w0 w tg vo vw vp L s) (j : Nat) (x : Bool) : TJ c n B gm gl gi cm cl ci Ag cg w0 (w.setCell ⟨gi, j, none⟩ (.bool x)) (newt tg w.heap.size 5) vo vw vp L { s with inn := s.inn.set j x } := by
  have k := h.moved1 4 5 (by omega) gi (.inl h.ti) h.lts.2.2.2.2 ((Fr.refl (fun k => k = gi) w).setCell (p := ⟨gi, j, none⟩) (.inl rfl) (.bool x))
  exact ⟨(Below.heap_setCell _ _ _ _ h.ne.2.2.symm).trans h.blk, k.gr, k.met (by omega), k.low (by omega), Kd.R_putn h.inn (j : Int) x, k.opn (by omega), (k.way (by omega)).1, (k.way (by omega)).2, (k.prt (by omega)).1, (k.prt (by omega)).2, k.rows (by omega), h.nd, h.hL, k.tB, k.tm, k.tl, k.ti, h.b0, k.bel⟩
def TO (tg : Nat → Nat) (w0 w : World) (i : Nat) : Nat → Prop := fun k => tg k = i ∧ w0.heap.size ≤ k ∧ k < w.heap.size
theorem TJ.opnR (h : TJ c n B gm gl gi cm cl ci Ag cg w0 w tg vo vw vp L s) : dI.R 3 w w0.heap.size (TO tg w0 w 3) vo s.opn.reverse := Kd.R_mono (Kd.R_bound h.opn) (fun _ hk => ⟨hk.1, hk.2.1, hk.2.2.1⟩)
theorem TJ.nB (h : TJ c n B gm gl gi cm cl ci Ag cg w0 w tg vo vw vp L s) (i : Nat) (hi : i ≠ 9) : ¬ TO tg w0 w i B := fun e => hi (by rw [← e.1, h.tB])
theorem TJ.movedO (h : TJ c n B gm gl gi cm cl ci Ag cg w0 w tg vo vw vp L s) (i j : Nat) (hi : i ≠ 0) (hf : Fr (fun k => TO tg w0 w i k ∨ k = B) w w') : TJm c n B gm gl gi cm cl ci Ag cg w0 w w' tg vo vw vp L s i j :=
  h.moved i j hi hf (fun k e _ => e.imp (fun e => e.1) id) (fun k e => e.elim (fun e => e.2.1) (fun e => by rw [e]; exact h.b0))
theorem TJ.pushO (h : TJ c n B gm gl gi cm cl ci Ag cg w0 w tg vo vw vp L s) {v : Value} {x : Int} (hb : w'.heap[B]? = some (.cells #[.slice Ag n cg, .slice (some ⟨gm, 0, none⟩) n cm, .slice (some ⟨gl, 0, none⟩) n cl, v, .slice (some ⟨gi, 0, none⟩) n ci, .int .i64 s.clk, vw, vp] 69 (0, 0)))
    (hr : dI.R 3 w' w0.heap.size (fun k => (TO tg w0 w 3 k ∨ w.heap.size ≤ k) ∧ k ≠ B) v (s.opn.reverse ++ [x])) (hf : Fr (fun k => TO tg w0 w 3 k ∨ k = B) w w') : TJ c n B gm gl gi cm cl ci Ag cg w0 w' (newt tg w.heap.size 3) v vw vp L { s with opn := x :: s.opn } := by
  have k := h.movedO 3 3 (by omega) hf
  refine ⟨hb, k.gr, k.met (by omega), k.low (by omega), k.inn (by omega), ?_, (k.way (by omega)).1, (k.way (by omega)).2, (k.prt (by omega)).1, (k.prt (by omega)).2, k.rows (by omega), h.nd, h.hL, k.tB, k.tm, k.tl, k.ti, h.b0, k.bel⟩
  show dI.R _ _ _ _ v (x :: s.opn).reverse
  rw [List.reverse_cons]
  refine Kd.R_mono hr (fun k hk => ?_)
  rcases hk.1 with e | e
  · rw [newt_lt e.2.2]; exact e.1
  · exact newt_ge e
theorem TJ.popO (h : TJ c n B gm gl gi cm cl ci Ag cg w0 w tg vo vw vp L s) {v : Value} {x : Int} {o : List Int} (ho : s.opn = x :: o) (hb : w'.heap[B]? = some (.cells #[.slice Ag n cg, .slice (some ⟨gm, 0, none⟩) n cm, .slice (some ⟨gl, 0, none⟩) n cl, v, .slice (some ⟨gi, 0, none⟩) n ci, .int .i64 s.clk, vw, vp] 69 (0, 0)))
    (hr : dI.R 3 w' w0.heap.size (TO tg w0 w 3) v (s.opn.reverse.take o.length)) (hf : Fr (fun k => k = B) w w') : TJ c n B gm gl gi cm cl ci Ag cg w0 w' (newt tg w.heap.size 5) v vw vp L { s with opn := o } := by
  have k := h.moved1 3 5 (by omega) B (.inr rfl) h.b0 hf
  refine ⟨hb, k.gr, k.met (by omega), k.low (by omega), k.inn (by omega), ?_, (k.way (by omega)).1, (k.way (by omega)).2, (k.prt (by omega)).1, (k.prt (by omega)).2, k.rows (by omega), h.nd, h.hL, k.tB, k.tm, k.tl, k.ti, h.b0, k.bel⟩
  rw [ho, List.reverse_cons, List.take_append_of_le_length (by simp), List.take_of_length_le (by simp)] at hr
  exact Kd.R_mono hr (fun k hk => by show newt tg w.heap.size 5 k = 3; rw [newt_lt hk.2.2]; exact hk.1)
theorem TJ.pushW (h : TJ c n B gm gl gi cm cl ci Ag cg w0 w tg vo vw vp L s) {v : Value} {a k : Int} (hb : w'.heap[B]? = some (.cells #[.slice Ag n cg, .slice (some ⟨gm, 0, none⟩) n cm, .slice (some ⟨gl, 0, none⟩) n cl, vo, .slice (some ⟨gi, 0, none⟩) n ci, .int .i64 s.clk, v, vp] 69 (0, 0)))
    (hr : w'.ownsRow w0.heap.size 90 2 v (s.way.length + 1) (wayCells ((a, k) :: s.way))) (hv : ∀ k, v.ownBlock = some k → (TO tg w0 w 6 k ∨ w.heap.size ≤ k) ∧ k ≠ B) (hf : Fr (fun k => TO tg w0 w 6 k ∨ k = B) w w') : TJ c n B gm gl gi cm cl ci Ag cg w0 w' (newt tg w.heap.size 6) vo v vp L { s with way := (a, k) :: s.way } := by
  have k := h.movedO 6 6 (by omega) hf
  refine ⟨hb, k.gr, k.met (by omega), k.low (by omega), k.inn (by omega), k.opn (by omega), hr, fun k hk => ?_, (k.prt (by omega)).1, (k.prt (by omega)).2, k.rows (by omega), h.nd, h.hL, k.tB, k.tm, k.tl, k.ti, h.b0, k.bel⟩
  rcases (hv k hk).1 with e | e
  · rw [newt_lt e.2.2]; exact e.1
  · exact newt_ge e
theorem TJ.popW (h : TJ c n B gm gl gi cm cl ci Ag cg w0 w tg vo vw vp L s) {g m cw : Nat} {l : List (Int × Int)} (hvw : vw = .slice (some ⟨g, 0, none⟩) (m + 1) cw) (hm : m = l.length) (hb : w'.heap[B]? = some (.cells #[.slice Ag n cg, .slice (some ⟨gm, 0, none⟩) n cm, .slice (some ⟨gl, 0, none⟩) n cl, vo, .slice (some ⟨gi, 0, none⟩) n ci, .int .i64 s.clk, .slice (some ⟨g, 0, none⟩) m cw, vp] 69 (0, 0)))
    (hr : w'.ownsRow w0.heap.size 90 2 (.slice (some ⟨g, 0, none⟩) m cw) m (wayCells l)) (hf : Fr (fun k => k = B) w w') : TJ c n B gm gl gi cm cl ci Ag cg w0 w' (newt tg w.heap.size 6) vo (.slice (some ⟨g, 0, none⟩) m cw) vp L { s with way := l } := by
  have k := h.moved1 6 6 (by omega) B (.inr rfl) h.b0 hf
  have hgl : g < w.heap.size := own_lt h.way g (by rw [hvw]; simp [Value.ownBlock])
  refine ⟨hb, k.gr, k.met (by omega), k.low (by omega), k.inn (by omega), k.opn (by omega), by rw [← hm]; exact hr, fun k hk => ?_, (k.prt (by omega)).1, (k.prt (by omega)).2, k.rows (by omega), h.nd, h.hL, k.tB, k.tm, k.tl, k.ti, h.b0, k.bel⟩
  have e : k = g := by simpa [Value.ownBlock] using hk.symm
  rw [e, newt_lt hgl]
  exact h.wtg g (by rw [hvw]; simp [Value.ownBlock])
theorem TJ.nextW (h : TJ c n B gm gl gi cm cl ci Ag cg w0 w tg vo vw vp L s) {g m cw : Nat} {a k : Int} {l : List (Int × Int)} (hw : s.way = (a, k) :: l) (hvw : vw = .slice (some ⟨g, 0, none⟩) (m + 1) cw) (hm : m = l.length) :
    TJ c n B gm gl gi cm cl ci Ag cg w0 (w.setCell ⟨g, m * 2 + 1, none⟩ (.int .i64 (k + 1))) (newt tg w.heap.size 6) vo vw vp L (s.adv a k l) := by
  have htg : tg g = 6 := h.wtg g (by rw [hvw]; simp [Value.ownBlock])
  have hgb : w0.heap.size ≤ g := own_base h.way g (by rw [hvw]; simp [Value.ownBlock])
  have hgl : g < w.heap.size := own_lt h.way g (by rw [hvw]; simp [Value.ownBlock])
  have kk := h.moved1 6 6 (by omega) g (.inl htg) hgb ((Fr.refl (fun k => k = g) w).setCell (p := ⟨g, m * 2 + 1, none⟩) (.inl rfl) (.int .i64 (k + 1)))
  have hne : B ≠ g := fun e => by have h2 := h.tB; rw [e, htg] at h2; omega
  refine ⟨(Below.heap_setCell _ _ _ _ hne).trans h.blk, kk.gr, kk.met (by omega), kk.low (by omega), kk.inn (by omega), kk.opn (by omega), ?_, fun k hk => ?_, (kk.prt (by omega)).1, (kk.prt (by omega)).2, kk.rows (by omega), h.nd, h.hL, kk.tB, kk.tm, kk.tl, kk.ti, h.b0, kk.bel⟩
  · have h3 := h.way
    rw [hw, hvw, List.length_cons, ← hm] at h3
    have h4 := (World.ownsRow.stored h3 (m * 2 + 1) (.int .i64 (k + 1))).1
    rw [hm, wayCells_set, ← hm] at h4
    show World.ownsRow _ _ _ _ _ ((a, k + 1) :: l).length (wayCells ((a, k + 1) :: l))
    rw [List.length_cons, ← hm, hvw]
    exact h4
  · rw [newt_lt (own_lt h.way k hk)]; exact h.wtg k hk
theorem TJ.other (h : TJ c n B gm gl gi cm cl ci Ag cg w0 w tg vo vw vp L s) (hf : Fr T w w') (hT : ∀ k, T k → k < w.heap.size → tg k = 5 ∧ ∀ t ∈ L, t.1 ≠ k) (hb : ∀ k, T k → w0.heap.size ≤ k) : TJ c n B gm gl gi cm cl ci Ag cg w0 w' (newt tg w.heap.size 5) vo vw vp L s := by
  have k := h.moved 5 5 (by omega) hf (fun k e hk => .inl (hT k e hk).1) hb
  have hnb : ¬ T B := fun e => by have h1 := (hT B e h.lts.1).1; have h2 := h.tB; omega
  exact ⟨(hf.block B h.lts.1 hnb).trans h.blk, k.gr, k.met (by omega), k.low (by omega), k.inn (by omega), k.opn (by omega), (k.way (by omega)).1, (k.way (by omega)).2, (k.prt (by omega)).1, (k.prt (by omega)).2, k.rows (by omega), h.nd, h.hL, k.tB, k.tm, k.tl, k.ti, h.b0, k.bel⟩
theorem TJ.retag (h : TJ c n B gm gl gi cm cl ci Ag cg w0 w tg vo vw vp L s) {g : Nat} (hg : tg g = 5) : TJ c n B gm gl gi cm cl ci Ag cg w0 w (fun k => if k = g then 8 else tg k) vo vw vp L s := by
  have hx : ∀ k i, tg k = i → i ≠ 5 → (if k = g then 8 else tg k) = i := fun k i e hi => by rw [if_neg (fun e2 => hi (by rw [← e, e2, hg]))]; exact e
  refine ⟨h.blk, Kd.S_mono h.gr (fun k hk => hx k 0 hk (by omega)), h.met, h.low, h.inn, Kd.R_mono h.opn (fun k hk => hx k 3 hk (by omega)), h.way, fun k hk => hx k 6 (h.wtg k hk) (by omega), h.prt, fun k hk => hx k 7 (h.ptg k hk) (by omega), fun t ht => ⟨(h.rows t ht).1, hx _ 8 (h.rows t ht).2 (by omega)⟩, h.nd, h.hL, hx _ 9 h.tB (by omega), hx _ 1 h.tm (by omega), hx _ 2 h.tl (by omega), hx _ 4 h.ti (by omega), h.b0, h.bel⟩
theorem TJ.pushP (h : TJ c n B gm gl gi cm cl ci Ag cg w0 w tg vo vw vp L s) {v : Value} {g cap : Nat} {p : List Int} (hr : dI.R 3 w w0.heap.size (fun k => k = g) (hdr (g, cap, p)) p) (hg : tg g = 8) (hnew : ∀ t ∈ L, t.1 ≠ g)
    (hb : w'.heap[B]? = some (.cells #[.slice Ag n cg, .slice (some ⟨gm, 0, none⟩) n cm, .slice (some ⟨gl, 0, none⟩) n cl, vo, .slice (some ⟨gi, 0, none⟩) n ci, .int .i64 s.clk, vw, v] 69 (0, 0)))
    (ho : w'.ownsRow w0.heap.size 32 1 v (L.length + 1) (L.map hdr ++ [hdr (g, cap, p)])) (hv : ∀ k, v.ownBlock = some k → (TO tg w0 w 7 k ∨ w.heap.size ≤ k) ∧ k ≠ B) (hf : Fr (fun k => TO tg w0 w 7 k ∨ k = B) w w') :
    TJ c n B gm gl gi cm cl ci Ag cg w0 w' (newt tg w.heap.size 7) vo vw v (L ++ [(g, cap, p)]) { s with prt := s.prt ++ [p] } := by
  have k := h.movedO 7 7 (by omega) hf
  have hgl := Kd.R_lt hr g rfl
  refine ⟨hb, k.gr, k.met (by omega), k.low (by omega), k.inn (by omega), k.opn (by omega), (k.way (by omega)).1, (k.way (by omega)).2, ?_, fun k hk => ?_, fun t ht => ?_, ?_, ?_, k.tB, k.tm, k.tl, k.ti, h.b0, k.bel⟩
  · rw [List.length_append, List.length_singleton, List.map_append]; exact ho
  · rcases (hv k hk).1 with e | e
    · rw [newt_lt e.2.2]; exact e.1
    · exact newt_ge e
  · rcases List.mem_append.1 ht with e | e
    · exact k.rows (by omega) t e
    · rw [List.mem_singleton] at e
      subst e
      refine ⟨R_fr hr hf (fun k e hk hn => ?_), by rw [newt_lt hgl]; exact hg⟩
      subst e
      rcases hn with e | e
      · rw [e.1] at hg; omega
      · rw [e, h.tB] at hg; omega
  · rw [List.map_append, List.nodup_append]
    refine ⟨h.nd, by simp, fun x hx y hy => ?_⟩
    obtain ⟨t, ht, rfl⟩ := List.mem_map.1 hx
    simp at hy
    rw [hy]
    exact hnew t ht
  · rw [List.map_append, h.hL]; rfl
end
end Go.Proofs.Ytdknhgbjgdmfkaa.P
namespace Go.Proofs.Ytdknhgbjgdmfkaa.P
open Go.RowKit Go.Shelf Go.Lib Go.Sort Go.Proofs.YtdknhgbjgdmfkaaW.PrintWords Go.Proofs.YtdknhgbjgdmfkaaW.PrintLast Go.Proofs.YtdknhgbjgdmfkaaW.PrintMore
def hd0 (t : Nat × Nat × List Int) : Int := t.2.2.headD 0
set_option maxHeartbeats 4000000 in
set_option maxRecDepth 100000 in
theorem cmp1_c {w : World} {g1 n1 c1 g2 n2 c2 : Nat} {x y : Int} (h1 : w.cell? ⟨g1, 0, none⟩ = some (.int .i64 x)) (h2 : w.cell? ⟨g2, 0, none⟩ = some (.int .i64 y)) (hn1 : 0 < n1) (hn2 : 0 < n2) (hx : 0 ≤ x ∧ x ≤ 1000000) (hy : 0 ≤ y ∧ y ≤ 1000000) :
    Calls Try.prog 69 #[.slice (some ⟨g1, 0, none⟩) n1 c1, .slice (some ⟨g2, 0, none⟩) n2 c2] w fun e w' => e = .returned (.int .i64 (x - y)) ∧ ∃ q, w' = w.drewN q := by
  have hw : IntKind.i64.wrap (x - y) = x - y := IntWalk.i64_in _ (by omega)
  obtain ⟨hx0, hx1⟩ := hx
  obtain ⟨hy0, hy1⟩ := hy
  have d1 : decide (n1 ≤ 0) = false := decide_eq_false (by omega)
  have d2 : decide (n2 ≤ 0) = false := decide_eq_false (by omega)
  go_enter Try.func69, Try.ntmps69
  go_wp2
  go_quiet ((fail))
  go_wp2
  go_ret
  exact ⟨rfl, nq, rfl⟩
theorem fr_sortWorld {α : Type} [Inhabited α] (enc : α → Value) (w : World) (g n : Nat) (d : Array α) (os : Array Obj) : Fr (fun k => k = g) w (sortWorld enc w g 0 n d os) := by
  have h1 : Fr (fun k => k = g) w (putRow enc (Sort.ahead w n) g 0 d) := ⟨rfl, rfl, rfl, by simp [putRow, mapBlock, Sort.ahead], fun k _ hn => by
    have hn' : ¬ g = k := fun e => hn e.symm
    simp [putRow, mapBlock, Sort.ahead, Array.getElem?_modify, hn']⟩
  exact h1.trans (Fr.below (S := fun _ => False) (below_grow (Below.refl _ _) (Nat.le_refl _) os) (fun i hi => .inr hi)) (fun _ e => e.elim)
theorem own_sortWorld {α : Type} [Inhabited α] {enc : α → Value} {w : World} {base e g n cap q : Nat} {zs : List α} {ys : Array α} {os : Array Obj} (h : w.ownsRow base e 1 (.slice (some ⟨g, 0, none⟩) n cap) n (zs.map enc)) (hy : ys.size = n) :
    (sortWorld enc w g 0 q ys os).ownsRow base e 1 (.slice (some ⟨g, 0, none⟩) n cap) n (ys.toList.map enc) := by
  have h1 := ownsRow_putRow (q := q) (ys := ys.toList) (k := n) h (by simpa using hy) (Nat.le_refl _)
  rw [List.take_of_length_le (by simp [hy])] at h1
  have h2 : (putRow enc (Sort.ahead w q) g 0 ys).ownsRow base e 1 (.slice (some ⟨g, 0, none⟩) n cap) n (ys.toList.map enc) := by simpa using h1
  exact own_move h2 (fun k hk => (below_grow (Below.refl _ _) (Nat.le_refl _) os : RowKit.Below _ _ (grow _ os)).block k (own_lt h2 k hk))
section
variable {w : World} {base : Nat} {vp : Value} {L : List (Nat × Nat × List Int)}
theorem swo_of {α : Type} [Inhabited α] (f : α → Int) : SWO (ltOf fun x y => f x - f y) where
  irrefl x := by unfold ltOf; simp
  trans x y z h1 h2 := by unfold ltOf at *; simp at *; omega
  ntrans x y z h1 h2 := by unfold ltOf at *; simp at *; omega
theorem psort_c (own : w.ownsRow base 32 1 vp L.length (L.map hdr)) (rows : ∀ t ∈ L, dI.R 3 w base (fun k => k = t.1) (hdr t) t.2.2) (hb : ∀ t ∈ L, vp.ownBlock ≠ some t.1) (hne : ∀ t ∈ L, 0 < t.2.2.length) (hbd : ∀ t ∈ L, 0 ≤ hd0 t ∧ hd0 t ≤ 1000000) (hl : L.length ≤ 1000000) :
    Calls Try.prog 68 #[vp, .func (.func 69) #[] #[]] w fun e w' => e = .returned (.tuple #[]) ∧ ∃ L' : List (Nat × Nat × List Int), L'.Perm L ∧ L'.Pairwise (fun t u => hd0 t ≤ hd0 u) ∧ w'.ownsRow base 32 1 vp L'.length (L'.map hdr) ∧ (∀ t ∈ L', dI.R 3 w' base (fun k => k = t.1) (hdr t) t.2.2) ∧ Fr (fun k => vp.ownBlock = some k) w w' := by
  have eg : ∀ args w, (callFunc 69 args).run Try.prog w = .ok (.enter 69 args) w := enters_of Try.func69 (by kernel_rfl) rfl
  rcases Nat.eq_zero_or_pos L.length with h0 | hp
  · obtain ⟨A, c, rfl⟩ := own_slice own
    have hL : L = [] := List.eq_nil_of_length_eq_zero h0
    subst hL
    refine (Try.slices_SortFunc_none_f68 (α := Int) A c _ w).mono ?_
    rintro e w' ⟨rfl, rfl⟩
    exact ⟨rfl, [], .refl _, List.Pairwise.nil, own, (fun t ht => by cases ht), Fr.refl _ _⟩
  · obtain ⟨t0, ht0⟩ : ∃ t, t ∈ L := ⟨L[0], List.getElem_mem hp⟩
    haveI : Inhabited { t // t ∈ L } := ⟨⟨t0, ht0⟩⟩
    have hm : L.attach.map (fun t => hdr t.1) = L.map hdr := by rw [List.attach_map_val (f := hdr)]
    have hvn : vp ≠ .slice none 0 0 := by
      rintro rfl
      rcases own.2 with ⟨_, h⟩ | ⟨_, _, _, h, _⟩
      · omega
      · cases h
    have hown : w.ownsRow base 32 1 vp L.length (L.attach.map (fun t => hdr t.1)) := by rw [hm]; exact own
    obtain ⟨g, cap, rfl, hgb, hgl, hcl, _, _, hH⟩ := holds_of_ownsRow (enc := fun t : { t // t ∈ L } => hdr t.1) hown hvn
    have hsz : L.attach.toArray.size = L.length := by simp
    have hgn : ∀ t ∈ L, t.1 ≠ g := fun t ht e => hb t ht (by rw [e]; simp [Value.ownBlock])
    have hrow : ∀ (W : World), Fr (fun k => k = g) w W → ∀ t ∈ L, dI.R 3 W base (fun k => k = t.1) (hdr t) t.2.2 := fun W hf t ht => R_fr (rows t ht) hf (fun k e _ e2 => hgn t ht (by rw [← e, e2]))
    have hcell : ∀ (W : World), Fr (fun k => k = g) w W → ∀ t ∈ L, W.cell? ⟨t.1, 0, none⟩ = some (.int .i64 (hd0 t)) := fun W hf t ht => by
      have h1 := (Kd.R_celln 0 (hrow W hf t ht) 0 (by omega) (by have := hne t ht; omega)).1
      have h2 : rdOf 0 t.2.2 0 = hd0 t := by
        unfold hd0
        cases t.2.2 <;> rfl
      rw [h2] at h1
      exact h1
    have hcmp : CmpLays1 Try.prog 69 #[] (fun t : { t // t ∈ L } => hdr t.1) (fun x y => hd0 x.1 - hd0 y.1) g 0 L.attach.toArray.size w := fun m os dk hdk x y => by
      have hf := fr_sortWorld (fun t : { t // t ∈ L } => hdr t.1) w g m dk os
      refine (cmp1_c (hcell _ hf x.1 x.2) (hcell _ hf y.1 y.2) (hne x.1 x.2) (hne y.1 y.2) (hbd x.1 x.2) (hbd y.1 y.2)).mono ?_
      rintro e w' ⟨he, q, hq⟩
      exact ⟨he, q, #[], by rw [hq, grow_empty]⟩
    have hS := Try.slices_SortFunc_f68 (fun t : { t // t ∈ L } => hdr t.1) (fun _ => rfl) (fun x y => hd0 x.1 - hd0 y.1) (swo_of fun x : { t // t ∈ L } => hd0 x.1) 69 #[] g 0 cap L.attach.toArray w eg hcmp hH hgl (by rw [hsz]; omega)
    rw [hsz] at hS
    refine hS.mono ?_
    rintro e w' ⟨rfl, d', n, os, hperm, hsort, rfl⟩
    have hd : d'.size = L.length := by rw [hperm.1, hsz]
    have hpl : d'.toList.Perm L.attach := by
      have := hperm.2.2
      rw [← hsz, Array.extract_size, show L.attach.toArray.size = d'.size by rw [hsz, hd], Array.extract_size] at this
      simpa using this
    have hlen : (d'.toList.map fun t => t.1).length = L.length := by rw [List.length_map]; simpa using hd
    have hf := fr_sortWorld (fun t : { t // t ∈ L } => hdr t.1) w g n d' os
    refine ⟨rfl, d'.toList.map (fun t => t.1), ?_, ?_, ?_, ?_, ?_⟩
    · have := hpl.map (fun t => t.1)
      rwa [List.attach_map_subtype_val] at this
    · rw [List.pairwise_map, List.pairwise_iff_getElem]
      intro i j hi hj hij
      have h1 := hsort i j (Nat.zero_le _) hij (by rw [Array.length_toList] at hj; omega)
      rw [getElem!_pos d' i (by simpa using hi), getElem!_pos d' j (by simpa using hj)] at h1
      unfold ltOf at h1
      simp only [decide_eq_false_iff_not] at h1
      simp only [Array.getElem_toList]
      omega
    · rw [hlen]
      have h1 := own_sortWorld (q := n) (os := os) hown hd
      rw [List.map_map]
      exact h1
    · intro t ht
      obtain ⟨u, _, rfl⟩ := List.mem_map.1 ht
      exact hrow _ hf u.1 u.2
    · exact ⟨hf.os, hf.tape, hf.output, hf.size, fun k hk hn => hf.block k hk (fun e => hn (by rw [e]; simp [Value.ownBlock]))⟩
end
end Go.Proofs.Ytdknhgbjgdmfkaa.P
namespace Go.Proofs.Ytdknhgbjgdmfkaa.P
open Go.RowKit Go.Shelf Go.Lib Go.Sort Go.Proofs.YtdknhgbjgdmfkaaW.PrintWords Go.Proofs.YtdknhgbjgdmfkaaW.PrintLast Go.Proofs.YtdknhgbjgdmfkaaW.PrintMore
theorem rdc (l : List Int) (a : Nat) : Go.Proofs.YtdknhgbjgdmfkaaW.PrintWords.rd l (a : Int) = l.getD a 0 := by
  show l.getD (Int.toNat (a : Int)) 0 = _
  rw [Int.toNat_natCast]
section
variable {c : List (List Int)} {n B gm gl gi cm cl ci : Nat} {Ag : Option Addr} {cg : Nat} {w0 w w' : World} {tg : Nat → Nat} {vo vw vp : Value} {L : List (Nat × Nat × List Int)} {s : TS} {T : Nat → Prop}
theorem TJ.cellM (h : TJ c n B gm gl gi cm cl ci Ag cg w0 w tg vo vw vp L s) {j : Nat} (hj : j < n) : w.cell? ⟨gm, j, none⟩ = some (.int .i64 (s.met.getD j 0)) ∧ w.frozen? ⟨gm, j, none⟩ = false := by
  have := Kd.R_celln 0 h.met (j : Int) (by omega) (by omega)
  rw [Int.toNat_natCast] at this
  exact this
theorem TJ.cellL (h : TJ c n B gm gl gi cm cl ci Ag cg w0 w tg vo vw vp L s) {j : Nat} (hj : j < n) : w.cell? ⟨gl, j, none⟩ = some (.int .i64 (s.low.getD j 0)) ∧ w.frozen? ⟨gl, j, none⟩ = false := by
  have := Kd.R_celln 0 h.low (j : Int) (by omega) (by omega)
  rw [Int.toNat_natCast] at this
  exact this
theorem TJ.cellI (h : TJ c n B gm gl gi cm cl ci Ag cg w0 w tg vo vw vp L s) {j : Nat} (hj : j < n) : w.cell? ⟨gi, j, none⟩ = some (.bool (s.inn.getD j false)) ∧ w.frozen? ⟨gi, j, none⟩ = false := by
  have := Kd.R_celln false h.inn (j : Int) (by omega) (by omega)
  rw [Int.toNat_natCast] at this
  exact this
theorem TJ.drew (h : TJ c n B gm gl gi cm cl ci Ag cg w0 w tg vo vw vp L s) : TJ c n B gm gl gi cm cl ci Ag cg w0 w.drew (newt tg w.heap.size 9) vo vw vp L s := h.drewN 1
theorem TJ.ne2 (h : TJ c n B gm gl gi cm cl ci Ag cg w0 w tg vo vw vp L s) : gm ≠ gl ∧ gm ≠ gi ∧ gl ≠ gi :=
  ⟨fun e => by have h1 := h.tm; have h2 := h.tl; rw [e] at h1; omega, fun e => by have h1 := h.tm; have h2 := h.ti; rw [e] at h1; omega, fun e => by have h1 := h.tl; have h2 := h.ti; rw [e] at h1; omega⟩
set_option maxHeartbeats 8000000 in
set_option maxRecDepth 100000 in
theorem enter_c (h : TJ c n B gm gl gi cm cl ci Ag cg w0 w tg vo vw vp L s) {a : Nat} (ha : a < n) (hk0 : 0 ≤ s.clk) (hk1 : s.clk ≤ 1000000) (ho : s.opn.length ≤ 1000000) (hw : s.way.length ≤ 1000000) :
    Calls Try.prog 84 #[.pointer (some ⟨B, 0, none⟩), .int .i64 a] w fun e w' => e = .returned (.tuple #[]) ∧ ∃ tg' vo' vw', TJ c n B gm gl gi cm cl ci Ag cg w0 w' tg' vo' vw' vp L (s.enter a) := by
  have H := Aside0.mk h
  obtain ⟨_, _, _, _, _, z5, _, _⟩ := cells8 h.blk
  have f5 := free8 h.blk 5
  obtain ⟨q, eq⟩ : ∃ q, q = s.clk := ⟨_, rfl⟩
  rw [← eq] at z5 hk0 hk1
  have HQ := Aside0.mk eq
  have HO := Aside0.mk ho
  have HW := Aside0.mk hw
  clear h eq ho hw
  go_enter Try.func84, Try.ntmps84
  go_upto_region 1 with (fail)
  have H1 := Aside0.mk (H.out.setClk (q + 1))
  obtain ⟨W1, hW1⟩ : ∃ W1, W1 = w.setCell ⟨B, 5, none⟩ (.int .i64 (q + 1)) := ⟨_, rfl⟩
  rw [← hW1] at H1
  rw [← hW1]
  clear hW1 f5 z5 H
  obtain ⟨_, z1, z2, _, _, z5, _, _⟩ := cells8 H1.out.blk
  obtain ⟨c1, f1⟩ := H1.out.cellM ha
  obtain ⟨c2, f2⟩ := H1.out.cellL ha
  obtain ⟨n1, n2, n3⟩ := H1.out.ne2
  go_region
  all_goals
    have H2 := Aside0.mk ((H1.out.setM a (q + 1)).setL a (q + 1)).drew
    obtain ⟨W2, hW2⟩ : ∃ W2, W2 = ((W1.setCell ⟨gm, a, none⟩ (.int .i64 (q + 1))).setCell ⟨gl, a, none⟩ (.int .i64 (q + 1))).drew := ⟨_, rfl⟩
    rw [← hW2] at H2
    rw [← hW2]
    obtain ⟨tg2, e2⟩ : ∃ t, t = newt (newt (newt (newt tg w.heap.size 9) W1.heap.size 1) (W1.setCell ⟨gm, a, none⟩ (.int .i64 (q + 1))).heap.size 2) ((W1.setCell ⟨gm, a, none⟩ (.int .i64 (q + 1))).setCell ⟨gl, a, none⟩ (.int .i64 (q + 1))).heap.size 9 := ⟨_, rfl⟩
    rw [← e2] at H2
    clear hW2 e2 z1 z2 z5 c1 f1 c2 f2 n1 n2 n3 H1
    have HP := Aside0.mk (ipush_c (a : Int) H2.out.blk H2.out.opnR (H2.out.nB 3 (by omega)) H2.out.bel.size (by rw [List.length_reverse]; exact HO.out))
    go_upto_region 3 with (go_at_call 106; refine HP.out.mono ?_; rintro e w3 ⟨rfl, v3, hb3, hr3, hf3⟩; have H3 := Aside0.mk (H2.out.pushO hb3 hr3 hf3); clear hb3 hr3 hf3)
    obtain ⟨_, _, _, _, z4, _, _, _⟩ := cells8 H3.out.blk
    obtain ⟨c1, f1⟩ := H3.out.cellI ha
    go_upto_region 4 with (fail)
    have H4 := Aside0.mk (H3.out.setI a true)
    obtain ⟨W4, hW4⟩ : ∃ W4, W4 = w3.setCell ⟨gi, a, none⟩ (.bool true) := ⟨_, rfl⟩
    rw [← hW4] at H4
    rw [← hW4]
    clear hW4 c1 f1 z4 H3 H2 HP
    have HP := Aside0.mk (wpush_c (a : Int) 0 H4.out.blk H4.out.way (S := TO _ w0 W4 6) (H4.out.nB 6 (by omega)) (fun k hk => ⟨H4.out.wtg k hk, own_base H4.out.way k hk, own_lt H4.out.way k hk⟩) H4.out.bel.size HW.out)
    go_wp2_with (go_at_call 107; refine HP.out.mono ?_; rintro e w5 ⟨rfl, v5, hb5, hr5, hv5, hf5⟩; have H5 := Aside0.mk (H4.out.pushW hb5 hr5 hv5 hf5); clear hb5 hr5 hv5 hf5)
    go_end0
    have h := H5.out
    rw [HQ.out] at h
    exact ⟨rfl, _, _, _, h⟩
theorem newt5 {tg : Nat → Nat} {NB N : Nat} (h : ∀ k, NB ≤ k → tg k = 5) : ∀ k, NB ≤ k → newt tg N 5 k = 5 := fun k hk => by
  unfold newt
  split
  · exact h k hk
  · rfl
theorem TJ.wayTop (h : TJ c n B gm gl gi cm cl ci Ag cg w0 w tg vo vw vp L s) {u k : Int} {l : List (Int × Int)} (hway : s.way = (u, k) :: l) :
    ∃ g cw, vw = .slice (some ⟨g, 0, none⟩) (l.length + 1) cw ∧ g < w.heap.size ∧ l.length + 1 ≤ cw ∧ g ≠ B ∧ tg g = 6 ∧ w.ownsRow w0.heap.size 90 2 (.slice (some ⟨g, 0, none⟩) (l.length + 1) cw) (l.length + 1) (wayCells ((u, k) :: l)) ∧
      w.cell? ⟨g, l.length * 2, none⟩ = some (.int .i64 u) ∧ w.cell? ⟨g, l.length * 2 + 1, none⟩ = some (.int .i64 k) ∧ w.frozen? ⟨g, l.length * 2 + 1, none⟩ = false := by
  have hww := h.way
  rw [hway, List.length_cons] at hww
  obtain ⟨g, cw, e, hgl, hcap⟩ := wsl hww
  have htg := h.wtg g (by rw [e]; simp [Value.ownBlock])
  rw [e] at hww
  obtain ⟨h1, h2, h3⟩ := way_cells hww
  exact ⟨g, cw, e, hgl, hcap, fun e => by rw [e, h.tB] at htg; omega, htg, hww, h1, h2, h3⟩
set_option maxHeartbeats 8000000 in
set_option maxRecDepth 100000 in
theorem leave_no (h : TJ c n B gm gl gi cm cl ci Ag cg w0 w tg vo vw vp L s) {a : Nat} (ha : a < n) (hw : s.way.length ≤ 1000000) {u : Nat} {k : Int} {l : List (Int × Int)} (hu : u < n) (hway : s.way = ((u : Int), k) :: l)
    (low' : List Int) (hlow : low' = s.low.set u (min (rd s.low u) (rd s.low a))) (hc : rd low' a ≠ rd s.met a) :
    Calls Try.prog 86 #[.pointer (some ⟨B, 0, none⟩), .int .i64 a] w fun e w' => e = .returned (.tuple #[]) ∧ ∃ tg', TJ c n B gm gl gi cm cl ci Ag cg w0 w' tg' vo vw vp L { s with low := low' } := by
  obtain ⟨g, cw, rfl, hgl, hcap, _, _, _, hx0, _, _⟩ := h.wayTop hway
  rw [hway, List.length_cons] at hw
  have HT := Aside0.mk (wtop_c h.blk (by omega) hgl hcap)
  obtain ⟨m, em⟩ : ∃ m, m = l.length := ⟨_, rfl⟩
  rw [← em] at HT h hx0 hcap hw
  have H := Aside0.mk h
  obtain ⟨_, z1, z2, _, _, _, z6, _⟩ := cells8 h.blk
  obtain ⟨q1, eq1⟩ : ∃ q, q = s.low.getD u 0 := ⟨_, rfl⟩
  obtain ⟨q2, eq2⟩ : ∃ q, q = s.low.getD a 0 := ⟨_, rfl⟩
  obtain ⟨c1, f1⟩ := h.cellL hu
  obtain ⟨c2, _⟩ := h.cellL ha
  rw [← eq1] at c1
  rw [← eq2] at c2
  have hr1 : rd s.low u = q1 := by rw [eq1]; show s.low.getD (Int.toNat (u : Int)) 0 = _; rw [Int.toNat_natCast]
  have hr2 : rd s.low a = q2 := by rw [eq2]; show s.low.getD (Int.toNat (a : Int)) 0 = _; rw [Int.toNat_natCast]
  rw [hr1, hr2] at hlow
  have HLW := Aside0.mk hlow
  have HM := Aside0.mk em
  have HQ1 := Aside0.mk eq1
  have HQ2 := Aside0.mk eq2
  have HC := Aside0.mk hc
  have hpos : decide ((0 : Int) < (m : Int) + 1) = true := decide_eq_true (by omega)
  clear h hway eq1 eq2 hr1 hr2 hlow hc em
  go_enter Try.func86, Try.ntmps86
  go_upto_region 2 with (go_at_call 85; refine HT.out.mono ?_; rintro e w1 ⟨rfl, m1, rfl⟩)
  have H1 := Aside0.mk (H.out.drewN m1)
  obtain ⟨W1, hW1⟩ : ∃ W1, W1 = w.drewN m1 := ⟨_, rfl⟩
  rw [← hW1] at H1
  rw [← hW1]
  clear hW1 H z1 z2 z6 c1 c2 f1 hx0 hpos
  obtain ⟨_, z1, z2, _, _, _, _, _⟩ := cells8 H1.out.blk
  obtain ⟨c1, f1⟩ := H1.out.cellL hu
  obtain ⟨c2, _⟩ := H1.out.cellL ha
  rw [← HQ1.out] at c1
  rw [← HQ2.out] at c2
  go_region
  all_goals
    have H2 := Aside0.mk ((H1.out.setL u (min q1 q2)).drew)
    obtain ⟨W2, hW2⟩ : ∃ W2, W2 = (W1.setCell ⟨gl, u, none⟩ (.int .i64 (min q1 q2))).drew := ⟨_, rfl⟩
    rw [← hW2, ← HLW.out] at H2
    rw [← hW2]
    clear hW2 z1 z2 c1 f1 c2 H1
    obtain ⟨_, z1, z2, _, _, _, _, _⟩ := cells8 H2.out.blk
    have c2 := (H2.out.cellL ha).1
    have c1 := (H2.out.cellM ha).1
    obtain ⟨x, ex⟩ : ∃ x, x = low'.getD a 0 := ⟨_, rfl⟩
    obtain ⟨y, ey⟩ : ∃ y, y = s.met.getD a 0 := ⟨_, rfl⟩
    replace c2 : W2.cell? ⟨gl, a, none⟩ = some (.int .i64 x) := by rw [ex]; exact c2
    replace c1 : W2.cell? ⟨gm, a, none⟩ = some (.int .i64 y) := by rw [ey]; exact c1
    have hxy : x ≠ y := by
      rw [ex, ey]
      have := HC.out
      rw [rdc, rdc] at this
      exact this
    have b1 : (x == y) = false := by simpa using hxy
    have b2 : (x != y) = true := by simpa using hxy
    clear ex ey hxy
    go_wp2
    go_quiet ((fail))
    go_wp2
    refine bodyPost_ret (results_none rfl _ _ _) rfl ?_
    rw [← HM.out]
    exact ⟨rfl, _, H2.out.drewN nq⟩
def LeaveP (c : List (List Int)) (n B gm gl gi cm cl ci : Nat) (Ag : Option Addr) (cg : Nat) (w0 : World) (vw : Value) (m : Nat) (s : TS) : Ending → World → Prop := fun e w' =>
  e = .returned (.tuple #[]) ∧ ∃ tg' vo' vp' L', TJ c n B gm gl gi cm cl ci Ag cg w0 w' tg' vo' vw vp' L' s ∧ L'.length = m
set_option maxHeartbeats 8000000 in
set_option maxRecDepth 100000 in
theorem leave_part (h : TJ c n B gm gl gi cm cl ci Ag cg w0 w tg vo vw vp L s) {a : Nat} (ha : a < n) (hn : n ≤ 100000) (ho : s.opn.length ≤ 100000) (hw : s.way.length ≤ 1000000) (hL : L.length ≤ 100000)
    (low' : List Int) (hlow : (s.way = [] ∧ low' = s.low) ∨ ∃ (u : Nat) (k : Int) (l : List (Int × Int)), u < n ∧ s.way = ((u : Int), k) :: l ∧ low' = s.low.set u (min (rd s.low u) (rd s.low a)))
    (hc : rd low' a = rd s.met a) {seg pre : List Int} (hO : s.opn = seg ++ (a : Int) :: pre) (hseg : ∀ x ∈ seg, 0 ≤ x ∧ x < (n : Int) ∧ x ≠ (a : Int)) :
    Calls Try.prog 86 #[.pointer (some ⟨B, 0, none⟩), .int .i64 a] w (LeaveP c n B gm gl gi cm cl ci Ag cg w0 vw (L.length + 1) { s with low := low', inn := outs s.inn (seg ++ [(a : Int)]), opn := pre, prt := s.prt ++ [(seg ++ [(a : Int)]).mergeSort fun x y => decide (x ≤ y)] }) := by
  have HC := Aside0.mk hc
  have HOO := Aside0.mk hO
  have HSG := Aside0.mk hseg
  have HOL := Aside0.mk ho
  clear hO hseg ho hc
  obtain ⟨P, eP⟩ : ∃ P, P = LeaveP c n B gm gl gi cm cl ci Ag cg w0 vw (L.length + 1) { s with low := low', inn := outs s.inn (seg ++ [(a : Int)]), opn := pre, prt := s.prt ++ [(seg ++ [(a : Int)]).mergeSort fun x y => decide (x ≤ y)] } := ⟨_, rfl⟩
  rw [← eP]
  have HP := Aside0.mk eP
  clear eP
  rcases hlow with ⟨e, hlow⟩ | ⟨u, k, l, hu, hway, hlow⟩
  case' inl =>
    obtain ⟨A, cA, rfl⟩ : ∃ A c, vw = .slice A 0 c := by
      have := h.way
      rw [e] at this
      exact own_slice this
    obtain ⟨_, _, _, _, _, _, z6, _⟩ := cells8 h.blk
    have H2 : Aside0 (TJ c n B gm gl gi cm cl ci Ag cg w0 w tg vo (.slice A 0 cA) vp L { s with low := low' }) := ⟨by rw [hlow]; exact h⟩
    clear h e hw hlow
    go_enter Try.func86, Try.ntmps86
    go_upto_region 3 with (fail)
    obtain ⟨W2, hW2⟩ : ∃ W2, W2 = w := ⟨_, rfl⟩
    rw [← hW2] at H2 z6
    rw [← hW2]
    obtain ⟨vw, evw⟩ : ∃ v, v = Value.slice A 0 cA := ⟨_, rfl⟩
    rw [← evw] at H2 HP
    obtain ⟨tg2, et2⟩ : ∃ t, t = tg := ⟨_, rfl⟩
    rw [← et2] at H2
    clear z6 hW2 evw et2
  case' inr =>
    obtain ⟨g, cw, rfl, hgl, hcap, _, _, _, hx0, _, _⟩ := h.wayTop hway
    rw [hway, List.length_cons] at hw
    have HT := Aside0.mk (wtop_c h.blk (by omega) hgl hcap)
    obtain ⟨m, em⟩ : ∃ m, m = l.length := ⟨_, rfl⟩
    rw [← em] at HT h hx0 hcap hw HP
    have H := Aside0.mk h
    obtain ⟨_, z1, z2, _, _, _, z6, _⟩ := cells8 h.blk
    obtain ⟨q1, eq1⟩ : ∃ q, q = s.low.getD u 0 := ⟨_, rfl⟩
    obtain ⟨q2, eq2⟩ : ∃ q, q = s.low.getD a 0 := ⟨_, rfl⟩
    obtain ⟨c1, f1⟩ := h.cellL hu
    obtain ⟨c2, _⟩ := h.cellL ha
    rw [← eq1] at c1
    rw [← eq2] at c2
    have hr1 : rd s.low u = q1 := by rw [eq1]; show s.low.getD (Int.toNat (u : Int)) 0 = _; rw [Int.toNat_natCast]
    have hr2 : rd s.low a = q2 := by rw [eq2]; show s.low.getD (Int.toNat (a : Int)) 0 = _; rw [Int.toNat_natCast]
    rw [hr1, hr2] at hlow
    have HLW := Aside0.mk hlow
    have HQ1 := Aside0.mk eq1
    have HQ2 := Aside0.mk eq2
    have hpos : decide ((0 : Int) < (m : Int) + 1) = true := decide_eq_true (by omega)
    clear h hway eq1 eq2 hr1 hr2 hlow em
    go_enter Try.func86, Try.ntmps86
    go_upto_region 2 with (go_at_call 85; refine HT.out.mono ?_; rintro e w1 ⟨rfl, m1, rfl⟩)
    have H1 := Aside0.mk (H.out.drewN m1)
    obtain ⟨W1, hW1⟩ : ∃ W1, W1 = w.drewN m1 := ⟨_, rfl⟩
    rw [← hW1] at H1
    rw [← hW1]
    clear hW1 H z1 z2 z6 c1 c2 f1 hx0 hpos
    obtain ⟨_, z1, z2, _, _, _, _, _⟩ := cells8 H1.out.blk
    obtain ⟨c1, f1⟩ := H1.out.cellL hu
    obtain ⟨c2, _⟩ := H1.out.cellL ha
    rw [← HQ1.out] at c1
    rw [← HQ2.out] at c2
    go_upto_region 2 with (fail)
    go_region
    have H2 := Aside0.mk ((H1.out.setL u (min q1 q2)).drew)
    obtain ⟨W2, hW2⟩ : ∃ W2, W2 = (W1.setCell ⟨gl, u, none⟩ (.int .i64 (min q1 q2))).drew := ⟨_, rfl⟩
    rw [← hW2, ← HLW.out] at H2
    rw [← hW2]
    obtain ⟨vw, evw⟩ : ∃ v, v = Value.slice (some ⟨g, 0, none⟩) (m + 1) cw := ⟨_, rfl⟩
    rw [← evw] at H2 HP
    obtain ⟨tg2, et2⟩ : ∃ t, t = newt (newt (newt tg w.heap.size 9) W1.heap.size 2) (W1.setCell ⟨gl, u, none⟩ (.int .i64 (min q1 q2))).heap.size 9 := ⟨_, rfl⟩
    rw [← et2] at H2
    clear hW2 z1 z2 c1 f1 c2 H1 evw et2
    go_wp2
  all_goals
    obtain ⟨_, z1, z2, _, _, _, _, _⟩ := cells8 H2.out.blk
    have c2 := (H2.out.cellL ha).1
    have c1 := (H2.out.cellM ha).1
    obtain ⟨x, ex⟩ : ∃ x, x = low'.getD a 0 := ⟨_, rfl⟩
    replace c2 : W2.cell? ⟨gl, a, none⟩ = some (.int .i64 x) := by rw [ex]; exact c2
    replace c1 : W2.cell? ⟨gm, a, none⟩ = some (.int .i64 x) := by
      rw [ex]
      have h1 := HC.out
      rw [rdc, rdc] at h1
      rw [h1]
      exact c1
    clear ex
    go_quiet ((fail))
    go_wp2
    have HNB : Aside0 (∀ t ∈ L, t.1 < W2.heap.size) := ⟨fun t ht => Kd.R_lt (H2.out.rows t ht).1 t.1 rfl⟩
    have HBW : Aside0 (w0.heap.size ≤ W2.heap.size) := ⟨H2.out.bel.size⟩
    have HLT : Aside0 (B < W2.heap.size ∧ gi < W2.heap.size) := ⟨H2.out.lts.1, H2.out.lts.2.2.2.1⟩
    have H3 := Aside0.mk (H2.out.other (Fr.drewN (fun _ => False) W2 nq) (fun _ h => h.elim) (fun _ h => h.elim))
    have HTG : Aside0 (∀ k, W2.heap.size ≤ k → newt tg2 W2.heap.size 5 k = 5) := ⟨fun k hk => newt_ge hk⟩
    have HW3 : Aside0 (W2.heap.size ≤ (W2.drewN nq).heap.size) := ⟨Nat.le_refl _⟩
    obtain ⟨NB, eNB⟩ : ∃ NB, NB = W2.heap.size := ⟨_, rfl⟩
    rw [← eNB] at HNB HBW HTG HW3 HLT
    obtain ⟨tg3, et3⟩ : ∃ t, t = newt tg2 W2.heap.size 5 := ⟨_, rfl⟩
    rw [← et3] at H3
    rw [← eNB] at et3
    rw [← et3] at HTG
    obtain ⟨W3, hW3⟩ : ∃ W3, W3 = W2.drewN nq := ⟨_, rfl⟩
    rw [← hW3] at H3 HW3
    rw [← hW3]
    clear hW3 et3 eNB z1 z2 c1 c2 H2
    obtain ⟨Z, eZ⟩ : ∃ Z, Z = seg ++ [(a : Int)] := ⟨_, rfl⟩
    obtain ⟨M, eM⟩ : ∃ M, M = Z.length := ⟨_, rfl⟩
    have HZM := Aside0.mk eM
    have HZ := Aside0.mk eZ
    have HZO : Aside0 (s.opn = Z ++ pre) := ⟨by rw [HOO.out, eZ, List.append_assoc]; rfl⟩
    have HZN : Aside0 (∀ x ∈ Z, 0 ≤ x ∧ x < (n : Int)) := ⟨fun x hx => by
      rw [eZ] at hx
      rcases List.mem_append.1 hx with e | e
      · have := HSG.out x e; omega
      · rw [List.mem_singleton] at e; omega⟩
    have HZA : Aside0 (∀ j, j < M → (if j = 0 then (-1 : Int) else Z.getD (j - 1) 0) ≠ a) := ⟨fun j hj => by
      by_cases e : j = 0
      · rw [if_pos e]; omega
      · rw [if_neg e]
        have hl : j - 1 < seg.length := by rw [eM, eZ, List.length_append, List.length_singleton] at hj; omega
        rw [eZ, List.getD_eq_getElem?_getD, List.getElem?_append_left hl, List.getElem?_eq_getElem hl]
        exact (HSG.out _ (List.getElem_mem hl)).2.2⟩
    have HZE : Aside0 (0 < M ∧ Z.getD (M - 1) 0 = (a : Int)) := ⟨by
      rw [eM, eZ, List.length_append, List.length_singleton]
      refine ⟨by omega, ?_⟩
      rw [List.getD_eq_getElem?_getD, List.getElem?_append_right (by omega)]
      simp⟩
    have HML : Aside0 (M ≤ 100000) := ⟨by have := HOL.out; rw [HZO.out, List.length_append] at this; omega⟩
    clear eZ eM
    have HI0 : Aside0 (TJ c n B gm gl gi cm cl ci Ag cg w0 W3 tg3 vo vw vp L { s with low := low', inn := outs s.inn (Z.take 0), opn := (Z ++ pre).drop 0 }) := ⟨by
      rw [List.take_zero, List.drop_zero, ← HZO.out]
      exact H3.out⟩
    clear H3
    go_loopg [5, 6] M (fun kq v5 v6 w' => ∃ (j : Nat) (b : Int) (tgj : Nat → Nat) (voj : Value), j + kq = M ∧ v6 = .int .i64 b ∧ Aside0 (b = if j = 0 then (-1 : Int) else Z.getD (j - 1) 0) ∧ Aside0 (TJ c n B gm gl gi cm cl ci Ag cg w0 w' tgj voj vw vp L { s with low := low', inn := outs s.inn (Z.take j), opn := (Z ++ pre).drop j }) ∧ Aside0 (dI.R 3 w' NB (fun _ => True) v5 (Z.take j)) ∧ Aside0 (∀ k, NB ≤ k → tgj k = 5) ∧ Aside0 (NB ≤ w'.heap.size))
    case atStart => exact ⟨0, -1, tg3, vo, by omega, rfl, ⟨(if_pos rfl).symm⟩, HI0, ⟨by rw [List.take_zero]; exact Kd.R_nil _ _ _ _ _⟩, HTG, HW3⟩
    case round =>
      clear HI0 HTG HW3
      obtain ⟨j, b, tgj, voj, hj, rfl, HB, HI, HR, HTG, HW3⟩ := hrel
      cases gk with
      | zero =>
        obtain rfl : j = M := by omega
        have eb : b = (a : Int) := by rw [HB.out, if_neg (by have := HZE.out.1; omega)]; exact HZE.out.2
        subst eb
        have HR' : Aside0 (dI.R 3 wr NB (fun _ => True) u5 Z) := ⟨by have := HR.out; rw [HZM.out, List.take_length] at this; exact this⟩
        have HI' : Aside0 (TJ c n B gm gl gi cm cl ci Ag cg w0 wr tgj voj vw vp L { s with low := low', inn := outs s.inn Z, opn := pre }) := ⟨by
          have h := HI.out
          rw [HZM.out, List.take_length, List.drop_left] at h
          exact h⟩
        have HSO := Aside0.mk (sort_c u5 Z NB (fun _ => True) wr HR'.out (by have := HML.out; have := HZM.out; omega) HW3.out)
        clear HI HR HB
        go_upto_region 11 with (go_at_call 54; refine HSO.out.mono ?_; rintro e w4 ⟨rfl, ho4, hb4⟩; have HO4 := Aside0.mk ho4; have HF4 := Aside0.mk (Fr.below hb4 (S := fun k => NB ≤ k) (fun i hi => .inl hi)); clear ho4 hb4)
        have hzp : 0 < (Z.mergeSort fun x y => decide (x ≤ y)).length := by rw [List.length_mergeSort]; have := HZE.out.1; have := HZM.out; omega
        obtain ⟨g5, c5, rfl, hge, hg5l, _⟩ := Kd.R_form HO4.out hzp
        have H4 := Aside0.mk (HI'.out.other HF4.out (fun k e hk => ⟨HTG.out k e, fun t ht e2 => by have h1 := HNB.out t ht; omega⟩) (fun k e => Nat.le_trans HBW.out e))
        have H5 := Aside0.mk (H4.out.retag (newt5 HTG.out g5 hge))
        obtain ⟨tg5, et5⟩ : ∃ t, t = fun k => if k = g5 then 8 else newt tgj wr.heap.size 5 k := ⟨_, rfl⟩
        have ht8 : Aside0 (tg5 g5 = 8) := ⟨by rw [et5]; exact if_pos rfl⟩
        rw [← et5] at H5
        have HNW : Aside0 (∀ t ∈ L, t.1 ≠ g5) := ⟨fun t ht e => by have h1 := HNB.out t ht; omega⟩
        obtain ⟨Zs, eZs⟩ : ∃ Zs, Zs = Z.mergeSort fun x y => decide (x ≤ y) := ⟨_, rfl⟩
        have HZS := Aside0.mk eZs
        rw [← eZs] at HO4
        rw [← eZs]
        have HRW : Aside0 (dI.R 3 w4 w0.heap.size (fun k => k = g5) (hdr (g5, c5, Zs)) Zs) := ⟨Kd.R_lower (Kd.R_mono (Kd.R_tight rfl HO4.out) (fun k e => by simp [Value.ownBlock, hdr] at e; exact e)) HBW.out⟩
        obtain ⟨nz, enz⟩ : ∃ nz, nz = Zs.length := ⟨_, rfl⟩
        have HNZ := Aside0.mk enz
        rw [← enz]
        obtain ⟨_, _, _, _, _, _, _, z7⟩ := cells8 H5.out.blk
        obtain ⟨Ap, cp, hvp⟩ := own_slice H5.out.prt
        have HVP := Aside0.mk hvp
        rw [hvp] at z7
        have HPR : Aside0 (w4.ownsRow w0.heap.size 32 1 (.slice Ap L.length cp) L.length (L.map hdr)) := ⟨by have := H5.out.prt; rw [hvp] at this; exact this⟩
        have HPB : Aside0 (∀ k, (Value.slice Ap L.length cp).ownBlock = some k → TO tg5 w0 w4 7 k) := ⟨fun k hk => ⟨H5.out.ptg k (by rw [hvp]; exact hk), own_base HPR.out k hk, own_lt HPR.out k hk⟩⟩
        have hgrow : Aside0 (∀ w9 : World, w4.grownBy w9 (Value.slice Ap L.length cp).ownBlock → w9.heap[B]? = w4.heap[B]?) := ⟨fun w9 hg9 => hg9.block B H5.out.lts.1 (fun e => H5.out.nB 7 (by omega) (HPB.out B e.symm))⟩
        clear et5 eZs enz hvp hzp HO4 H4 HI' HSO HTG
        go_wp2_with (at_builtin; refine print_append_cells (w0 := w4) w0.heap.size rfl (.tmp 79) (.tmp 81) 22 32 (.slice none 0 0) 1 24 rfl Try.underlying22 info32 rfl (by omega) (by omega) (.slice Ap L.length cp) L.length (L.map hdr) [.slice (some ⟨g5, 0, none⟩) nz c5] rfl rfl rfl (fun u hu => by simp at hu; subst hu; rfl) HPR.out (Below.refl _ _) H5.out.bel.size (by omega) ?_; intro v9 w9 ho9 _ hg9 hat9; obtain ⟨A9, c9, rfl⟩ := own_slice ho9; have HB9 := Aside0.mk ((hgrow.out w9 hg9).trans H5.out.blk); (obtain ⟨_, _, _, _, _, _, _, y7⟩ := cells8 HB9.out); have f7 := free8 HB9.out 7; have HO9 := Aside0.mk ho9; have HG9 := Aside0.mk hg9; have HAT9 := Aside0.mk hat9; clear ho9 hg9 hat9)
        go_end0
        have hbk : ∀ k, (Value.slice A9 (L.length + 1) c9).ownBlock = some k → (TO tg5 w0 w4 7 k ∨ w4.heap.size ≤ k) ∧ k ≠ B := wpush_end (w := w4) (W1 := w4) (H5.out.nB 7 (by omega)) (Nat.le_refl _) HPB.out H5.out.lts.1 HAT9.out
        have H9 := H5.out.pushP (p := Zs) (g := g5) (cap := c5) (v := .slice A9 (L.length + 1) c9) (w' := w9.setCell ⟨B, 7, none⟩ (.slice A9 (L.length + 1) c9)) HRW.out ht8.out HNW.out (set8 HB9.out 7) (by rw [show hdr (g5, c5, Zs) = .slice (some ⟨g5, 0, none⟩) nz c5 by rw [HNZ.out]; rfl]; exact own_move HO9.out (fun k hk => Below.heap_setCell _ _ _ _ (hbk k hk).2)) hbk ((Fr.of_grown (S := fun k => TO tg5 w0 w4 7 k ∨ k = B) HG9.out (fun k e => .inl (HPB.out k e))).setCell (.inl (.inr rfl)) _)
        rw [HP.out, ← HZ.out, ← HZS.out]
        exact ⟨rfl, _, _, _, _, H9, by rw [List.length_append, List.length_singleton]⟩
      | succ k1 =>
        have hba : b ≠ (a : Int) := by rw [HB.out]; exact HZA.out j (by omega)
        have b1 : (b == (a : Int)) = false := by simpa using hba
        have b2 : (b != (a : Int)) = true := by simpa using hba
        clear hba
        obtain ⟨x, ex⟩ : ∃ x, x = Z.getD j 0 := ⟨_, rfl⟩
        have hjZ : j < Z.length := by have := HZM.out; omega
        have hxe : Z[j] = x := by rw [ex, List.getD_eq_getElem?_getD, List.getElem?_eq_getElem hjZ]; rfl
        have hxn : 0 ≤ x ∧ x < (n : Int) := by rw [← hxe]; exact HZN.out _ (List.getElem_mem hjZ)
        obtain ⟨y, rfl⟩ : ∃ y : Nat, x = (y : Int) := ⟨x.toNat, by omega⟩
        have hyn : y < n := by omega
        have hdrop : (Z ++ pre).drop j = (y : Int) :: (Z ++ pre).drop (j + 1) := by
          rw [List.drop_eq_getElem_cons (by rw [List.length_append]; omega), List.getElem_append_left hjZ, hxe]
        have htake : Z.take (j + 1) = Z.take j ++ [(y : Int)] := by rw [List.take_succ_eq_append_getElem hjZ, hxe]
        obtain ⟨N1, eN1⟩ : ∃ N1, N1 = ((Z ++ pre).drop (j + 1)).length := ⟨_, rfl⟩
        have hN1 : N1 ≤ 100000 := by
          have := HOL.out
          rw [HZO.out, List.length_append] at this
          rw [eN1, List.length_drop, List.length_append]
          omega
        have HD := Aside0.mk hdrop
        have HTK := Aside0.mk htake
        have HEX := Aside0.mk ex
        have HN1 := Aside0.mk eN1
        have hrev : ((Z ++ pre).drop j).reverse.length = N1 + 1 := by rw [hdrop, List.length_reverse, List.length_cons, eN1]
        have hlast : ((Z ++ pre).drop j).reverse.getD N1 0 = (y : Int) := by
          rw [hdrop, List.reverse_cons, List.getD_eq_getElem?_getD, List.getElem?_append_right (by rw [List.length_reverse]; omega), List.length_reverse, ← eN1, Nat.sub_self]
          rfl
        have hP := ipop_c HI.out.blk HI.out.opnR (HI.out.nB 3 (by omega)) hrev (by omega)
        rw [hlast] at hP
        have HPP := Aside0.mk hP
        have hb' : b < (n : Int) ∧ -1 ≤ b := by
          rw [HB.out]
          split
          · omega
          · have hl : j - 1 < Z.length := by omega
            rw [List.getD_eq_getElem?_getD, List.getElem?_eq_getElem hl]
            have := HZN.out _ (List.getElem_mem hl)
            simp only [Option.getD_some]
            omega
        have hRL : (Z.take j).length ≤ 100000 := by have := HML.out; rw [List.length_take]; omega
        clear hxe hxn hdrop htake ex eN1 hrev hlast hP
        go_upto_region 9 with (go_at_call 108; refine HPP.out.mono ?_; rintro e w4 ⟨rfl, v4, hb4, hr4, hf4⟩; rw [HN1.out] at hr4; have H4 := Aside0.mk (HI.out.popO HD.out hb4 hr4 hf4); (obtain ⟨_, _, _, _, z4, _, _, _⟩ := cells8 H4.out.blk); (obtain ⟨c1, f1⟩ := H4.out.cellI hyn); have HF4 := Aside0.mk hf4; clear hb4 hr4 hf4)
        have H5 := Aside0.mk (H4.out.setI y false)
        have HF5 := Aside0.mk ((Fr.refl (fun k => k = gi) w4).setCell (p := ⟨gi, y, none⟩) (.inl rfl) (.bool false))
        have HR5 := Aside0.mk (R_fr (R_fr (Kd.R_mono (ok' := fun k => NB ≤ k) (Kd.R_bound HR.out) (fun k hk => hk.2.1)) HF4.out (fun k hk _ e => by have := HLT.out; omega)) HF5.out (fun k hk _ e => by have := HLT.out; omega))
        have HW5 : Aside0 (NB ≤ (w4.setCell ⟨gi, y, none⟩ (.bool false)).heap.size) := ⟨Nat.le_trans (Nat.le_trans HW3.out HF4.out.size) HF5.out.size⟩
        obtain ⟨W5, hW5⟩ : ∃ W5, W5 = w4.setCell ⟨gi, y, none⟩ (.bool false) := ⟨_, rfl⟩
        obtain ⟨tg5, et5⟩ : ∃ t, t = newt (newt tgj wr.heap.size 5) w4.heap.size 5 := ⟨_, rfl⟩
        have HT5 : Aside0 (∀ k, NB ≤ k → tg5 k = 5) := ⟨by rw [et5]; exact newt5 (newt5 HTG.out)⟩
        rw [← hW5] at H5 HR5 HW5
        rw [← et5] at H5
        rw [← hW5]
        clear hW5 et5 H4 HF4 HF5 HR HI HTG HW3 HPP c1 f1 z4 b1 b2 HB hb'
        go_wp2_with (at_builtin; refine Kd.R_append (Kd.int .i64) (w0 := W5) NB rfl (.tmp 69) (.tmp 71) 32 3 (.int .i64 0) 8 rfl Try.underlying32 info3 rfl (by decide) (by omega) u5 (Z.take j) (y : Int) [.int .i64 y] (fun k => NB ≤ k) (fun _ => False) rfl rfl rfl (fun _ hk => hk.elim) (fun k hk => Nat.le_trans HW5.out hk) HR5.out (Below.refl _ _) HW5.out (by omega) ?_; intro v8 w8 ho8 _ hg8 _; have HO8 := Aside0.mk ho8; have HG8 := Aside0.mk hg8; clear ho8 hg8)
        go_roundg k1
        case measure => omega
        case rel =>
          have H8 := H5.out.other (Fr.of_grown (S := fun k => u5.ownBlock = some k) HG8.out (fun k e => e)) (fun k e hk => ⟨HT5.out k (HR5.out.1 k e), fun t ht e2 => by have h1 := HNB.out t ht; have h2 := HR5.out.1 k e; omega⟩) (fun k e => Nat.le_trans HBW.out (HR5.out.1 k e))
          have h1 := HO8.out
          rw [← HTK.out] at h1
          have h2 := outs_snoc s.inn (Z.take j) (y : Int)
          rw [Int.toNat_natCast] at h2
          rw [← h2, ← HTK.out] at H8
          exact ⟨j + 1, (y : Int), _, _, by omega, rfl, ⟨by rw [if_neg (by omega), Nat.add_sub_cancel]; exact HEX.out⟩, ⟨H8⟩, ⟨Kd.R_mono h1 (fun _ _ => trivial)⟩, ⟨newt5 HT5.out⟩, ⟨Nat.le_trans HW5.out HG8.out.size⟩⟩
end
end Go.Proofs.Ytdknhgbjgdmfkaa.P
namespace Go.Proofs.Ytdknhgbjgdmfkaa.P
open Go.RowKit Go.Shelf Go.Lib Go.Sort Go.Proofs.YtdknhgbjgdmfkaaW.PrintWords Go.Proofs.YtdknhgbjgdmfkaaW.PrintLast Go.Proofs.YtdknhgbjgdmfkaaW.PrintMore
section
variable {c : List (List Int)} {n B gm gl gi cm cl ci : Nat} {Ag : Option Addr} {cg : Nat} {w0 w w' : World} {tg : Nat → Nat} {vo vw vp : Value} {L : List (Nat × Nat × List Int)} {s : TS} {T : Nat → Prop}
theorem TJ.rowAt (h : TJ c n B gm gl gi cm cl ci Ag cg w0 w tg vo vw vp L s) {j : Nat} (hj : j < n) :
    ∃ g A1 c1, Ag = some ⟨g, 0, none⟩ ∧ (c.getD j []).length ≤ c1 ∧ w.cell? ⟨g, j, none⟩ = some (.slice A1 (c.getD j []).length c1) ∧ dI.C w A1 (c.getD j []).length (c.getD j []) := by
  obtain ⟨g, A1, c1, e, h1, h2⟩ := row_stays (S := fun _ => False) (Kd.S_mono h.gr (fun _ _ => trivial)) (fun _ e => e.elim) hj
  exact ⟨g, A1, c1, e, h1, h2 w (Fr.refl _ _)⟩
def TJx (c : List (List Int)) (n B gm gl gi cm cl ci : Nat) (Ag : Option Addr) (cg : Nat) (w0 w : World) (s : TS) : Prop := ∃ tg vo vw vp L, TJ c n B gm gl gi cm cl ci Ag cg w0 w tg vo vw vp L s
def RunP (c : List (List Int)) (n B gm gl gi cm cl ci : Nat) (Ag : Option Addr) (cg : Nat) (w0 : World) (s0 : TS) (a : Nat) : Ending → World → Prop := fun e w' =>
  e = .returned (.tuple #[]) ∧ ∃ s, TJx c n B gm gl gi cm cl ci Ag cg w0 w' s ∧ SI c s ∧ s.way = [] ∧ MetS s0 s ∧ rd s.met a ≠ 0
theorem getD_mem {l : List Int} {y : Nat} (h : y < l.length) : l.getD y 0 ∈ l := by
  rw [List.getD_eq_getElem?_getD, List.getElem?_eq_getElem h]
  exact List.getElem_mem _
theorem pw_sorted {q : List Int} (hn : q.Pairwise (· ≠ ·)) : (q.mergeSort fun x y => decide (x ≤ y)).Pairwise (· < ·) ∧ ∀ x, x ∈ (q.mergeSort fun x y => decide (x ≤ y)) ↔ x ∈ q := by
  have h1 : (q.mergeSort fun x y => decide (x ≤ y)).Pairwise (· ≤ ·) := by
    have := List.pairwise_mergeSort (le := fun x y : Int => decide (x ≤ y)) (fun a b c => by simp; omega) (fun a b => by simp; omega) q
    exact this.imp (by simp)
  have h2 : (q.mergeSort fun x y => decide (x ≤ y)).Pairwise (· ≠ ·) := (List.mergeSort_perm q _).pairwise_iff (fun h => Ne.symm h) |>.2 hn
  exact ⟨h1.imp₂ (fun a b h k => by omega) h2, fun x => List.mem_mergeSort⟩
theorem leave_all {l : List (Int × Int)} (h : TJ c n B gm gl gi cm cl ci Ag cg w0 w tg vo vw vp L { s with way := l }) (hs : SI c s) (hv : Valid c) {x : Nat} {k : Int} (hway : s.way = ((x : Int), k) :: l) (hk : k = ((row c (x : Int)).length : Int)) (hn : n ≤ 100000) :
    Calls Try.prog 86 #[.pointer (some ⟨B, 0, none⟩), .int .i64 x] w fun e w' => e = .returned (.tuple #[]) ∧ ∃ s', TJx c n B gm gl gi cm cl ci Ag cg w0 w' s' ∧ SI c s' ∧ s'.way = l ∧ s'.clk = s.clk ∧ s'.met = s.met := by
  have hlen := h.len
  have hcn : c.length = n := hlen.1
  have hsm := hs.small
  have hNx := (hs.at_ hway).1
  have hx : x < n := by have := hNx.2; omega
  have hll : l.length ≤ 100000 := by have := hsm.2.1; rw [hway, List.length_cons] at this; omega
  have hLl : L.length ≤ 100000 := by
    have h1 : (L.map fun t => t.2.2).length = s.prt.length := congrArg List.length h.hL
    rw [List.length_map] at h1
    omega
  have hcast : ∀ u : Int, Node c u → ∃ v : Nat, u = (v : Int) ∧ v < n := fun u hu => ⟨u.toNat, by have := hu.1; omega, by have := hu.1; have := hu.2; omega⟩
  by_cases hc : rd s.low (x : Int) = rd s.met (x : Int)
  · have hxo : (x : Int) ∈ s.opn := hs.ti.wg ((x : Int), k) (by rw [hway]; exact List.mem_cons_self)
    obtain ⟨seg, pre, hO⟩ := List.append_of_mem hxo
    have hod : (seg ++ (x : Int) :: pre).Pairwise (· ≠ ·) := by
      have := hs.ti.od
      rw [hO] at this
      exact this.imp (fun {a b} hab e => by rw [e] at hab; omega)
    have hsN : ∀ y ∈ seg, 0 ≤ y ∧ y < (n : Int) ∧ y ≠ (x : Int) := fun y hy => by
      have h1 := (hs.ti.on y (by rw [hO]; exact List.mem_append_left _ hy)).1
      have h2 := (List.pairwise_append.1 hod).2.2 y hy (x : Int) List.mem_cons_self
      exact ⟨h1.1, by have := h1.2; omega, h2⟩
    have hdq : (seg ++ [(x : Int)]).Pairwise (· ≠ ·) := by
      rw [List.pairwise_append] at hod ⊢
      exact ⟨hod.1, by simp, fun a ha b hb => hod.2.2 a ha b (by rw [List.mem_singleton] at hb; rw [hb]; exact List.mem_cons_self)⟩
    obtain ⟨hp1, hp2⟩ := pw_sorted hdq
    obtain ⟨hlw, hsi⟩ := hs.part hv hway hk hc hO hp1 (fun y => by rw [hp2, List.mem_append, List.mem_singleton])
    refine (leave_part h hx hn (by have := hsm.1; show s.opn.length ≤ _; omega) (by show l.length ≤ _; omega) hLl s.low ?_ hc hO hsN).mono ?_
    · cases l with
      | nil => exact .inl ⟨rfl, rfl⟩
      | cons q l =>
        obtain ⟨h1, h2, h3⟩ := hlw q.1 q.2 l rfl
        obtain ⟨v, e, hv'⟩ := hcast q.1 h2
        refine .inr ⟨v, q.2, l, hv', ?_, ?_⟩
        · show q :: l = _
          rw [← e]
        · rw [e, Int.toNat_natCast] at h3
          exact h3.symm
    · rintro e w' ⟨rfl, tg', vo', vp', L', h', _⟩
      exact ⟨rfl, _, ⟨_, _, _, _, _, h'⟩, hsi, rfl, rfl, rfl⟩
  · obtain ⟨u, ku, l', e, hne, hN, hsi⟩ := hs.leave hway hk hc
    obtain ⟨v, ev, hv'⟩ := hcast u hN
    subst ev
    rw [Int.toNat_natCast] at hsi
    refine (leave_no h hx (by show l.length ≤ _; omega) hv' e _ rfl ?_).mono ?_
    · show rd (s.low.set v (min (rd s.low v) (rd s.low x))) (x : Int) ≠ rd s.met x
      have := rd_set (l := s.low) (b := (v : Int)) (x := (x : Int)) (min (rd s.low v) (rd s.low x)) ⟨by omega, by rw [hs.ll]; omega⟩ (by omega)
      rw [Int.toNat_natCast, if_neg (fun e => hne e.symm)] at this
      rw [this]
      exact hc
    · rintro e w' ⟨rfl, tg', h'⟩
      exact ⟨rfl, _, ⟨_, _, _, _, _, h'⟩, hsi, rfl, rfl, rfl⟩
set_option maxHeartbeats 8000000 in
set_option maxRecDepth 100000 in
theorem run_c (h : TJ c n B gm gl gi cm cl ci Ag cg w0 w tg vo vw vp L s) (hs : SI c s) (hv : Valid c) (hrow : ∀ j, j < n → (c.getD j []).length ≤ n) (hn : n ≤ 100000) (hw : s.way = []) {a : Nat} (ha : a < n) (h0 : rd s.met a = 0) :
    Calls Try.prog 67 #[.pointer (some ⟨B, 0, none⟩), .int .i64 a] w (RunP c n B gm gl gi cm cl ci Ag cg w0 s a) := by
  obtain ⟨hcn, hml, hll, hil⟩ := h.len
  have hsm := hs.small
  have hck := hs.clk_le
  have hNa : Node c (a : Int) := ⟨by omega, by rw [hcn]; omega⟩
  have hwh := hs.white hNa h0
  have HE := Aside0.mk (enter_c h ha hck.1 (by omega) (by omega) (by omega))
  have HS1 := Aside0.mk (hs.enter (s1 := s) hNa h0 (.inl ⟨hw, rfl⟩))
  have HM1 := Aside0.mk (MetS.enter (s := s) (b := (a : Int)) ⟨by omega, by omega⟩ hck.1)
  have HCN := Aside0.mk hcn
  have HV := Aside0.mk hv
  have HRW := Aside0.mk hrow
  obtain ⟨P, eP⟩ : ∃ P, P = RunP c n B gm gl gi cm cl ci Ag cg w0 s a := ⟨_, rfl⟩
  have HP := Aside0.mk eP
  rw [← eP]
  clear eP h hs hv hrow hw h0 hcn hml hll hil hsm hck hNa hwh
  have hfd : ∀ v0 v1 w, (Instr.field 90 (.agg #[v0, v1]) 0).run Try.prog w = .ok v0 w := fun _ _ _ => by kernel_rfl
  go_enter Try.func67, Try.ntmps67
  go_wp2_with (go_at_call 84; refine HE.out.mono ?_; rintro e w1 ⟨rfl, tg1, vo1, vw1, h1⟩; have H1 : Aside0 (TJx c n B gm gl gi cm cl ci Ag cg w0 w1 (s.enter a)) := ⟨⟨_, _, _, _, _, h1⟩⟩; clear h1)
  obtain ⟨K, eK⟩ : ∃ K, K = (s.enter (a : Int)).left c := ⟨_, rfl⟩
  have HK := Aside0.mk eK
  clear eK
  go_loopg [] K (fun kq w' => ∃ s' : TS, Aside0 (TJx c n B gm gl gi cm cl ci Ag cg w0 w' s') ∧ Aside0 (SI c s') ∧ Aside0 (s'.left c ≤ kq) ∧ Aside0 (MetS s s' ∧ rd s'.met a ≠ 0))
  case atStart => exact ⟨_, H1, HS1, ⟨Nat.le_of_eq HK.out.symm⟩, HM1⟩
  case round =>
    clear H1 HS1 HM1 HE
    obtain ⟨s1, H1, HS1, HK1, HM1⟩ := hrel
    obtain ⟨tg1, vo1, vw1, vp1, L1, h1⟩ := H1.out
    have HJ := Aside0.mk h1
    clear h1 H1
    rcases hway : s1.way with _ | ⟨⟨u, k⟩, l⟩
    · obtain ⟨A, cA, hvw⟩ : ∃ A c, vw1 = .slice A 0 c := by
        have := HJ.out.way
        rw [hway] at this
        exact own_slice this
      subst hvw
      obtain ⟨_, _, _, _, _, _, z6, _⟩ := cells8 HJ.out.blk
      have HWY := Aside0.mk hway
      clear hway
      go_wp2
      go_end0
      rw [HP.out]
      exact ⟨rfl, s1, ⟨_, _, _, _, _, HJ.out⟩, HS1.out, HWY.out, HM1.out.1, HM1.out.2⟩
    · obtain ⟨hNu, hk0, hkl⟩ := HS1.out.at_ hway
      obtain ⟨x, rfl⟩ : ∃ x : Nat, u = (x : Int) := ⟨u.toNat, by have := hNu.1; omega⟩
      obtain ⟨y, rfl⟩ : ∃ y : Nat, k = (y : Int) := ⟨k.toNat, by omega⟩
      have hx : x < n := by have := hNu.2; have := HCN.out; omega
      have hre : row c (x : Int) = c.getD x [] := by unfold row; rw [Int.toNat_natCast]
      rw [hre] at hkl
      have hrn := HRW.out x hx
      have hcn := HCN.out
      have hleft := left_pop (c := c) (s' := { s1 with way := l }) hway (by omega) ⟨rfl, rfl⟩
      obtain ⟨k1, rfl⟩ : ∃ k1, gk = k1 + 1 := ⟨gk - 1, by have := HK1.out; omega⟩
      obtain ⟨g, cw, hvw, hgl, hcap, hgB, htg, hown, hx0, hx1, hx2⟩ := HJ.out.wayTop hway
      subst hvw
      obtain ⟨g0, A1, c1, hAg, hc1, hrc, hrC⟩ := HJ.out.rowAt hx
      subst hAg
      obtain ⟨r, er⟩ : ∃ r, r = (c.getD x []).length := ⟨_, rfl⟩
      obtain ⟨m, em⟩ : ∃ m, m = l.length := ⟨_, rfl⟩
      have hmn : m + 1 ≤ 100000 := by
        have := HS1.out.small.2.1
        rw [hway, List.length_cons] at this
        have := HCN.out
        omega
      rw [← er] at hkl hrn hc1 hrc hrC
      rw [← em] at HJ hcap hown hx0 hx1 hx2
      have HLF := Aside0.mk hleft
      have HWY := Aside0.mk hway
      have HRE := Aside0.mk hre
      have HER := Aside0.mk er
      have HEM := Aside0.mk em
      have HT := Aside0.mk (wtop_c HJ.out.blk (by omega) hgl hcap)
      have HRC := Aside0.mk hrC
      have hpos : decide ((0 : Int) < (m : Int) + 1) = true := decide_eq_true (by omega)
      obtain ⟨z0, _, _, _, _, _, z6, _⟩ := cells8 HJ.out.blk
      have HOW := Aside0.mk (And.intro hown (And.intro hgB htg))
      clear hway hre er em hrC hleft hown hNu
      by_cases hyr : y = r
      · subst hyr
        go_upto_region 3 with (go_at_call 85; refine HT.out.mono ?_; rintro e w2 ⟨rfl, m2, rfl⟩)
        go_quiet ((fail))
        go_upto_region 4 with (fail)
        have H4 := Aside0.mk ((HJ.out.drewN m2).drewN nq)
        obtain ⟨tg4, et4⟩ : ∃ t, t = newt (newt tg1 wr.heap.size 9) (wr.drewN m2).heap.size 9 := ⟨_, rfl⟩
        obtain ⟨W4, hW4⟩ : ∃ W4, W4 = (wr.drewN m2).drewN nq := ⟨_, rfl⟩
        rw [← hW4, ← et4] at H4
        rw [← hW4]
        clear hW4 et4 z0 z6 hx0 hx1 hx2 hrc HT HRC HJ
        have HO4 : Aside0 (W4.ownsRow w0.heap.size 90 2 (.slice (some ⟨g, 0, none⟩) (m + 1) cw) (m + 1) (wayCells (((x : Int), (y : Int)) :: l))) := ⟨by
          have h := H4.out.way
          rw [HWY.out, List.length_cons, ← HEM.out] at h
          exact h⟩
        have HPP := Aside0.mk (wpop_c H4.out.blk HO4.out HEM.out.symm HOW.out.2.1 (by omega))
        go_wp2_with (first
          | (go_at_call 87; refine HPP.out.mono ?_; rintro e w5 ⟨rfl, hb5, hr5, hf5⟩; have HLV := Aside0.mk (leave_all (H4.out.popW rfl HEM.out hb5 hr5 hf5) HS1.out HV.out HWY.out (by rw [HRE.out]; exact congrArg Nat.cast HER.out) hn); clear hb5 hr5 hf5)
          | (go_at_call 86; refine HLV.out.mono ?_; rintro e w6 ⟨rfl, s6, hx6, hsi6, hway6, hclk6, hmet6⟩; have H6 := Aside0.mk (And.intro hx6 (And.intro hsi6 (And.intro hway6 (And.intro hclk6 hmet6)))); clear hx6 hsi6 hway6 hclk6 hmet6))
        go_roundg k1
        case measure => omega
        case rel =>
          obtain ⟨hx6, hsi6, hway6, hclk6, hmet6⟩ := H6.out
          have hl6 := left_pop (c := c) (s' := s6) HWY.out (by have := HCN.out; omega) ⟨hway6, hclk6⟩
          exact ⟨s6, ⟨hx6⟩, ⟨hsi6⟩, ⟨by have := HK1.out; omega⟩, ⟨HM1.out.1.trans (MetS.same hmet6), by rw [hmet6]; exact HM1.out.2⟩⟩
      · have hlt : y < r := by omega
        have b1 : ((y : Int) == (r : Int)) = false := beq_eq_false_iff_ne.2 (by omega)
        go_upto_region 3 with (go_at_call 85; refine HT.out.mono ?_; rintro e w2 ⟨rfl, m2, rfl⟩)
        go_quiet ((fail))
        go_upto_region 5 with (fail)
        obtain ⟨gb, ob, hA1, _, hcb⟩ := C_ints HRC.out (by omega)
        subst hA1
        have hcb := hcb y (by have := HER.out; omega)
        obtain ⟨b, eb⟩ : ∃ b, b = (c.getD x []).getD y 0 := ⟨_, rfl⟩
        rw [← eb] at hcb
        have hbN : Node c b := by
          refine row_node HV.out (a := (x : Int)) ?_
          rw [HRE.out, eb]
          exact getD_mem (by have := HER.out; omega)
        obtain ⟨z, rfl⟩ : ∃ z : Nat, b = (z : Int) := ⟨b.toNat, by have := hbN.1; omega⟩
        have hz : z < n := by have := hbN.2; have := HCN.out; omega
        have HEB := Aside0.mk eb
        have HBN := Aside0.mk hbN
        clear eb hbN
        have H5 := Aside0.mk ((HJ.out.drewN m2).drewN nq)
        obtain ⟨tg5, et5⟩ : ∃ t, t = newt (newt tg1 wr.heap.size 9) (wr.drewN m2).heap.size 9 := ⟨_, rfl⟩
        obtain ⟨W5, hW5⟩ : ∃ W5, W5 = (wr.drewN m2).drewN nq := ⟨_, rfl⟩
        rw [← hW5, ← et5] at H5
        rw [← hW5]
        have y0 : W5.cell? ⟨g, m * 2, none⟩ = some (.int .i64 (x : Int)) := by rw [hW5]; exact hx0
        have y1 : W5.cell? ⟨g, m * 2 + 1, none⟩ = some (.int .i64 (y : Int)) := by rw [hW5]; exact hx1
        have y2 : W5.frozen? ⟨g, m * 2 + 1, none⟩ = false := by rw [hW5]; exact hx2
        have y3 : W5.cell? ⟨g0, x, none⟩ = some (.slice (some ⟨gb, ob, none⟩) r c1) := by rw [hW5]; exact hrc
        have y4 : W5.cell? ⟨gb, ob + y, none⟩ = some (.int .i64 (z : Int)) := by rw [hW5]; exact hcb
        clear hW5 et5 z0 z6 hx0 hx1 hx2 hrc hcb HT HRC HJ
        obtain ⟨z0, _, _, _, _, _, _, _⟩ := cells8 H5.out.blk
        go_quiet ((fail))
        go_upto_region 6 with (fail)
        have H6 := Aside0.mk (H5.out.drewN nq)
        obtain ⟨tg6, et6⟩ : ∃ t, t = newt tg5 W5.heap.size 9 := ⟨_, rfl⟩
        obtain ⟨W6, hW6⟩ : ∃ W6, W6 = W5.drewN nq := ⟨_, rfl⟩
        rw [← hW6, ← et6] at H6
        rw [← hW6]
        replace y1 : W6.cell? ⟨g, m * 2 + 1, none⟩ = some (.int .i64 (y : Int)) := by rw [hW6]; exact y1
        replace y2 : W6.frozen? ⟨g, m * 2 + 1, none⟩ = false := by rw [hW6]; exact y2
        clear hW6 et6 z0 y0 y3 y4 H5
        go_upto_region 7 with (fail)
        have H7 := Aside0.mk (H6.out.nextW HWY.out rfl HEM.out)
        obtain ⟨tg7, et7⟩ : ∃ t, t = newt tg6 W6.heap.size 6 := ⟨_, rfl⟩
        obtain ⟨W7, hW7⟩ : ∃ W7, W7 = W6.setCell ⟨g, m * 2 + 1, none⟩ (.int .i64 ((y : Int) + 1)) := ⟨_, rfl⟩
        rw [← hW7, ← et7] at H7
        rw [← hW7]
        clear hW7 et7 y1 y2 H6
        obtain ⟨_, z1, z2, _, z4, _, _, _⟩ := cells8 H7.out.blk
        obtain ⟨cm1, _⟩ := H7.out.cellM hz
        have HLA := Aside0.mk (left_adv (c := c) HWY.out (by omega) (by have := HCN.out; omega))
        by_cases hq : s1.met.getD z 0 = 0
        · replace cm1 : W7.cell? ⟨gm, z, none⟩ = some (.int .i64 0) := by rw [← hq]; exact cm1
          have hck := HS1.out.clk_le
          have hsm := HS1.out.small
          have hcn' := HCN.out
          have hwh := HS1.out.white HBN.out (by rw [rdc]; exact hq)
          have HEN := Aside0.mk (enter_c H7.out hz hck.1 (by show s1.clk ≤ _; omega) (by show s1.opn.length ≤ _; omega) (by have := HEM.out; show ((_, _) :: l).length ≤ _; rw [List.length_cons]; omega))
          have HSE := Aside0.mk (HS1.out.enter (s1 := s1.adv (x : Int) (y : Int) l) HBN.out (by rw [rdc]; exact hq) (.inr ⟨(x : Int), (y : Int), l, HWY.out, rfl, by rw [HRE.out, ← HER.out]; omega, by rw [HRE.out, Int.toNat_natCast]; exact HEB.out.symm⟩))
          have HLE := Aside0.mk (left_enter (c := c) (s := s1.adv (x : Int) (y : Int) l) (b := (z : Int)) hck.1 hwh)
          have HME := Aside0.mk (MetS.enter (s := s1.adv (x : Int) (y : Int) l) (b := (z : Int)) ⟨by omega, by show _ < (s1.met.length : Int); rw [HS1.out.ml]; omega⟩ hck.1)
          clear hck hsm hcn' hwh hq
          go_wp2_with (go_at_call 84; refine HEN.out.mono ?_; rintro e w8 ⟨rfl, tg8, vo8, vw8, h8⟩; have H8 := Aside0.mk h8; clear h8)
          go_roundg k1
          case measure => omega
          case rel => exact ⟨_, ⟨⟨_, _, _, _, _, H8.out⟩⟩, HSE, ⟨by have := HLE.out; have := HLA.out; have := HK1.out; omega⟩, ⟨HM1.out.1.trans ((MetS.same rfl).trans HME.out.1), HME.out.1 _ (by omega) HM1.out.2⟩⟩
        · obtain ⟨q, eq⟩ : ∃ q, q = s1.met.getD z 0 := ⟨_, rfl⟩
          replace cm1 : W7.cell? ⟨gm, z, none⟩ = some (.int .i64 q) := by rw [eq]; exact cm1
          have hSN := HS1.out.seen HWY.out (b := (z : Int)) (by rw [HRE.out, ← HER.out]; omega) (by rw [HRE.out, Int.toNat_natCast]; exact HEB.out.symm) HBN.out (by rw [rdc]; exact hq)
          rw [← eq] at hq
          have b2 : (q == 0) = false := beq_eq_false_iff_ne.2 hq
          have hin := HS1.out.ino (z : Int) HBN.out
          have hin : s1.inn.getD z false = decide ((z : Int) ∈ s1.opn) := hin
          obtain ⟨ci1, _⟩ := H7.out.cellI hz
          by_cases ho : (z : Int) ∈ s1.opn
          · rw [if_pos ho] at hSN
            rw [decide_eq_true ho] at hin
            replace ci1 : W7.cell? ⟨gi, z, none⟩ = some (.bool true) := by rw [← hin]; exact ci1
            obtain ⟨q2, eq2⟩ : ∃ q, q = s1.low.getD x 0 := ⟨_, rfl⟩
            obtain ⟨cl1, fl1⟩ := H7.out.cellL hx
            replace cl1 : W7.cell? ⟨gl, x, none⟩ = some (.int .i64 q2) := by rw [eq2]; exact cl1
            rw [rdc, rdc, ← eq, ← eq2, Int.toNat_natCast] at hSN
            have HSN := Aside0.mk hSN
            clear hSN eq eq2 hq hin ho
            go_upto_region 10 with (fail)
            go_region
            all_goals
              go_wp2
              go_roundg k1
              case measure => omega
              case rel => exact ⟨_, ⟨⟨_, _, _, _, _, (H7.out.setL x (min q2 q)).drew⟩⟩, HSN, ⟨by have h1 := HLA.out; have h2 := HK1.out; exact Nat.le_trans (show _ ≤ (s1.adv (x : Int) (y : Int) l).left c from Nat.le_refl _) (by omega)⟩, ⟨HM1.out.1.trans (MetS.same rfl), HM1.out.2⟩⟩
          · rw [if_neg ho] at hSN
            rw [decide_eq_false ho] at hin
            replace ci1 : W7.cell? ⟨gi, z, none⟩ = some (.bool false) := by rw [← hin]; exact ci1
            have HSN := Aside0.mk hSN
            clear hSN eq hq hin ho
            go_wp2
            go_roundg k1
            case measure => omega
            case rel => exact ⟨_, ⟨⟨_, _, _, _, _, H7.out⟩⟩, HSN, ⟨by have := HLA.out; have := HK1.out; omega⟩, ⟨HM1.out.1.trans (MetS.same rfl), HM1.out.2⟩⟩
end
end Go.Proofs.Ytdknhgbjgdmfkaa.P
namespace Go.Proofs.Ytdknhgbjgdmfkaa.P
open Go.RowKit Go.Shelf Go.Lib Go.Sort Go.Proofs.YtdknhgbjgdmfkaaW.PrintWords Go.Proofs.YtdknhgbjgdmfkaaW.PrintLast Go.Proofs.YtdknhgbjgdmfkaaW.PrintMore
def scc_Parts.f (l0 : List (List Int)) : Option (List (List Int)) := if fits l0 = true then some (partsB (clean l0)) else none
theorem pbel_call {P : Program} {f : FuncId} {args : Array Value} {w W : World} {Q1 Q : Ending → World → Prop} (h : Below w.heap.size w W → Calls P f args W Q1) (hW : Below w.heap.size w W) (k : ∀ e W', Q1 e W' → Below w.heap.size w W → Q e W') : Calls P f args W Q :=
  (h hW).mono (fun e W' hq => k e W' hq hW)
theorem pheap_new (W : World) (o : Obj) (k : Nat) (hk : k = W.heap.size) : (W.alloc o).heap[k]? = some o := by
  subst hk
  exact heap_alloc_new W o
theorem pheap_old {W : World} {o c : Obj} {k : Nat} (h : W.heap[k]? = some c) : (W.alloc o).heap[k]? = some c := (Below.heap_alloc _ _ _ (blk_lt h)).trans h
theorem pheap_bel {W W' : World} {c : Obj} {k : Nat} (h : W.heap[k]? = some c) (hb : Below W.heap.size W W') : W'.heap[k]? = some c := (hb.block k (blk_lt h)).trans h
theorem pnew0 (W : World) (o : Obj) : (W.alloc o).heap[W.heap.size]? = some o := heap_alloc_new W o
theorem pnew1 (W : World) (a o : Obj) : ((W.alloc a).alloc o).heap[W.heap.size + 1]? = some o := pheap_new _ _ _ (by rw [size_alloc1])
theorem pnew2 (W : World) (a b o : Obj) : (((W.alloc a).alloc b).alloc o).heap[W.heap.size + 1 + 1]? = some o := pheap_new _ _ _ (by rw [size_alloc1, size_alloc1])
theorem pnew3 (W : World) (a b c o : Obj) : ((((W.alloc a).alloc b).alloc c).alloc o).heap[W.heap.size + 1 + 1 + 1]? = some o := pheap_new _ _ _ (by rw [size_alloc1, size_alloc1, size_alloc1])
theorem psize_drew (w : World) : w.drew.heap.size = w.heap.size := rfl
theorem pheap_drew {W : World} {c : Obj} {k : Nat} (h : W.heap[k]? = some c) : W.drew.heap[k]? = some c := h
theorem pheap_drewN {W : World} {c : Obj} {k m : Nat} (h : W.heap[k]? = some c) : (W.drewN m).heap[k]? = some c := h
theorem R_made {W : World} {base g n : Nat} (hM : W.heap[g]? = some (.cells (madeCells #[.int .i64 0] n) 3 (0, 0))) (hb : base ≤ g) (hn : n ≤ 100000) : dI.R 3 W base (fun k => k = g) (.slice (some ⟨g, 0, none⟩) n n) (List.replicate n 0) := by
  refine ints_R ⟨by simp, .inr ⟨g, n, _, by simp, by omega, hM, by simp, by unfold maxLen; simp; omega, by simp [size_madeCells], by simp [toList_madeCells_one]⟩⟩ (fun k hk => ?_)
  simp only [Value.ownBlock] at hk
  exact (Option.some.inj hk).symm
theorem R_madeB {W : World} {base g n : Nat} (hM : W.heap[g]? = some (.cells (madeCells #[.bool false] n) 4 (0, 0))) (hb : base ≤ g) (hn : n ≤ 100000) : dB.R 4 W base (fun k => k = g) (.slice (some ⟨g, 0, none⟩) n n) (List.replicate n false) := by
  have ho : W.ownsRow base 4 1 (.slice (some ⟨g, 0, none⟩) n n) (List.replicate n false).length ((List.replicate n false).map Value.bool) := ⟨by simp, .inr ⟨g, n, _, by simp, by omega, hM, by simp, by unfold maxLen; simp; omega, by simp [size_madeCells], by simp [toList_madeCells_one]⟩⟩
  refine Kd.R_of_own ho (fun k hk => ?_)
  simp only [Value.ownBlock] at hk
  exact (Option.some.inj hk).symm
theorem TJ_start {w Wb wT W : World} {n B gm gl gi cT : Nat} {AT : Option Addr} {c : List (List Int)} (hoT : Kd.S dG 32 wT Wb.heap.size (fun _ => True) (.slice AT n cT) c) (hB : Below w.heap.size w W) (hT : Below wT.heap.size wT W)
    (hS : W.heap[B]? = some (.cells #[.slice AT n cT, .slice (some ⟨gm, 0, none⟩) n n, .slice (some ⟨gl, 0, none⟩) n n, .slice none 0 0, .slice (some ⟨gi, 0, none⟩) n n, .int .i64 0, .slice none 0 0, .slice none 0 0] 69 (0, 0)))
    (hm : W.heap[gm]? = some (.cells (madeCells #[.int .i64 0] n) 3 (0, 0))) (hl : W.heap[gl]? = some (.cells (madeCells #[.int .i64 0] n) 3 (0, 0))) (hi : W.heap[gi]? = some (.cells (madeCells #[.bool false] n) 4 (0, 0))) (hn : n ≤ 100000)
    (h : w.heap.size ≤ Wb.heap.size ∧ wT.heap.size ≤ B ∧ gm < B ∧ gl < B ∧ gi < B ∧ gm ≠ gl ∧ gm ≠ gi ∧ gl ≠ gi ∧ w.heap.size ≤ gm ∧ w.heap.size ≤ gl ∧ w.heap.size ≤ gi ∧ (gm < Wb.heap.size ∨ wT.heap.size ≤ gm) ∧ (gl < Wb.heap.size ∨ wT.heap.size ≤ gl) ∧ (gi < Wb.heap.size ∨ wT.heap.size ≤ gi)) (hTs : Wb.heap.size ≤ wT.heap.size) :
    ∃ tg, TJ c n B gm gl gi n n n AT cT w W tg (.slice none 0 0) (.slice none 0 0) (.slice none 0 0) [] (TS.start n) := by
  obtain ⟨h1, h2, h3, h4, h5, h6, h7, h8, h9, h10, h11, h12, h13, h14⟩ := h
  refine ⟨fun k => if k = gm then 1 else if k = gl then 2 else if k = gi then 4 else if k = B then 9 else 0, ⟨hS, ?_, R_made hm h9 hn, R_made hl h10 hn, R_madeB hi h11 hn, Kd.R_nil _ _ _ _ _, own_nil _ _ _ _, fun k hk => by simp [Value.ownBlock] at hk, own_nil _ _ _ _, fun k hk => by simp [Value.ownBlock] at hk, (fun t ht => by cases ht), List.nodup_nil, rfl, ?_, ?_, ?_, ?_, by omega, hB⟩⟩
  · refine Kd.S_lower (Kd.S_mono (Kd.S_below (Kd.S_bound hoT) hT) (fun k hk => ?_)) h1
    have h15 := hk.2.1
    have h16 := hk.2.2.1
    show (if k = gm then 1 else if k = gl then 2 else if k = gi then 4 else if k = B then 9 else 0) = 0
    rw [if_neg (by omega), if_neg (by omega), if_neg (by omega), if_neg (by omega)]
  · show (if B = gm then 1 else if B = gl then 2 else if B = gi then 4 else if B = B then 9 else 0) = 9
    rw [if_neg (by omega), if_neg (by omega), if_neg (by omega), if_pos rfl]
  · exact if_pos rfl
  · show (if gl = gm then 1 else if gl = gl then 2 else if gl = gi then 4 else if gl = B then 9 else 0) = 2
    rw [if_neg (by omega), if_pos rfl]
  · show (if gi = gm then 1 else if gi = gl then 2 else if gi = gi then 4 else if gi = B then 9 else 0) = 4
    rw [if_neg (by omega), if_neg (by omega), if_pos rfl]
theorem S_of_rows {w : World} {base : Nat} {vp : Value} {L : List (Nat × Nat × List Int)} (own : w.ownsRow base 32 1 vp L.length (L.map hdr)) (rows : ∀ t ∈ L, dI.R 3 w base (fun k => k = t.1) (hdr t) t.2.2) (nd : (L.map fun t => t.1).Nodup) (hb : ∀ t ∈ L, vp.ownBlock ≠ some t.1) :
    Kd.S dG 32 w base (fun _ => True) vp (L.map fun t => t.2.2) := by
  refine ⟨fun k => (L.map fun t => t.1).idxOf k, fun _ _ => trivial, L.map hdr, ?_, ?_, fun j p hj => ?_⟩
  · rw [List.length_zipIdx, List.length_map]
    exact own
  · show (L.map hdr).length = _ * 1
    rw [List.length_zipIdx, List.length_map, List.length_map, Nat.mul_one]
  · rw [List.getElem?_zipIdx, Nat.zero_add, List.getElem?_map] at hj
    obtain ⟨q, hq, rfl⟩ := Option.map_eq_some_iff.1 hj
    obtain ⟨t, ht, rfl⟩ := Option.map_eq_some_iff.1 hq
    have htm := List.mem_of_getElem? ht
    obtain ⟨hjl, hje⟩ := List.getElem?_eq_some_iff.1 ht
    refine ⟨hdr t, ?_, Kd.R_mono (rows t htm) (fun k e => ?_)⟩
    · show ((L.map hdr).drop (j * 1)).take 1 = [hdr t]
      rw [Nat.mul_one, List.drop_eq_getElem_cons (by rw [List.length_map]; exact hjl), List.getElem_map, hje]
      rfl
    · subst e
      refine ⟨⟨trivial, fun e => hb t htm e.symm⟩, ?_⟩
      have h1 := nd.idxOf_getElem j (by rw [List.length_map]; exact hjl)
      rw [List.getElem_map, hje] at h1
      exact h1
theorem TJx_start {w Wb wT W : World} {n B gm gl gi cT : Nat} {AT : Option Addr} {c : List (List Int)} (hoT : Kd.S dG 32 wT Wb.heap.size (fun _ => True) (.slice AT n cT) c) (hB : Below w.heap.size w W) (hT : Below wT.heap.size wT W)
    (hS : W.heap[B]? = some (.cells #[.slice AT n cT, .slice (some ⟨gm, 0, none⟩) n n, .slice (some ⟨gl, 0, none⟩) n n, .slice none 0 0, .slice (some ⟨gi, 0, none⟩) n n, .int .i64 0, .slice none 0 0, .slice none 0 0] 69 (0, 0)))
    (hm : W.heap[gm]? = some (.cells (madeCells #[.int .i64 0] n) 3 (0, 0))) (hl : W.heap[gl]? = some (.cells (madeCells #[.int .i64 0] n) 3 (0, 0))) (hi : W.heap[gi]? = some (.cells (madeCells #[.bool false] n) 4 (0, 0))) (hn : n ≤ 100000)
    (h : w.heap.size ≤ Wb.heap.size ∧ wT.heap.size ≤ B ∧ gm < B ∧ gl < B ∧ gi < B ∧ gm ≠ gl ∧ gm ≠ gi ∧ gl ≠ gi ∧ w.heap.size ≤ gm ∧ w.heap.size ≤ gl ∧ w.heap.size ≤ gi ∧ (gm < Wb.heap.size ∨ wT.heap.size ≤ gm) ∧ (gl < Wb.heap.size ∨ wT.heap.size ≤ gl) ∧ (gi < Wb.heap.size ∨ wT.heap.size ≤ gi)) (hTs : Wb.heap.size ≤ wT.heap.size) :
    TJx c n B gm gl gi n n n AT cT w W (TS.start n) := by
  obtain ⟨tg, h⟩ := TJ_start hoT hB hT hS hm hl hi hn h hTs
  exact ⟨tg, _, _, _, _, h⟩
theorem pbel_next {w W W' : World} (h : Below w.heap.size w W) (k : Below W.heap.size W W') : Below w.heap.size w W' := h.trans (k.mono h.size)
set_option maxHeartbeats 8000000 in
set_option maxRecDepth 100000 in
theorem scc_Parts.calls (A0 : Option Addr) (c0 : Nat) (l0 : List (List Int)) (r : List (List Int)) (w : World) (hr0 : Kd.C (Kd.slice 3 (Kd.int .i64)) w A0 l0.length l0) (hc0 : l0.length ≤ c0) (h : scc_Parts.f l0 = some r) :
    Calls Try.prog 36 #[.slice A0 l0.length c0] w fun e w' => ∃ v0_ : Value, e = .returned v0_ ∧ Kd.S (Kd.slice 3 (Kd.int .i64)) 32 w' w.heap.size (fun _ => True) v0_ r ∧ Below w.heap.size w w' := by
  have HF : Aside0 (fits l0 = true ∧ r = partsB (clean l0)) := by
    unfold scc_Parts.f at h
    split at h
    · exact ⟨⟨by assumption, (Option.some.inj h).symm⟩⟩
    · cases h
  have HCL : Aside0 (∀ W, Below w.heap.size w W → Calls Try.prog 16 #[.slice A0 l0.length c0] W fun e w' => ∃ v0_ : Value, e = .returned v0_ ∧ Kd.S (Kd.slice 3 (Kd.int .i64)) 32 w' W.heap.size (fun _ => True) v0_ (clean l0) ∧ Below W.heap.size W w') :=
    ⟨fun W hW => graph_Clean.calls A0 c0 l0 (clean l0) W (Kd.C_below hr0 hW) hc0 (by unfold graph_Clean.f; rw [if_pos HF.out.1])⟩
  clear hr0 hc0 h
  have hn : l0.length ≤ 100000 := by
    have := HF.out.1
    unfold fits at this
    simp at this
    exact this.1
  obtain ⟨n, en⟩ : ∃ n, n = l0.length := ⟨_, rfl⟩
  rw [← en] at HCL hn ⊢
  have HEN := Aside0.mk en
  clear en
  have hmk := run_make_row' (P := Try.prog) 32 3 (.int .i64 0) 8 Try.underlying32 info3 rfl .i64 .i64 n (by omega) (by omega)
  have hmk2 := run_make_row' (P := Try.prog) 29 4 (.bool false) 1 Try.underlying29 info4 rfl .i64 .i64 n (by omega) (by omega)
  go_enter Try.func36, Try.ntmps36
  go_upto_region 2 with (fail)
  go_cut [4] from 8 to 17 (fun v4 wx => ∃ B gm gl gi AT cT, v4 = .pointer (some ⟨B, 0, none⟩) ∧ Aside0 (TJx (clean l0) n B gm gl gi n n n AT cT w wx (TS.start n)))
  case first =>
    go_region_with (go_at_call 16; refine pbel_call (HCL.out _) (by repeat (first | exact Below.refl _ _ | apply pw_below_drewN | apply below_drew1 | apply below_drew | apply below_alloc)) ?_; rintro e wT ⟨vT, rfl, hoT, hbT⟩ hW; obtain ⟨AT, cT, rfl, _⟩ := Kd.S_reads hoT; rw [clean_len, ← HEN.out] at hoT ⊢; have HOT := Aside0.mk hoT; have HBT := Aside0.mk hbT; have HWT := Aside0.mk hW; clear hoT hbT hW)
    all_goals (go_wp2_with (fail))
    all_goals go_meet
    all_goals
      have s1 := HBT.out.size
      have s2 := HWT.out.size
      simp only [size_alloc1, psize_drew] at s1 s2
      refine ⟨_, _, _, _, _, _, rfl, ⟨TJx_start HOT.out (by with_reducible repeat (first | exact pbel_next HWT.out HBT.out | apply below_drew | apply below_alloc | apply pw_below_drewN)) (by with_reducible repeat (first | exact Below.refl _ _ | apply below_drew | apply below_alloc | apply pw_below_drewN)) (by with_reducible repeat (first | exact pnew0 _ _ | exact pnew1 _ _ _ | exact pnew2 _ _ _ _ | exact pnew3 _ _ _ _ _ | apply pheap_drew | apply pheap_drewN | apply pheap_old | refine pheap_bel ?_ HBT.out)) (by with_reducible repeat (first | exact pnew0 _ _ | exact pnew1 _ _ _ | exact pnew2 _ _ _ _ | exact pnew3 _ _ _ _ _ | apply pheap_drew | apply pheap_drewN | apply pheap_old | refine pheap_bel ?_ HBT.out)) (by with_reducible repeat (first | exact pnew0 _ _ | exact pnew1 _ _ _ | exact pnew2 _ _ _ _ | exact pnew3 _ _ _ _ _ | apply pheap_drew | apply pheap_drewN | apply pheap_old | refine pheap_bel ?_ HBT.out)) (by with_reducible repeat (first | exact pnew0 _ _ | exact pnew1 _ _ _ | exact pnew2 _ _ _ _ | exact pnew3 _ _ _ _ _ | apply pheap_drew | apply pheap_drewN | apply pheap_old | refine pheap_bel ?_ HBT.out)) hn ?_ HBT.out.size⟩⟩
      simp only [size_alloc1, psize_drew]
      refine ⟨by omega, by omega, by omega, by omega, by omega, by omega, by omega, by omega, by omega, by omega, by omega, by omega, by omega, by omega⟩
  case rest =>
    obtain ⟨B, gm, gl, gi, AT, cT, rfl, HS⟩ := hcut
    have HV : Aside0 (Valid (clean l0)) := ⟨clean_Valid l0⟩
    have HCN : Aside0 ((clean l0).length = n) := ⟨by rw [clean_len, HEN.out]⟩
    have HRW : Aside0 (∀ j, j < n → ((clean l0).getD j []).length ≤ n) := ⟨fun j hj => by
      have hjl : j < (clean l0).length := by rw [HCN.out]; exact hj
      rw [List.getD_eq_getElem?_getD, List.getElem?_eq_getElem hjl, HEN.out]
      exact clean_row_le _ (List.getElem_mem hjl)⟩
    have HS0 : Aside0 (SI (clean l0) (TS.start n)) := ⟨by have := SI_start (clean l0); rwa [HCN.out] at this⟩
    obtain ⟨c, ec⟩ : ∃ c, c = clean l0 := ⟨_, rfl⟩
    have HRR : Aside0 (r = partsB c) := ⟨by rw [ec]; exact HF.out.2⟩
    rw [← ec] at HS HV HCN HRW HS0
    clear ec HF HCL hmk hmk2 HEN
    go_wp2
    go_loopw [20] (fun v20 w' => ∃ (j : Nat) (s : TS), j ≤ n ∧ v20 = .int .i64 j ∧ Aside0 (TJx c n B gm gl gi n n n AT cT w w' s) ∧ Aside0 (SI c s ∧ s.way = []) ∧ Aside0 (∀ x : Nat, x < j → Go.Proofs.YtdknhgbjgdmfkaaW.PrintWords.rd s.met (x : Int) ≠ 0)) (fun v20 _ => n - (intOf v20).toNat)
    case atStart => exact ⟨0, TS.start n, Nat.zero_le _, rfl, HS, ⟨HS0.out, rfl⟩, ⟨fun x hx => by omega⟩⟩
    case round =>
      clear HS HS0
      obtain ⟨j, s, hj, rfl, HT, HI, HM⟩ := hrel
      obtain ⟨tg, vo, vw, vp, L, h⟩ := HT.out
      have HJ := Aside0.mk h
      clear h
      by_cases hlt : j < n
      · obtain ⟨_, z1, _, _, _, _, _, _⟩ := cells8 HJ.out.blk
        obtain ⟨cm, _⟩ := HJ.out.cellM hlt
        by_cases hq : s.met.getD j 0 = 0
        · rw [hq] at cm
          have HRUN := Aside0.mk (run_c HJ.out HI.out.1 HV.out HRW.out hn HI.out.2 hlt (by rw [rdc]; exact hq))
          clear hq
          go_wp2_with (go_at_call 67; refine HRUN.out.mono ?_; rintro e w2 ⟨rfl, s2, hx2, hsi2, hw2, hm2, hj2⟩; have HX2 := Aside0.mk hx2; have HI2 := Aside0.mk (And.intro hsi2 hw2); have HM2 := Aside0.mk (And.intro hm2 hj2); clear hx2 hsi2 hw2 hm2 hj2)
          go_roundw
          case rel =>
            refine ⟨j + 1, s2, by omega, by go_num, HX2, HI2, ⟨fun x hx => ?_⟩⟩
            by_cases e : x = j
            · subst e; exact HM2.out.2
            · exact HM2.out.1 _ (by omega) (HM.out x (by omega))
          case measure => simp [intOf]; omega
        · obtain ⟨q, eq⟩ : ∃ q, q = s.met.getD j 0 := ⟨_, rfl⟩
          rw [← eq] at cm hq
          have b1 : (q == 0) = false := beq_eq_false_iff_ne.2 hq
          have HEQ := Aside0.mk eq
          have HQ := Aside0.mk hq
          clear hq eq
          go_wp2
          go_roundw
          case rel =>
            refine ⟨j + 1, s, by omega, by go_num, HT, HI, ⟨fun x hx => ?_⟩⟩
            by_cases e : x = j
            · subst e; rw [rdc, ← HEQ.out]; exact HQ.out
            · exact HM.out x (by omega)
          case measure => simp [intOf]; omega
      · obtain rfl : j = n := by omega
        clear hlt
        obtain ⟨_, _, _, _, _, _, _, z7⟩ := cells8 HJ.out.blk
        have HPB : Aside0 (∀ t ∈ L, vp.ownBlock ≠ some t.1) := ⟨fun t ht e => by have h1 := HJ.out.ptg _ e; have h2 := (HJ.out.rows t ht).2; omega⟩
        have HTP : Aside0 (∀ t ∈ L, t.2.2 ∈ s.prt) := ⟨fun t ht => by rw [← HJ.out.hL]; exact List.mem_map.2 ⟨t, ht, rfl⟩⟩
        have hLl : L.length ≤ 1000000 := by
          have h1 : (L.map fun t => t.2.2).length = s.prt.length := congrArg List.length HJ.out.hL
          rw [List.length_map] at h1
          have := HI.out.1.small.2.2
          have := HCN.out
          omega
        have HSO := Aside0.mk (psort_c HJ.out.prt (fun t ht => (HJ.out.rows t ht).1) HPB.out (fun t ht => List.length_pos_iff.2 (HI.out.1.ti.ps _ (HTP.out t ht)).1) (fun t ht => by
          have h1 := (HI.out.1.ti.ps _ (HTP.out t ht)).1
          have h2 : t.2.2.headD 0 ∈ t.2.2 := by
            cases e : t.2.2 with
            | nil => exact absurd e h1
            | cons x p => exact List.mem_cons_self
          have h3 := (HI.out.1.ti.pn _ (HTP.out t ht) _ h2).1
          have h4 := HCN.out
          show 0 ≤ t.2.2.headD 0 ∧ t.2.2.headD 0 ≤ 1000000
          have h5 := h3.1
          have h6 := h3.2
          omega) hLl)
        have HNB : Aside0 (vp.ownBlock ≠ some B) := ⟨fun e => by have h1 := HJ.out.ptg _ e; have h2 := HJ.out.tB; omega⟩
        go_wp2_with (go_at_call 68; refine HSO.out.mono ?_; rintro e w2 ⟨rfl, L2, hp2, hs2, ho2, hr2, hf2⟩; have hB2 := (hf2.block B HJ.out.lts.1 HNB.out).trans HJ.out.blk; (obtain ⟨_, _, _, _, _, _, _, y7⟩ := cells8 hB2); have HP2 := Aside0.mk (And.intro hp2 hs2); have HO2 := Aside0.mk (And.intro ho2 hr2); have HF2 := Aside0.mk hf2; clear hp2 hs2 ho2 hr2 hf2 hB2)
        go_ret
        have hPP : (L2.map fun t => t.2.2).Perm s.prt := by rw [← HJ.out.hL]; exact HP2.out.1.map _
        have hr : r = L2.map fun t => t.2.2 := by
          rw [HRR.out]
          exact (parts_found HV.out HI.out.1 HI.out.2 (by rw [HCN.out]; exact HM.out) hPP (List.pairwise_map.2 HP2.out.2)).symm
        refine ⟨_, rfl, ?_, below_fr HJ.out.bel HF2.out (fun k e => own_base HJ.out.prt k e) HJ.out.bel.size⟩
        rw [hr]
        exact S_of_rows HO2.out.1 HO2.out.2 ((HP2.out.1.map _).nodup_iff.2 HJ.out.nd) (fun t ht => HPB.out t (HP2.out.1.mem_iff.1 ht))
end Go.Proofs.Ytdknhgbjgdmfkaa.P
