/- slices.Sort's contracts at this translation: laid by the kit's tools, in plain words. -/
import Derived.Shelf.Small.Bits
import Derived.Shelf.Strconv.Itoa0
import Derived.Ground.Names2Prog
import Derived.Shelf.Slices.SearchI
import Derived.Ground.SlgmProg
import Derived.Shelf.SortM.Plain
import Derived.Shelf.SortM.SortNone
import Derived.Test.YtijabmpcicddbaaProg
namespace Go.Proofs
open Go.Shelf
def Try.laysSlM5_f44_ren : Go.Shelf.Ren := ⟨fun | 5 => 44 | 8 => 71 | 7 => 70 | 19 => 97 | 20 => 98 | 10 => 88 | 11 => 89 | 12 => 90 | 13 => 91 | 14 => 92 | 15 => 93 | 16 => 94 | 17 => 95 | 18 => 96 | 30 => 103 | 31 => 104 | 32 => 105 | 33 => 106 | 34 => 107 | 35 => 74 | 40 => 109 | n => n, fun | 23 => 45 | 25 => 3 | 3 => 3 | 32 => 101 | 22 => 45 | 0 => 0 | 44 => 49 | 46 => 28 | 4 => 4 | 36 => 157 | 35 => 156 | 41 => 34 | 5 => 5 | 9 => 9 | 53 => 166 | 57 => 170 | 63 => 173 | 64 => 174 | n => n, fun | n => n⟩
theorem Try.laysSlM5_f44 : Go.Proofs.SlLaysM.n5 Try.prog Try.laysSlM5_f44_ren := {
  mixed := by kernel_rfl
  f5 := ⟨Try.f44.name, by decide, Try.func44.trans (congrArg some (by kernel_rfl))⟩
  f7 := ⟨Try.f70.name, by decide, Try.func70.trans (congrArg some (by kernel_rfl))⟩
  f8 := Try.func71.trans (congrArg some (by kernel_rfl))
  f10 := ⟨Try.f88.name, by decide, Try.func88.trans (congrArg some (by kernel_rfl))⟩
  f11 := ⟨Try.f89.name, by decide, Try.func89.trans (congrArg some (by kernel_rfl))⟩
  f12 := ⟨Try.f90.name, by decide, Try.func90.trans (congrArg some (by kernel_rfl))⟩
  f13 := ⟨Try.f91.name, by decide, Try.func91.trans (congrArg some (by kernel_rfl))⟩
  f14 := ⟨Try.f92.name, by decide, Try.func92.trans (congrArg some (by kernel_rfl))⟩
  f15 := ⟨Try.f93.name, by decide, Try.func93.trans (congrArg some (by kernel_rfl))⟩
  f16 := ⟨Try.f94.name, by decide, Try.func94.trans (congrArg some (by kernel_rfl))⟩
  f17 := ⟨Try.f95.name, by decide, Try.func95.trans (congrArg some (by kernel_rfl))⟩
  f18 := ⟨Try.f96.name, by decide, Try.func96.trans (congrArg some (by kernel_rfl))⟩
  f19 := Try.func97.trans (congrArg some (by kernel_rfl))
  f20 := Try.func98.trans (congrArg some (by kernel_rfl))
  f30 := ⟨Try.f103.name, by decide, Try.func103.trans (congrArg some (by kernel_rfl))⟩
  f31 := Try.func104.trans (congrArg some (by kernel_rfl))
  f32 := Try.func105.trans (congrArg some (by kernel_rfl))
  f33 := ⟨Try.f106.name, by decide, Try.func106.trans (congrArg some (by kernel_rfl))⟩
  f34 := ⟨Try.f107.name, by decide, Try.func107.trans (congrArg some (by kernel_rfl))⟩
  f35 := ⟨Try.f74.name, by decide, Try.func74.trans (congrArg some (by kernel_rfl))⟩
  f40 := ⟨Try.f109.name, by decide, Try.func109.trans (congrArg some (by kernel_rfl))⟩
  t0 := Try.underlying0
  a0 := Try.isAgg0
  z0 := Try.sizeOf0
  v0 := Try.zeroValue0
  t3 := Try.underlying3
  a3 := Try.isAgg3
  z3 := Try.sizeOf3
  v3 := Try.zeroValue3
  t4 := Try.underlying4
  a4 := Try.isAgg4
  z4 := Try.sizeOf4
  v4 := Try.zeroValue4
  t5 := Try.underlying5
  a5 := Try.isAgg5
  z5 := Try.sizeOf5
  v5 := Try.zeroValue5
  t9 := Try.underlying9
  a9 := Try.isAgg9
  z9 := Try.sizeOf9
  v9 := Try.zeroValue9
  t22 := Try.underlying45
  a22 := Try.isAgg45
  z22 := Try.sizeOf45
  v22 := Try.zeroValue45
  t23 := Try.underlying45
  a23 := Try.isAgg45
  z23 := Try.sizeOf45
  v23 := Try.zeroValue45
  t25 := Try.underlying3
  a25 := Try.isAgg3
  z25 := Try.sizeOf3
  v25 := Try.zeroValue3
  t32 := Try.underlying101
  a32 := Try.isAgg101
  z32 := Try.sizeOf101
  v32 := Try.zeroValue101
  t35 := Try.underlying156
  a35 := Try.isAgg156
  z35 := Try.sizeOf156
  v35 := Try.zeroValue156
  t36 := Try.underlying157
  a36 := Try.isAgg157
  z36 := Try.sizeOf157
  v36 := Try.zeroValue157
  t41 := Try.underlying34
  a41 := Try.isAgg34
  z41 := Try.sizeOf34
  v41 := Try.zeroValue34
  t44 := Try.underlying49
  a44 := Try.isAgg49
  z44 := Try.sizeOf49
  v44 := Try.zeroValue49
  t46 := Try.underlying28
  a46 := Try.isAgg28
  z46 := Try.sizeOf28
  v46 := Try.zeroValue28
  t53 := Try.underlying166
  a53 := Try.isAgg166
  z53 := Try.sizeOf166
  v53 := Try.zeroValue166
  t57 := Try.underlying170
  a57 := Try.isAgg170
  z57 := Try.sizeOf170
  v57 := Try.zeroValue170
  t63 := Try.underlying173
  a63 := Try.isAgg173
  z63 := Try.sizeOf173
  v63 := Try.zeroValue173
  t64 := Try.underlying174
  a64 := Try.isAgg174
  z64 := Try.sizeOf174
  v64 := Try.zeroValue174 }
open Go.Sort Go.RowKit in
theorem Try.slices_Sort_int (blk off cap : Nat) (zs : List Int) (w : World) (hH : Holds (Value.int .i64) w blk off zs.toArray) (hblk : blk < w.heap.size) (hsz : zs.length < 4611686018427387904) :
    Calls Try.prog 44 #[.slice (some ⟨blk, off, none⟩) zs.length cap] w fun e w' =>
      e = .returned (.tuple #[]) ∧ ∃ n os, w' = grow (putRow (Value.int .i64) (Sort.ahead w n) blk off (zs.mergeSort fun x y => decide (x ≤ y)).toArray) os := AnyM.slices_Sort_int Try.laysSlM5_f44 blk off cap zs w hH hblk hsz
open Go.RowKit Go.Sort in
theorem Try.slices_Sort_int_none (p : Option Addr) (cap : Nat) (w : World) :
    Calls Try.prog 44 #[.slice p 0 cap] w fun e w' => e = .returned (.tuple #[]) ∧ w' = w := AnyM.slices_Sort_int_none Try.laysSlM5_f44 p cap w
end Go.Proofs
