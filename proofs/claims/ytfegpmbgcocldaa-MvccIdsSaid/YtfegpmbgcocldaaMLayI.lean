/-
  The shelf's contracts of maps.Keys, slices.Sorted and slices.Sort at numbers, laid at this program. No condition.
-/
import Derived.Shelf.SlIterI.Nil
import Derived.Shelf.SortM.Plain
import Derived.Shelf.SortM.SortNone
import Derived.Test.YtfegpmbgcocldaaProg
import Derived.KernelRfl
set_option autoImplicit false
namespace Go.Proofs.Ytfegpmbgcocldaa
open Go Go.Shelf

def keysI_ren : Go.Shelf.Ren := ⟨fun | 7 => 84 | 10 => 95 | n => n, fun | 23 => 97 | 26 => 3 | 3 => 101 | 28 => 140 | 0 => 0 | 27 => 139 | 33 => 96 | 4 => 4 | n => n, fun | n => n⟩
theorem keysI : Go.Proofs.SlLaysZI.n7 Try.prog keysI_ren := {
  mixed := by kernel_rfl
  f7 := ⟨Try.f84.name, by decide, Try.func84.trans (congrArg some (by kernel_rfl))⟩
  f10 := ⟨Try.f95.name, by decide, Try.func95.trans (congrArg some (by kernel_rfl))⟩
  t0 := Try.underlying0
  a0 := Try.isAgg0
  z0 := Try.sizeOf0
  v0 := Try.zeroValue0
  t4 := Try.underlying4
  a4 := Try.isAgg4
  z4 := Try.sizeOf4
  v4 := Try.zeroValue4
  t23 := Try.underlying97
  a23 := Try.isAgg97
  z23 := Try.sizeOf97
  v23 := Try.zeroValue97
  t26 := Try.underlying3
  a26 := Try.isAgg3
  z26 := Try.sizeOf3
  v26 := Try.zeroValue3
  t27 := Try.underlying139
  a27 := Try.isAgg139
  z27 := Try.sizeOf139
  v27 := Try.zeroValue139
  t28 := Try.underlying140
  a28 := Try.isAgg140
  z28 := Try.sizeOf140
  v28 := Try.zeroValue140
  t33 := Try.underlying96
  a33 := Try.isAgg96
  z33 := Try.sizeOf96
  v33 := Try.zeroValue96 }
def sortedI_ren : Go.Shelf.Ren := ⟨fun | 6 => 83 | 8 => 93 | 9 => 94 | 11 => 101 | 13 => 98 | 12 => 102 | 23 => 112 | 24 => 113 | 14 => 122 | 15 => 123 | 16 => 124 | 17 => 125 | 18 => 126 | 19 => 127 | 20 => 128 | 21 => 129 | 22 => 130 | 25 => 139 | 26 => 132 | 27 => 133 | 28 => 140 | 29 => 141 | 30 => 142 | 31 => 145 | n => n, fun | 26 => 3 | 28 => 140 | 24 => 28 | 0 => 0 | 3 => 3 | 37 => 92 | 48 => 166 | 50 => 168 | 4 => 4 | 40 => 158 | 39 => 157 | 45 => 163 | 5 => 5 | 9 => 9 | 51 => 179 | 55 => 183 | 57 => 189 | 58 => 190 | 33 => 96 | n => n, fun | n => n⟩
theorem sortedI : Go.Proofs.SlLaysZI.n6 Try.prog sortedI_ren := {
  mixed := by kernel_rfl
  f6 := ⟨Try.f83.name, by decide, Try.func83.trans (congrArg some (by kernel_rfl))⟩
  f8 := ⟨Try.f93.name, by decide, Try.func93.trans (congrArg some (by kernel_rfl))⟩
  f11 := ⟨Try.f101.name, by decide, Try.func101.trans (congrArg some (by kernel_rfl))⟩
  t0 := Try.underlying0
  a0 := Try.isAgg0
  z0 := Try.sizeOf0
  v0 := Try.zeroValue0
  t24 := Try.underlying28
  a24 := Try.isAgg28
  z24 := Try.sizeOf28
  v24 := Try.zeroValue28
  t26 := Try.underlying3
  a26 := Try.isAgg3
  z26 := Try.sizeOf3
  v26 := Try.zeroValue3
  t28 := Try.underlying140
  a28 := Try.isAgg140
  z28 := Try.sizeOf140
  v28 := Try.zeroValue140
  i26 := by kernel_rfl }
def sortI_ren : Go.Shelf.Ren := ⟨fun | 5 => 94 | 8 => 98 | 7 => 102 | 19 => 112 | 20 => 113 | 10 => 122 | 11 => 123 | 12 => 124 | 13 => 125 | 14 => 126 | 15 => 127 | 16 => 128 | 17 => 129 | 18 => 130 | 30 => 139 | 31 => 132 | 32 => 133 | 33 => 140 | 34 => 141 | 35 => 142 | 40 => 145 | n => n, fun | 23 => 28 | 25 => 3 | 3 => 3 | 32 => 92 | 22 => 28 | 0 => 0 | 44 => 166 | 46 => 168 | 4 => 4 | 36 => 158 | 35 => 157 | 41 => 163 | 5 => 5 | 9 => 9 | 53 => 179 | 57 => 183 | 63 => 189 | 64 => 190 | n => n, fun | n => n⟩
theorem sortI : Go.Proofs.SlLaysM.n5 Try.prog sortI_ren := {
  mixed := by kernel_rfl
  f5 := ⟨Try.f94.name, by decide, Try.func94.trans (congrArg some (by kernel_rfl))⟩
  f7 := ⟨Try.f102.name, by decide, Try.func102.trans (congrArg some (by kernel_rfl))⟩
  f8 := Try.func98.trans (congrArg some (by kernel_rfl))
  f10 := ⟨Try.f122.name, by decide, Try.func122.trans (congrArg some (by kernel_rfl))⟩
  f11 := ⟨Try.f123.name, by decide, Try.func123.trans (congrArg some (by kernel_rfl))⟩
  f12 := ⟨Try.f124.name, by decide, Try.func124.trans (congrArg some (by kernel_rfl))⟩
  f13 := ⟨Try.f125.name, by decide, Try.func125.trans (congrArg some (by kernel_rfl))⟩
  f14 := ⟨Try.f126.name, by decide, Try.func126.trans (congrArg some (by kernel_rfl))⟩
  f15 := ⟨Try.f127.name, by decide, Try.func127.trans (congrArg some (by kernel_rfl))⟩
  f16 := ⟨Try.f128.name, by decide, Try.func128.trans (congrArg some (by kernel_rfl))⟩
  f17 := ⟨Try.f129.name, by decide, Try.func129.trans (congrArg some (by kernel_rfl))⟩
  f18 := ⟨Try.f130.name, by decide, Try.func130.trans (congrArg some (by kernel_rfl))⟩
  f19 := Try.func112.trans (congrArg some (by kernel_rfl))
  f20 := Try.func113.trans (congrArg some (by kernel_rfl))
  f30 := ⟨Try.f139.name, by decide, Try.func139.trans (congrArg some (by kernel_rfl))⟩
  f31 := Try.func132.trans (congrArg some (by kernel_rfl))
  f32 := Try.func133.trans (congrArg some (by kernel_rfl))
  f33 := ⟨Try.f140.name, by decide, Try.func140.trans (congrArg some (by kernel_rfl))⟩
  f34 := ⟨Try.f141.name, by decide, Try.func141.trans (congrArg some (by kernel_rfl))⟩
  f35 := ⟨Try.f142.name, by decide, Try.func142.trans (congrArg some (by kernel_rfl))⟩
  f40 := ⟨Try.f145.name, by decide, Try.func145.trans (congrArg some (by kernel_rfl))⟩
  t0 := Try.underlying0
  a0 := Try.isAgg0
  z0 := Try.sizeOf0
  v0 := Try.zeroValue0
  t3 := Try.underlying3
  a3 := Try.isAgg3
  z3 := Try.sizeOf3
  v3 := Try.zeroValue3
  t4 := Try.underlying4
  a4 := Try.isAgg4
  z4 := Try.sizeOf4
  v4 := Try.zeroValue4
  t5 := Try.underlying5
  a5 := Try.isAgg5
  z5 := Try.sizeOf5
  v5 := Try.zeroValue5
  t9 := Try.underlying9
  a9 := Try.isAgg9
  z9 := Try.sizeOf9
  v9 := Try.zeroValue9
  t22 := Try.underlying28
  a22 := Try.isAgg28
  z22 := Try.sizeOf28
  v22 := Try.zeroValue28
  t23 := Try.underlying28
  a23 := Try.isAgg28
  z23 := Try.sizeOf28
  v23 := Try.zeroValue28
  t25 := Try.underlying3
  a25 := Try.isAgg3
  z25 := Try.sizeOf3
  v25 := Try.zeroValue3
  t32 := Try.underlying92
  a32 := Try.isAgg92
  z32 := Try.sizeOf92
  v32 := Try.zeroValue92
  t35 := Try.underlying157
  a35 := Try.isAgg157
  z35 := Try.sizeOf157
  v35 := Try.zeroValue157
  t36 := Try.underlying158
  a36 := Try.isAgg158
  z36 := Try.sizeOf158
  v36 := Try.zeroValue158
  t41 := Try.underlying163
  a41 := Try.isAgg163
  z41 := Try.sizeOf163
  v41 := Try.zeroValue163
  t44 := Try.underlying166
  a44 := Try.isAgg166
  z44 := Try.sizeOf166
  v44 := Try.zeroValue166
  t46 := Try.underlying168
  a46 := Try.isAgg168
  z46 := Try.sizeOf168
  v46 := Try.zeroValue168
  t53 := Try.underlying179
  a53 := Try.isAgg179
  z53 := Try.sizeOf179
  v53 := Try.zeroValue179
  t57 := Try.underlying183
  a57 := Try.isAgg183
  z57 := Try.sizeOf183
  v57 := Try.zeroValue183
  t63 := Try.underlying189
  a63 := Try.isAgg189
  z63 := Try.sizeOf189
  v63 := Try.zeroValue189
  t64 := Try.underlying190
  a64 := Try.isAgg190
  z64 := Try.sizeOf190
  v64 := Try.zeroValue190 }
end Go.Proofs.Ytfegpmbgcocldaa
