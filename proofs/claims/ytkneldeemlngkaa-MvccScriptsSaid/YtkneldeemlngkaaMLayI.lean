/-
  The shelf's contracts of maps.Keys, slices.Sorted and slices.Sort at numbers, laid at this program. No condition.
-/
import Derived.Shelf.SlIterI.Nil
import Derived.Shelf.SortM.Plain
import Derived.Shelf.SortM.SortNone
import Derived.Test.YtkneldeemlngkaaProg
import Derived.KernelRfl
set_option autoImplicit false
namespace Go.Proofs.Ytkneldeemlngkaa
open Go Go.Shelf

def keysI_ren : Go.Shelf.Ren := ⟨fun | 7 => 33 | 10 => 36 | n => n, fun | 23 => 55 | 26 => 3 | 3 => 59 | 28 => 68 | 0 => 0 | 27 => 67 | 33 => 54 | 4 => 4 | n => n, fun | n => n⟩
theorem keysI : Go.Proofs.SlLaysZI.n7 Try.prog keysI_ren := {
  mixed := by kernel_rfl
  f7 := ⟨Try.f33.name, by decide, Try.func33.trans (congrArg some (by kernel_rfl))⟩
  f10 := ⟨Try.f36.name, by decide, Try.func36.trans (congrArg some (by kernel_rfl))⟩
  t0 := Try.underlying0
  a0 := Try.isAgg0
  z0 := Try.sizeOf0
  v0 := Try.zeroValue0
  t4 := Try.underlying4
  a4 := Try.isAgg4
  z4 := Try.sizeOf4
  v4 := Try.zeroValue4
  t23 := Try.underlying55
  a23 := Try.isAgg55
  z23 := Try.sizeOf55
  v23 := Try.zeroValue55
  t26 := Try.underlying3
  a26 := Try.isAgg3
  z26 := Try.sizeOf3
  v26 := Try.zeroValue3
  t27 := Try.underlying67
  a27 := Try.isAgg67
  z27 := Try.sizeOf67
  v27 := Try.zeroValue67
  t28 := Try.underlying68
  a28 := Try.isAgg68
  z28 := Try.sizeOf68
  v28 := Try.zeroValue68
  t33 := Try.underlying54
  a33 := Try.isAgg54
  z33 := Try.sizeOf54
  v33 := Try.zeroValue54 }
def sortedI_ren : Go.Shelf.Ren := ⟨fun | 6 => 32 | 8 => 34 | 9 => 35 | 11 => 37 | 13 => 39 | 12 => 38 | 23 => 49 | 24 => 50 | 14 => 40 | 15 => 41 | 16 => 42 | 17 => 43 | 18 => 44 | 19 => 45 | 20 => 46 | 21 => 47 | 22 => 48 | 25 => 51 | 26 => 52 | 27 => 53 | 28 => 54 | 29 => 55 | 30 => 56 | 31 => 57 | n => n, fun | 26 => 3 | 28 => 68 | 24 => 28 | 0 => 0 | 3 => 3 | 37 => 74 | 48 => 84 | 50 => 86 | 4 => 4 | 40 => 77 | 39 => 76 | 45 => 81 | 5 => 5 | 9 => 9 | 51 => 87 | 55 => 91 | 57 => 93 | 58 => 94 | 33 => 54 | n => n, fun | n => n⟩
theorem sortedI : Go.Proofs.SlLaysZI.n6 Try.prog sortedI_ren := {
  mixed := by kernel_rfl
  f6 := ⟨Try.f32.name, by decide, Try.func32.trans (congrArg some (by kernel_rfl))⟩
  f8 := ⟨Try.f34.name, by decide, Try.func34.trans (congrArg some (by kernel_rfl))⟩
  f11 := ⟨Try.f37.name, by decide, Try.func37.trans (congrArg some (by kernel_rfl))⟩
  t0 := Try.underlying0
  a0 := Try.isAgg0
  z0 := Try.sizeOf0
  v0 := Try.zeroValue0
  t24 := Try.underlying28
  a24 := Try.isAgg28
  z24 := Try.sizeOf28
  v24 := Try.zeroValue28
  t26 := Try.underlying3
  a26 := Try.isAgg3
  z26 := Try.sizeOf3
  v26 := Try.zeroValue3
  t28 := Try.underlying68
  a28 := Try.isAgg68
  z28 := Try.sizeOf68
  v28 := Try.zeroValue68
  i26 := by kernel_rfl }
def sortI_ren : Go.Shelf.Ren := ⟨fun | 5 => 35 | 8 => 39 | 7 => 38 | 19 => 49 | 20 => 50 | 10 => 40 | 11 => 41 | 12 => 42 | 13 => 43 | 14 => 44 | 15 => 45 | 16 => 46 | 17 => 47 | 18 => 48 | 30 => 51 | 31 => 52 | 32 => 53 | 33 => 54 | 34 => 55 | 35 => 56 | 40 => 57 | n => n, fun | 23 => 28 | 25 => 3 | 3 => 3 | 32 => 74 | 22 => 28 | 0 => 0 | 44 => 84 | 46 => 86 | 4 => 4 | 36 => 77 | 35 => 76 | 41 => 81 | 5 => 5 | 9 => 9 | 53 => 87 | 57 => 91 | 63 => 93 | 64 => 94 | n => n, fun | n => n⟩
theorem sortI : Go.Proofs.SlLaysM.n5 Try.prog sortI_ren := {
  mixed := by kernel_rfl
  f5 := ⟨Try.f35.name, by decide, Try.func35.trans (congrArg some (by kernel_rfl))⟩
  f7 := ⟨Try.f38.name, by decide, Try.func38.trans (congrArg some (by kernel_rfl))⟩
  f8 := Try.func39.trans (congrArg some (by kernel_rfl))
  f10 := ⟨Try.f40.name, by decide, Try.func40.trans (congrArg some (by kernel_rfl))⟩
  f11 := ⟨Try.f41.name, by decide, Try.func41.trans (congrArg some (by kernel_rfl))⟩
  f12 := ⟨Try.f42.name, by decide, Try.func42.trans (congrArg some (by kernel_rfl))⟩
  f13 := ⟨Try.f43.name, by decide, Try.func43.trans (congrArg some (by kernel_rfl))⟩
  f14 := ⟨Try.f44.name, by decide, Try.func44.trans (congrArg some (by kernel_rfl))⟩
  f15 := ⟨Try.f45.name, by decide, Try.func45.trans (congrArg some (by kernel_rfl))⟩
  f16 := ⟨Try.f46.name, by decide, Try.func46.trans (congrArg some (by kernel_rfl))⟩
  f17 := ⟨Try.f47.name, by decide, Try.func47.trans (congrArg some (by kernel_rfl))⟩
  f18 := ⟨Try.f48.name, by decide, Try.func48.trans (congrArg some (by kernel_rfl))⟩
  f19 := Try.func49.trans (congrArg some (by kernel_rfl))
  f20 := Try.func50.trans (congrArg some (by kernel_rfl))
  f30 := ⟨Try.f51.name, by decide, Try.func51.trans (congrArg some (by kernel_rfl))⟩
  f31 := Try.func52.trans (congrArg some (by kernel_rfl))
  f32 := Try.func53.trans (congrArg some (by kernel_rfl))
  f33 := ⟨Try.f54.name, by decide, Try.func54.trans (congrArg some (by kernel_rfl))⟩
  f34 := ⟨Try.f55.name, by decide, Try.func55.trans (congrArg some (by kernel_rfl))⟩
  f35 := ⟨Try.f56.name, by decide, Try.func56.trans (congrArg some (by kernel_rfl))⟩
  f40 := ⟨Try.f57.name, by decide, Try.func57.trans (congrArg some (by kernel_rfl))⟩
  t0 := Try.underlying0
  a0 := Try.isAgg0
  z0 := Try.sizeOf0
  v0 := Try.zeroValue0
  t3 := Try.underlying3
  a3 := Try.isAgg3
  z3 := Try.sizeOf3
  v3 := Try.zeroValue3
  t4 := Try.underlying4
  a4 := Try.isAgg4
  z4 := Try.sizeOf4
  v4 := Try.zeroValue4
  t5 := Try.underlying5
  a5 := Try.isAgg5
  z5 := Try.sizeOf5
  v5 := Try.zeroValue5
  t9 := Try.underlying9
  a9 := Try.isAgg9
  z9 := Try.sizeOf9
  v9 := Try.zeroValue9
  t22 := Try.underlying28
  a22 := Try.isAgg28
  z22 := Try.sizeOf28
  v22 := Try.zeroValue28
  t23 := Try.underlying28
  a23 := Try.isAgg28
  z23 := Try.sizeOf28
  v23 := Try.zeroValue28
  t25 := Try.underlying3
  a25 := Try.isAgg3
  z25 := Try.sizeOf3
  v25 := Try.zeroValue3
  t32 := Try.underlying74
  a32 := Try.isAgg74
  z32 := Try.sizeOf74
  v32 := Try.zeroValue74
  t35 := Try.underlying76
  a35 := Try.isAgg76
  z35 := Try.sizeOf76
  v35 := Try.zeroValue76
  t36 := Try.underlying77
  a36 := Try.isAgg77
  z36 := Try.sizeOf77
  v36 := Try.zeroValue77
  t41 := Try.underlying81
  a41 := Try.isAgg81
  z41 := Try.sizeOf81
  v41 := Try.zeroValue81
  t44 := Try.underlying84
  a44 := Try.isAgg84
  z44 := Try.sizeOf84
  v44 := Try.zeroValue84
  t46 := Try.underlying86
  a46 := Try.isAgg86
  z46 := Try.sizeOf86
  v46 := Try.zeroValue86
  t53 := Try.underlying87
  a53 := Try.isAgg87
  z53 := Try.sizeOf87
  v53 := Try.zeroValue87
  t57 := Try.underlying91
  a57 := Try.isAgg91
  z57 := Try.sizeOf91
  v57 := Try.zeroValue91
  t63 := Try.underlying93
  a63 := Try.isAgg93
  z63 := Try.sizeOf93
  v63 := Try.zeroValue93
  t64 := Try.underlying94
  a64 := Try.isAgg94
  z64 := Try.sizeOf94
  v64 := Try.zeroValue94 }
end Go.Proofs.Ytkneldeemlngkaa
