/-
  The library's contract for sorting, laid at this program: slices.SortFunc (the kit's own; the numbers by its command in plain words).
  It speaks of the pinned program alone; no condition.
-/
import Derived.Shelf.SlSortCmp.NoneTotal
import Derived.Test.YtanbekjefbebaaaProg
namespace Go.Proofs.Ytanbekjefbebaaa.V
open Go.Proofs Go.Shelf
def laysSrt_ren : Go.Shelf.Ren := ⟨fun | 6 => 22 | 15 => 32 | 14 => 31 | 28 => 42 | 29 => 43 | 20 => 34 | 21 => 35 | 22 => 36 | 23 => 37 | 24 => 38 | 25 => 39 | 26 => 40 | 27 => 41 | 46 => 45 | 47 => 46 | 48 => 47 | 49 => 48 | 50 => 49 | 57 => 50 | n => n, fun | 22 => 22 | 24 => 23 | 25 => 31 | 3 => 3 | 39 => 43 | 0 => 0 | 53 => 53 | 55 => 55 | 4 => 4 | 46 => 47 | 45 => 46 | 50 => 27 | 5 => 5 | 9 => 9 | 66 => 56 | 70 => 60 | 76 => 62 | 77 => 63 | n => n, fun | n => n⟩
theorem laysSrt : Go.Proofs.SlLaysF.n6 Try.prog laysSrt_ren := {
  mixed := by kernel_rfl
  f6 := ⟨Try.f22.name, by decide, Try.func22.trans (congrArg some (by kernel_rfl))⟩
  f14 := ⟨Try.f31.name, by decide, Try.func31.trans (congrArg some (by kernel_rfl))⟩
  f15 := Try.func32.trans (congrArg some (by kernel_rfl))
  f20 := ⟨Try.f34.name, by decide, Try.func34.trans (congrArg some (by kernel_rfl))⟩
  f21 := ⟨Try.f35.name, by decide, Try.func35.trans (congrArg some (by kernel_rfl))⟩
  f22 := ⟨Try.f36.name, by decide, Try.func36.trans (congrArg some (by kernel_rfl))⟩
  f23 := ⟨Try.f37.name, by decide, Try.func37.trans (congrArg some (by kernel_rfl))⟩
  f24 := ⟨Try.f38.name, by decide, Try.func38.trans (congrArg some (by kernel_rfl))⟩
  f25 := ⟨Try.f39.name, by decide, Try.func39.trans (congrArg some (by kernel_rfl))⟩
  f26 := ⟨Try.f40.name, by decide, Try.func40.trans (congrArg some (by kernel_rfl))⟩
  f27 := ⟨Try.f41.name, by decide, Try.func41.trans (congrArg some (by kernel_rfl))⟩
  f28 := Try.func42.trans (congrArg some (by kernel_rfl))
  f29 := Try.func43.trans (congrArg some (by kernel_rfl))
  f46 := ⟨Try.f45.name, by decide, Try.func45.trans (congrArg some (by kernel_rfl))⟩
  f47 := Try.func46.trans (congrArg some (by kernel_rfl))
  f48 := Try.func47.trans (congrArg some (by kernel_rfl))
  f49 := ⟨Try.f48.name, by decide, Try.func48.trans (congrArg some (by kernel_rfl))⟩
  f50 := ⟨Try.f49.name, by decide, Try.func49.trans (congrArg some (by kernel_rfl))⟩
  f57 := ⟨Try.f50.name, by decide, Try.func50.trans (congrArg some (by kernel_rfl))⟩
  t0 := Try.underlying0
  a0 := Try.isAgg0
  z0 := Try.sizeOf0
  v0 := Try.zeroValue0
  t3 := Try.underlying3
  a3 := Try.isAgg3
  z3 := Try.sizeOf3
  v3 := Try.zeroValue3
  t4 := Try.underlying4
  a4 := Try.isAgg4
  z4 := Try.sizeOf4
  v4 := Try.zeroValue4
  t5 := Try.underlying5
  a5 := Try.isAgg5
  z5 := Try.sizeOf5
  v5 := Try.zeroValue5
  t9 := Try.underlying9
  a9 := Try.isAgg9
  z9 := Try.sizeOf9
  v9 := Try.zeroValue9
  t22 := Try.underlying22
  a22 := Try.isAgg22
  z22 := Try.sizeOf22
  v22 := Try.zeroValue22
  a24 := Try.isAgg23
  z24 := Try.sizeOf23
  t25 := Try.underlying31
  a25 := Try.isAgg31
  z25 := Try.sizeOf31
  v25 := Try.zeroValue31
  t39 := Try.underlying43
  a39 := Try.isAgg43
  z39 := Try.sizeOf43
  v39 := Try.zeroValue43
  t45 := Try.underlying46
  a45 := Try.isAgg46
  z45 := Try.sizeOf46
  v45 := Try.zeroValue46
  t46 := Try.underlying47
  a46 := Try.isAgg47
  z46 := Try.sizeOf47
  v46 := Try.zeroValue47
  t50 := Try.underlying27
  a50 := Try.isAgg27
  z50 := Try.sizeOf27
  v50 := Try.zeroValue27
  t53 := Try.underlying53
  a53 := Try.isAgg53
  z53 := Try.sizeOf53
  v53 := Try.zeroValue53
  t55 := Try.underlying55
  a55 := Try.isAgg55
  z55 := Try.sizeOf55
  v55 := Try.zeroValue55
  t66 := Try.underlying56
  a66 := Try.isAgg56
  z66 := Try.sizeOf56
  v66 := Try.zeroValue56
  t70 := Try.underlying60
  a70 := Try.isAgg60
  z70 := Try.sizeOf60
  v70 := Try.zeroValue60
  t76 := Try.underlying62
  a76 := Try.isAgg62
  z76 := Try.sizeOf62
  v76 := Try.zeroValue62
  t77 := Try.underlying63
  a77 := Try.isAgg63
  z77 := Try.sizeOf63
  v77 := Try.zeroValue63 }
end Go.Proofs.Ytanbekjefbebaaa.V
