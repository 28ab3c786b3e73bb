/-
  DERIVED: THE SHELF's CONTRACTS AT THIS DUMP, IN PLAIN WORDS (tools/lay-plain.mjs out of 'YtfoimgkgkjhbeaaShelfA.lean', which tools/lay-shelf.mjs wrote): THE SAME DECLARATIONS UNDER THE SAME NAMES: 'import', 'namespace', 'open', 'def', 'theorem' AND NOTHING ELSE: no command of the shelf's: FOR A HAND-IN. Each laying: the table of numbers ('.._ren') and one theorem, a field a fact of the dump's own or the kernel's comparison; each contract: ONE APPLICATION.
-/
import Derived.Shelf.SlIterI.Nil
import Derived.Shelf.SlIterI.Sorted
import Derived.Shelf.SortM.Plain
import Derived.Shelf.SortM.SortNone
import Derived.Ground.GgzProg
import Derived.Ground.SlgmProg
import Derived.Test.YtfoimgkgkjhbeaaProg
namespace Go.Proofs
open Go.Shelf
def Try.sortedA_ren : Go.Shelf.Ren := ⟨fun | 6 => 34 | 8 => 43 | 9 => 44 | 11 => 55 | 13 => 57 | 12 => 56 | 23 => 75 | 24 => 76 | 14 => 66 | 15 => 67 | 16 => 68 | 17 => 69 | 18 => 70 | 19 => 71 | 20 => 72 | 21 => 73 | 22 => 74 | 25 => 83 | 26 => 84 | 27 => 85 | 28 => 86 | 29 => 87 | 30 => 88 | 31 => 94 | n => n, fun | 26 => 3 | 28 => 88 | 24 => 26 | 0 => 0 | 3 => 3 | 37 => 112 | 48 => 96 | 50 => 146 | 4 => 4 | 40 => 138 | 39 => 137 | 45 => 47 | 5 => 5 | 9 => 9 | 51 => 153 | 55 => 113 | 57 => 162 | 58 => 163 | 33 => 53 | n => n, fun | n => n⟩
theorem Try.sortedA : Go.Proofs.SlLaysZI.n6 Try.prog Try.sortedA_ren := {
  mixed := by kernel_rfl
  f6 := ⟨Try.f34.name, by decide, Try.func34.trans (congrArg some (by kernel_rfl))⟩
  f8 := ⟨Try.f43.name, by decide, Try.func43.trans (congrArg some (by kernel_rfl))⟩
  f11 := ⟨Try.f55.name, by decide, Try.func55.trans (congrArg some (by kernel_rfl))⟩
  t0 := Try.underlying0
  a0 := Try.isAgg0
  z0 := Try.sizeOf0
  v0 := Try.zeroValue0
  t24 := Try.underlying26
  a24 := Try.isAgg26
  z24 := Try.sizeOf26
  v24 := Try.zeroValue26
  t26 := Try.underlying3
  a26 := Try.isAgg3
  z26 := Try.sizeOf3
  v26 := Try.zeroValue3
  t28 := Try.underlying88
  a28 := Try.isAgg88
  z28 := Try.sizeOf88
  v28 := Try.zeroValue88
  i26 := by kernel_rfl }
def Try.sortA_ren : Go.Shelf.Ren := ⟨fun | 5 => 44 | 8 => 57 | 7 => 56 | 19 => 75 | 20 => 76 | 10 => 66 | 11 => 67 | 12 => 68 | 13 => 69 | 14 => 70 | 15 => 71 | 16 => 72 | 17 => 73 | 18 => 74 | 30 => 83 | 31 => 84 | 32 => 85 | 33 => 86 | 34 => 87 | 35 => 88 | 40 => 94 | n => n, fun | 23 => 26 | 25 => 3 | 3 => 3 | 32 => 112 | 22 => 26 | 0 => 0 | 44 => 96 | 46 => 146 | 4 => 4 | 36 => 138 | 35 => 137 | 41 => 47 | 5 => 5 | 9 => 9 | 53 => 153 | 57 => 113 | 63 => 162 | 64 => 163 | n => n, fun | n => n⟩
theorem Try.sortA : Go.Proofs.SlLaysM.n5 Try.prog Try.sortA_ren := {
  mixed := by kernel_rfl
  f5 := ⟨Try.f44.name, by decide, Try.func44.trans (congrArg some (by kernel_rfl))⟩
  f7 := ⟨Try.f56.name, by decide, Try.func56.trans (congrArg some (by kernel_rfl))⟩
  f8 := Try.func57.trans (congrArg some (by kernel_rfl))
  f10 := ⟨Try.f66.name, by decide, Try.func66.trans (congrArg some (by kernel_rfl))⟩
  f11 := ⟨Try.f67.name, by decide, Try.func67.trans (congrArg some (by kernel_rfl))⟩
  f12 := ⟨Try.f68.name, by decide, Try.func68.trans (congrArg some (by kernel_rfl))⟩
  f13 := ⟨Try.f69.name, by decide, Try.func69.trans (congrArg some (by kernel_rfl))⟩
  f14 := ⟨Try.f70.name, by decide, Try.func70.trans (congrArg some (by kernel_rfl))⟩
  f15 := ⟨Try.f71.name, by decide, Try.func71.trans (congrArg some (by kernel_rfl))⟩
  f16 := ⟨Try.f72.name, by decide, Try.func72.trans (congrArg some (by kernel_rfl))⟩
  f17 := ⟨Try.f73.name, by decide, Try.func73.trans (congrArg some (by kernel_rfl))⟩
  f18 := ⟨Try.f74.name, by decide, Try.func74.trans (congrArg some (by kernel_rfl))⟩
  f19 := Try.func75.trans (congrArg some (by kernel_rfl))
  f20 := Try.func76.trans (congrArg some (by kernel_rfl))
  f30 := ⟨Try.f83.name, by decide, Try.func83.trans (congrArg some (by kernel_rfl))⟩
  f31 := Try.func84.trans (congrArg some (by kernel_rfl))
  f32 := Try.func85.trans (congrArg some (by kernel_rfl))
  f33 := ⟨Try.f86.name, by decide, Try.func86.trans (congrArg some (by kernel_rfl))⟩
  f34 := ⟨Try.f87.name, by decide, Try.func87.trans (congrArg some (by kernel_rfl))⟩
  f35 := ⟨Try.f88.name, by decide, Try.func88.trans (congrArg some (by kernel_rfl))⟩
  f40 := ⟨Try.f94.name, by decide, Try.func94.trans (congrArg some (by kernel_rfl))⟩
  t0 := Try.underlying0
  a0 := Try.isAgg0
  z0 := Try.sizeOf0
  v0 := Try.zeroValue0
  t3 := Try.underlying3
  a3 := Try.isAgg3
  z3 := Try.sizeOf3
  v3 := Try.zeroValue3
  t4 := Try.underlying4
  a4 := Try.isAgg4
  z4 := Try.sizeOf4
  v4 := Try.zeroValue4
  t5 := Try.underlying5
  a5 := Try.isAgg5
  z5 := Try.sizeOf5
  v5 := Try.zeroValue5
  t9 := Try.underlying9
  a9 := Try.isAgg9
  z9 := Try.sizeOf9
  v9 := Try.zeroValue9
  t22 := Try.underlying26
  a22 := Try.isAgg26
  z22 := Try.sizeOf26
  v22 := Try.zeroValue26
  t23 := Try.underlying26
  a23 := Try.isAgg26
  z23 := Try.sizeOf26
  v23 := Try.zeroValue26
  t25 := Try.underlying3
  a25 := Try.isAgg3
  z25 := Try.sizeOf3
  v25 := Try.zeroValue3
  t32 := Try.underlying112
  a32 := Try.isAgg112
  z32 := Try.sizeOf112
  v32 := Try.zeroValue112
  t35 := Try.underlying137
  a35 := Try.isAgg137
  z35 := Try.sizeOf137
  v35 := Try.zeroValue137
  t36 := Try.underlying138
  a36 := Try.isAgg138
  z36 := Try.sizeOf138
  v36 := Try.zeroValue138
  t41 := Try.underlying47
  a41 := Try.isAgg47
  z41 := Try.sizeOf47
  v41 := Try.zeroValue47
  t44 := Try.underlying96
  a44 := Try.isAgg96
  z44 := Try.sizeOf96
  v44 := Try.zeroValue96
  t46 := Try.underlying146
  a46 := Try.isAgg146
  z46 := Try.sizeOf146
  v46 := Try.zeroValue146
  t53 := Try.underlying153
  a53 := Try.isAgg153
  z53 := Try.sizeOf153
  v53 := Try.zeroValue153
  t57 := Try.underlying113
  a57 := Try.isAgg113
  z57 := Try.sizeOf113
  v57 := Try.zeroValue113
  t63 := Try.underlying162
  a63 := Try.isAgg162
  z63 := Try.sizeOf162
  v63 := Try.zeroValue162
  t64 := Try.underlying163
  a64 := Try.isAgg163
  z64 := Try.sizeOf163
  v64 := Try.zeroValue163 }
end Go.Proofs
