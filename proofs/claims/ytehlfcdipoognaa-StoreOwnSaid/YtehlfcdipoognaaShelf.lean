/-
  DERIVED: THE SHELF's CONTRACTS AT THIS DUMP, IN PLAIN WORDS (tools/lay-plain.mjs out of 'TryShelf.lean', which tools/lay-shelf.mjs wrote): THE SAME DECLARATIONS UNDER THE SAME NAMES: 'import', 'namespace', 'open', 'def', 'theorem' AND NOTHING ELSE: no command of the shelf's: FOR A HAND-IN. Each laying: the table of numbers ('.._ren') and one theorem, a field a fact of the dump's own or the kernel's comparison; each contract: ONE APPLICATION.
-/
import Derived.Shelf.SlGeneric
import Derived.Shelf.SlIter.Nil
import Derived.Shelf.SortM.Plain
import Derived.Shelf.SortM.SortNone
import Derived.Ground.GgzProg
import Derived.Ground.SlgmProg
import Derived.Test.YtehlfcdipoognaaProg
namespace Go.Proofs
open Go.Shelf
def Try.keys47_ren : Go.Shelf.Ren := ⟨fun | 7 => 47 | 10 => 55 | n => n, fun | 23 => 77 | 26 => 9 | 3 => 80 | 28 => 97 | 0 => 0 | 27 => 96 | 33 => 111 | 4 => 4 | n => n, fun | n => n⟩
theorem Try.keys47 : Go.Proofs.SlLaysZ.n7 Try.prog Try.keys47_ren := {
  mixed := by kernel_rfl
  f7 := ⟨Try.f47.name, by decide, Try.func47.trans (congrArg some (by kernel_rfl))⟩
  f10 := ⟨Try.f55.name, by decide, Try.func55.trans (congrArg some (by kernel_rfl))⟩
  t0 := Try.underlying0
  a0 := Try.isAgg0
  z0 := Try.sizeOf0
  v0 := Try.zeroValue0
  t4 := Try.underlying4
  a4 := Try.isAgg4
  z4 := Try.sizeOf4
  v4 := Try.zeroValue4
  t23 := Try.underlying77
  a23 := Try.isAgg77
  z23 := Try.sizeOf77
  v23 := Try.zeroValue77
  t26 := Try.underlying9
  a26 := Try.isAgg9
  z26 := Try.sizeOf9
  v26 := Try.zeroValue9
  t27 := Try.underlying96
  a27 := Try.isAgg96
  z27 := Try.sizeOf96
  v27 := Try.zeroValue96
  t28 := Try.underlying97
  a28 := Try.isAgg97
  z28 := Try.sizeOf97
  v28 := Try.zeroValue97
  t33 := Try.underlying111
  a33 := Try.isAgg111
  z33 := Try.sizeOf111
  v33 := Try.zeroValue111 }
def Try.sorted46_ren : Go.Shelf.Ren := ⟨fun | 6 => 46 | 8 => 53 | 9 => 54 | 11 => 58 | 13 => 60 | 12 => 59 | 23 => 70 | 24 => 71 | 14 => 61 | 15 => 62 | 16 => 63 | 17 => 64 | 18 => 65 | 19 => 66 | 20 => 67 | 21 => 68 | 22 => 69 | 25 => 72 | 26 => 73 | 27 => 74 | 28 => 75 | 29 => 76 | 30 => 77 | 31 => 78 | n => n, fun | 26 => 9 | 28 => 97 | 24 => 26 | 0 => 0 | 3 => 3 | 37 => 117 | 48 => 128 | 50 => 130 | 4 => 4 | 40 => 120 | 39 => 119 | 45 => 125 | 5 => 5 | 9 => 9 | 51 => 131 | 55 => 135 | 57 => 137 | 58 => 138 | 33 => 111 | n => n, fun | n => n⟩
theorem Try.sorted46 : Go.Proofs.SlLaysZ.n6 Try.prog Try.sorted46_ren := {
  mixed := by kernel_rfl
  f6 := ⟨Try.f46.name, by decide, Try.func46.trans (congrArg some (by kernel_rfl))⟩
  f8 := ⟨Try.f53.name, by decide, Try.func53.trans (congrArg some (by kernel_rfl))⟩
  f11 := ⟨Try.f58.name, by decide, Try.func58.trans (congrArg some (by kernel_rfl))⟩
  t0 := Try.underlying0
  a0 := Try.isAgg0
  z0 := Try.sizeOf0
  v0 := Try.zeroValue0
  t24 := Try.underlying26
  a24 := Try.isAgg26
  z24 := Try.sizeOf26
  v24 := Try.zeroValue26
  t26 := Try.underlying9
  a26 := Try.isAgg9
  z26 := Try.sizeOf9
  v26 := Try.zeroValue9
  t28 := Try.underlying97
  a28 := Try.isAgg97
  z28 := Try.sizeOf97
  v28 := Try.zeroValue97
  i26 := by kernel_rfl }
def Try.sort54_ren : Go.Shelf.Ren := ⟨fun | 6 => 54 | 8 => 60 | 9 => 59 | 19 => 70 | 20 => 71 | 21 => 61 | 22 => 62 | 23 => 63 | 24 => 64 | 25 => 65 | 26 => 66 | 27 => 67 | 28 => 68 | 29 => 69 | 36 => 72 | 31 => 73 | 32 => 74 | 37 => 75 | 38 => 76 | 39 => 77 | 41 => 78 | n => n, fun | 27 => 26 | 29 => 9 | 3 => 3 | 32 => 117 | 26 => 26 | 0 => 0 | 44 => 128 | 46 => 130 | 4 => 4 | 36 => 120 | 35 => 119 | 41 => 125 | 5 => 5 | 9 => 9 | 53 => 131 | 57 => 135 | 63 => 137 | 64 => 138 | n => n, fun | n => n⟩
theorem Try.sort54 : Go.Proofs.SlLaysM.n6 Try.prog Try.sort54_ren := {
  mixed := by kernel_rfl
  f6 := ⟨Try.f54.name, by decide, Try.func54.trans (congrArg some (by kernel_rfl))⟩
  f8 := Try.func60.trans (congrArg some (by kernel_rfl))
  f9 := ⟨Try.f59.name, by decide, Try.func59.trans (congrArg some (by kernel_rfl))⟩
  f19 := Try.func70.trans (congrArg some (by kernel_rfl))
  f20 := Try.func71.trans (congrArg some (by kernel_rfl))
  f21 := ⟨Try.f61.name, by decide, Try.func61.trans (congrArg some (by kernel_rfl))⟩
  f22 := ⟨Try.f62.name, by decide, Try.func62.trans (congrArg some (by kernel_rfl))⟩
  f23 := ⟨Try.f63.name, by decide, Try.func63.trans (congrArg some (by kernel_rfl))⟩
  f24 := ⟨Try.f64.name, by decide, Try.func64.trans (congrArg some (by kernel_rfl))⟩
  f25 := ⟨Try.f65.name, by decide, Try.func65.trans (congrArg some (by kernel_rfl))⟩
  f26 := ⟨Try.f66.name, by decide, Try.func66.trans (congrArg some (by kernel_rfl))⟩
  f27 := ⟨Try.f67.name, by decide, Try.func67.trans (congrArg some (by kernel_rfl))⟩
  f28 := ⟨Try.f68.name, by decide, Try.func68.trans (congrArg some (by kernel_rfl))⟩
  f29 := ⟨Try.f69.name, by decide, Try.func69.trans (congrArg some (by kernel_rfl))⟩
  f31 := Try.func73.trans (congrArg some (by kernel_rfl))
  f32 := Try.func74.trans (congrArg some (by kernel_rfl))
  f36 := ⟨Try.f72.name, by decide, Try.func72.trans (congrArg some (by kernel_rfl))⟩
  f37 := ⟨Try.f75.name, by decide, Try.func75.trans (congrArg some (by kernel_rfl))⟩
  f38 := ⟨Try.f76.name, by decide, Try.func76.trans (congrArg some (by kernel_rfl))⟩
  f39 := ⟨Try.f77.name, by decide, Try.func77.trans (congrArg some (by kernel_rfl))⟩
  f41 := ⟨Try.f78.name, by decide, Try.func78.trans (congrArg some (by kernel_rfl))⟩
  t0 := Try.underlying0
  a0 := Try.isAgg0
  z0 := Try.sizeOf0
  v0 := Try.zeroValue0
  t3 := Try.underlying3
  a3 := Try.isAgg3
  z3 := Try.sizeOf3
  v3 := Try.zeroValue3
  t4 := Try.underlying4
  a4 := Try.isAgg4
  z4 := Try.sizeOf4
  v4 := Try.zeroValue4
  t5 := Try.underlying5
  a5 := Try.isAgg5
  z5 := Try.sizeOf5
  v5 := Try.zeroValue5
  t9 := Try.underlying9
  a9 := Try.isAgg9
  z9 := Try.sizeOf9
  v9 := Try.zeroValue9
  t26 := Try.underlying26
  a26 := Try.isAgg26
  z26 := Try.sizeOf26
  v26 := Try.zeroValue26
  t27 := Try.underlying26
  a27 := Try.isAgg26
  z27 := Try.sizeOf26
  v27 := Try.zeroValue26
  t29 := Try.underlying9
  a29 := Try.isAgg9
  z29 := Try.sizeOf9
  v29 := Try.zeroValue9
  t32 := Try.underlying117
  a32 := Try.isAgg117
  z32 := Try.sizeOf117
  v32 := Try.zeroValue117
  t35 := Try.underlying119
  a35 := Try.isAgg119
  z35 := Try.sizeOf119
  v35 := Try.zeroValue119
  t36 := Try.underlying120
  a36 := Try.isAgg120
  z36 := Try.sizeOf120
  v36 := Try.zeroValue120
  t41 := Try.underlying125
  a41 := Try.isAgg125
  z41 := Try.sizeOf125
  v41 := Try.zeroValue125
  t44 := Try.underlying128
  a44 := Try.isAgg128
  z44 := Try.sizeOf128
  v44 := Try.zeroValue128
  t46 := Try.underlying130
  a46 := Try.isAgg130
  z46 := Try.sizeOf130
  v46 := Try.zeroValue130
  t53 := Try.underlying131
  a53 := Try.isAgg131
  z53 := Try.sizeOf131
  v53 := Try.zeroValue131
  t57 := Try.underlying135
  a57 := Try.isAgg135
  z57 := Try.sizeOf135
  v57 := Try.zeroValue135
  t63 := Try.underlying137
  a63 := Try.isAgg137
  z63 := Try.sizeOf137
  v63 := Try.zeroValue137
  t64 := Try.underlying138
  a64 := Try.isAgg138
  z64 := Try.sizeOf138
  v64 := Try.zeroValue138 }
end Go.Proofs
