/-
  DERIVED: THE SHELF's CONTRACTS AT THIS DUMP, IN PLAIN WORDS (tools/lay-plain.mjs out of 'YtopabknlgmihpaaLaidS.lean', which tools/lay-shelf.mjs wrote): THE SAME DECLARATIONS UNDER THE SAME NAMES: 'import', 'namespace', 'open', 'def', 'theorem' AND NOTHING ELSE: no command of the shelf's: FOR A HAND-IN. Each laying: the table of numbers ('.._ren') and one theorem, a field a fact of the dump's own or the kernel's comparison; each contract: ONE APPLICATION.
-/
import Derived.Shelf.SlIter.Nil
import Derived.Shelf.SortM.Plain
import Derived.Shelf.SortM.SortNone
import Derived.Ground.GgzProg
import Derived.Ground.SlgmProg
import Derived.Shelf.SlGeneric
import Derived.Test.YtopabknlgmihpaaProg
namespace Go.Proofs
open Go.Shelf
def Try.keysF_ren : Go.Shelf.Ren := ⟨fun | 7 => 41 | 10 => 62 | n => n, fun | 23 => 65 | 26 => 9 | 3 => 69 | 28 => 76 | 0 => 0 | 27 => 75 | 33 => 71 | 4 => 4 | n => n, fun | n => n⟩
theorem Try.keysF : Go.Proofs.SlLaysZ.n7 Try.prog Try.keysF_ren := {
  mixed := by kernel_rfl
  f7 := ⟨Try.f41.name, by decide, Try.func41.trans (congrArg some (by kernel_rfl))⟩
  f10 := ⟨Try.f62.name, by decide, Try.func62.trans (congrArg some (by kernel_rfl))⟩
  t0 := Try.underlying0
  a0 := Try.isAgg0
  z0 := Try.sizeOf0
  v0 := Try.zeroValue0
  t4 := Try.underlying4
  a4 := Try.isAgg4
  z4 := Try.sizeOf4
  v4 := Try.zeroValue4
  t23 := Try.underlying65
  a23 := Try.isAgg65
  z23 := Try.sizeOf65
  v23 := Try.zeroValue65
  t26 := Try.underlying9
  a26 := Try.isAgg9
  z26 := Try.sizeOf9
  v26 := Try.zeroValue9
  t27 := Try.underlying75
  a27 := Try.isAgg75
  z27 := Try.sizeOf75
  v27 := Try.zeroValue75
  t28 := Try.underlying76
  a28 := Try.isAgg76
  z28 := Try.sizeOf76
  v28 := Try.zeroValue76
  t33 := Try.underlying71
  a33 := Try.isAgg71
  z33 := Try.sizeOf71
  v33 := Try.zeroValue71 }
def Try.sortedF_ren : Go.Shelf.Ren := ⟨fun | 6 => 40 | 8 => 60 | 9 => 61 | 11 => 83 | 13 => 85 | 12 => 84 | 23 => 103 | 24 => 104 | 14 => 94 | 15 => 95 | 16 => 96 | 17 => 97 | 18 => 98 | 19 => 99 | 20 => 100 | 21 => 101 | 22 => 102 | 25 => 106 | 26 => 107 | 27 => 108 | 28 => 109 | 29 => 110 | 30 => 111 | 31 => 112 | n => n, fun | 26 => 9 | 28 => 76 | 24 => 47 | 0 => 0 | 3 => 3 | 37 => 117 | 48 => 105 | 50 => 102 | 4 => 4 | 40 => 130 | 39 => 129 | 45 => 135 | 5 => 5 | 9 => 9 | 51 => 138 | 55 => 142 | 57 => 144 | 58 => 145 | 33 => 71 | n => n, fun | n => n⟩
theorem Try.sortedF : Go.Proofs.SlLaysZ.n6 Try.prog Try.sortedF_ren := {
  mixed := by kernel_rfl
  f6 := ⟨Try.f40.name, by decide, Try.func40.trans (congrArg some (by kernel_rfl))⟩
  f8 := ⟨Try.f60.name, by decide, Try.func60.trans (congrArg some (by kernel_rfl))⟩
  f11 := ⟨Try.f83.name, by decide, Try.func83.trans (congrArg some (by kernel_rfl))⟩
  t0 := Try.underlying0
  a0 := Try.isAgg0
  z0 := Try.sizeOf0
  v0 := Try.zeroValue0
  t24 := Try.underlying47
  a24 := Try.isAgg47
  z24 := Try.sizeOf47
  v24 := Try.zeroValue47
  t26 := Try.underlying9
  a26 := Try.isAgg9
  z26 := Try.sizeOf9
  v26 := Try.zeroValue9
  t28 := Try.underlying76
  a28 := Try.isAgg76
  z28 := Try.sizeOf76
  v28 := Try.zeroValue76
  i26 := by kernel_rfl }
def Try.sortF_ren : Go.Shelf.Ren := ⟨fun | 6 => 61 | 8 => 85 | 9 => 84 | 19 => 103 | 20 => 104 | 21 => 94 | 22 => 95 | 23 => 96 | 24 => 97 | 25 => 98 | 26 => 99 | 27 => 100 | 28 => 101 | 29 => 102 | 36 => 106 | 31 => 107 | 32 => 108 | 37 => 109 | 38 => 110 | 39 => 111 | 41 => 112 | n => n, fun | 27 => 47 | 29 => 9 | 3 => 3 | 32 => 117 | 26 => 47 | 0 => 0 | 44 => 105 | 46 => 102 | 4 => 4 | 36 => 130 | 35 => 129 | 41 => 135 | 5 => 5 | 9 => 9 | 53 => 138 | 57 => 142 | 63 => 144 | 64 => 145 | n => n, fun | n => n⟩
theorem Try.sortF : Go.Proofs.SlLaysM.n6 Try.prog Try.sortF_ren := {
  mixed := by kernel_rfl
  f6 := ⟨Try.f61.name, by decide, Try.func61.trans (congrArg some (by kernel_rfl))⟩
  f8 := Try.func85.trans (congrArg some (by kernel_rfl))
  f9 := ⟨Try.f84.name, by decide, Try.func84.trans (congrArg some (by kernel_rfl))⟩
  f19 := Try.func103.trans (congrArg some (by kernel_rfl))
  f20 := Try.func104.trans (congrArg some (by kernel_rfl))
  f21 := ⟨Try.f94.name, by decide, Try.func94.trans (congrArg some (by kernel_rfl))⟩
  f22 := ⟨Try.f95.name, by decide, Try.func95.trans (congrArg some (by kernel_rfl))⟩
  f23 := ⟨Try.f96.name, by decide, Try.func96.trans (congrArg some (by kernel_rfl))⟩
  f24 := ⟨Try.f97.name, by decide, Try.func97.trans (congrArg some (by kernel_rfl))⟩
  f25 := ⟨Try.f98.name, by decide, Try.func98.trans (congrArg some (by kernel_rfl))⟩
  f26 := ⟨Try.f99.name, by decide, Try.func99.trans (congrArg some (by kernel_rfl))⟩
  f27 := ⟨Try.f100.name, by decide, Try.func100.trans (congrArg some (by kernel_rfl))⟩
  f28 := ⟨Try.f101.name, by decide, Try.func101.trans (congrArg some (by kernel_rfl))⟩
  f29 := ⟨Try.f102.name, by decide, Try.func102.trans (congrArg some (by kernel_rfl))⟩
  f31 := Try.func107.trans (congrArg some (by kernel_rfl))
  f32 := Try.func108.trans (congrArg some (by kernel_rfl))
  f36 := ⟨Try.f106.name, by decide, Try.func106.trans (congrArg some (by kernel_rfl))⟩
  f37 := ⟨Try.f109.name, by decide, Try.func109.trans (congrArg some (by kernel_rfl))⟩
  f38 := ⟨Try.f110.name, by decide, Try.func110.trans (congrArg some (by kernel_rfl))⟩
  f39 := ⟨Try.f111.name, by decide, Try.func111.trans (congrArg some (by kernel_rfl))⟩
  f41 := ⟨Try.f112.name, by decide, Try.func112.trans (congrArg some (by kernel_rfl))⟩
  t0 := Try.underlying0
  a0 := Try.isAgg0
  z0 := Try.sizeOf0
  v0 := Try.zeroValue0
  t3 := Try.underlying3
  a3 := Try.isAgg3
  z3 := Try.sizeOf3
  v3 := Try.zeroValue3
  t4 := Try.underlying4
  a4 := Try.isAgg4
  z4 := Try.sizeOf4
  v4 := Try.zeroValue4
  t5 := Try.underlying5
  a5 := Try.isAgg5
  z5 := Try.sizeOf5
  v5 := Try.zeroValue5
  t9 := Try.underlying9
  a9 := Try.isAgg9
  z9 := Try.sizeOf9
  v9 := Try.zeroValue9
  t26 := Try.underlying47
  a26 := Try.isAgg47
  z26 := Try.sizeOf47
  v26 := Try.zeroValue47
  t27 := Try.underlying47
  a27 := Try.isAgg47
  z27 := Try.sizeOf47
  v27 := Try.zeroValue47
  t29 := Try.underlying9
  a29 := Try.isAgg9
  z29 := Try.sizeOf9
  v29 := Try.zeroValue9
  t32 := Try.underlying117
  a32 := Try.isAgg117
  z32 := Try.sizeOf117
  v32 := Try.zeroValue117
  t35 := Try.underlying129
  a35 := Try.isAgg129
  z35 := Try.sizeOf129
  v35 := Try.zeroValue129
  t36 := Try.underlying130
  a36 := Try.isAgg130
  z36 := Try.sizeOf130
  v36 := Try.zeroValue130
  t41 := Try.underlying135
  a41 := Try.isAgg135
  z41 := Try.sizeOf135
  v41 := Try.zeroValue135
  t44 := Try.underlying105
  a44 := Try.isAgg105
  z44 := Try.sizeOf105
  v44 := Try.zeroValue105
  t46 := Try.underlying102
  a46 := Try.isAgg102
  z46 := Try.sizeOf102
  v46 := Try.zeroValue102
  t53 := Try.underlying138
  a53 := Try.isAgg138
  z53 := Try.sizeOf138
  v53 := Try.zeroValue138
  t57 := Try.underlying142
  a57 := Try.isAgg142
  z57 := Try.sizeOf142
  v57 := Try.zeroValue142
  t63 := Try.underlying144
  a63 := Try.isAgg144
  z63 := Try.sizeOf144
  v63 := Try.zeroValue144
  t64 := Try.underlying145
  a64 := Try.isAgg145
  z64 := Try.sizeOf145
  v64 := Try.zeroValue145 }
end Go.Proofs
