/-
  DERIVED: THE SHELF's CONTRACTS AT THIS DUMP, IN PLAIN WORDS (tools/lay-plain.mjs out of 'TryShelf.lean', which tools/lay-shelf.mjs wrote): THE SAME DECLARATIONS UNDER THE SAME NAMES: 'import', 'namespace', 'open', 'def', 'theorem' AND NOTHING ELSE: no command of the shelf's: FOR A HAND-IN. Each laying: the table of numbers ('.._ren') and one theorem, a field a fact of the dump's own or the kernel's comparison; each contract: ONE APPLICATION.
-/
import Derived.Shelf.SlIterI.Nil
import Derived.Shelf.SortM.Plain
import Derived.Shelf.SortM.SortNone
import Derived.Ground.GgzProg
import Derived.Ground.SlgmProg
import Derived.Test.YtiofkiaibcmdhaaProg
namespace Go.Proofs
open Go.Shelf
def Try.sortedA_ren : Go.Shelf.Ren := ⟨fun | 6 => 69 | 8 => 93 | 9 => 94 | 11 => 114 | 13 => 116 | 12 => 115 | 23 => 136 | 24 => 137 | 14 => 127 | 15 => 128 | 16 => 129 | 17 => 130 | 18 => 131 | 19 => 132 | 20 => 133 | 21 => 134 | 22 => 135 | 25 => 140 | 26 => 141 | 27 => 142 | 28 => 143 | 29 => 144 | 30 => 145 | 31 => 146 | n => n, fun | 26 => 3 | 28 => 131 | 24 => 51 | 0 => 0 | 3 => 3 | 37 => 25 | 48 => 183 | 50 => 148 | 4 => 4 | 40 => 175 | 39 => 174 | 45 => 180 | 5 => 5 | 9 => 9 | 51 => 185 | 55 => 189 | 57 => 191 | 58 => 192 | 33 => 150 | n => n, fun | n => n⟩
theorem Try.sortedA : Go.Proofs.SlLaysZI.n6 Try.prog Try.sortedA_ren := {
  mixed := by kernel_rfl
  f6 := ⟨Try.f69.name, by decide, Try.func69.trans (congrArg some (by kernel_rfl))⟩
  f8 := ⟨Try.f93.name, by decide, Try.func93.trans (congrArg some (by kernel_rfl))⟩
  f11 := ⟨Try.f114.name, by decide, Try.func114.trans (congrArg some (by kernel_rfl))⟩
  t0 := Try.underlying0
  a0 := Try.isAgg0
  z0 := Try.sizeOf0
  v0 := Try.zeroValue0
  t24 := Try.underlying51
  a24 := Try.isAgg51
  z24 := Try.sizeOf51
  v24 := Try.zeroValue51
  t26 := Try.underlying3
  a26 := Try.isAgg3
  z26 := Try.sizeOf3
  v26 := Try.zeroValue3
  t28 := Try.underlying131
  a28 := Try.isAgg131
  z28 := Try.sizeOf131
  v28 := Try.zeroValue131
  i26 := by kernel_rfl }
def Try.sortA_ren : Go.Shelf.Ren := ⟨fun | 5 => 94 | 8 => 116 | 7 => 115 | 19 => 136 | 20 => 137 | 10 => 127 | 11 => 128 | 12 => 129 | 13 => 130 | 14 => 131 | 15 => 132 | 16 => 133 | 17 => 134 | 18 => 135 | 30 => 140 | 31 => 141 | 32 => 142 | 33 => 143 | 34 => 144 | 35 => 145 | 40 => 146 | n => n, fun | 23 => 51 | 25 => 3 | 3 => 3 | 32 => 25 | 22 => 51 | 0 => 0 | 44 => 183 | 46 => 148 | 4 => 4 | 36 => 175 | 35 => 174 | 41 => 180 | 5 => 5 | 9 => 9 | 53 => 185 | 57 => 189 | 63 => 191 | 64 => 192 | n => n, fun | n => n⟩
theorem Try.sortA : Go.Proofs.SlLaysM.n5 Try.prog Try.sortA_ren := {
  mixed := by kernel_rfl
  f5 := ⟨Try.f94.name, by decide, Try.func94.trans (congrArg some (by kernel_rfl))⟩
  f7 := ⟨Try.f115.name, by decide, Try.func115.trans (congrArg some (by kernel_rfl))⟩
  f8 := Try.func116.trans (congrArg some (by kernel_rfl))
  f10 := ⟨Try.f127.name, by decide, Try.func127.trans (congrArg some (by kernel_rfl))⟩
  f11 := ⟨Try.f128.name, by decide, Try.func128.trans (congrArg some (by kernel_rfl))⟩
  f12 := ⟨Try.f129.name, by decide, Try.func129.trans (congrArg some (by kernel_rfl))⟩
  f13 := ⟨Try.f130.name, by decide, Try.func130.trans (congrArg some (by kernel_rfl))⟩
  f14 := ⟨Try.f131.name, by decide, Try.func131.trans (congrArg some (by kernel_rfl))⟩
  f15 := ⟨Try.f132.name, by decide, Try.func132.trans (congrArg some (by kernel_rfl))⟩
  f16 := ⟨Try.f133.name, by decide, Try.func133.trans (congrArg some (by kernel_rfl))⟩
  f17 := ⟨Try.f134.name, by decide, Try.func134.trans (congrArg some (by kernel_rfl))⟩
  f18 := ⟨Try.f135.name, by decide, Try.func135.trans (congrArg some (by kernel_rfl))⟩
  f19 := Try.func136.trans (congrArg some (by kernel_rfl))
  f20 := Try.func137.trans (congrArg some (by kernel_rfl))
  f30 := ⟨Try.f140.name, by decide, Try.func140.trans (congrArg some (by kernel_rfl))⟩
  f31 := Try.func141.trans (congrArg some (by kernel_rfl))
  f32 := Try.func142.trans (congrArg some (by kernel_rfl))
  f33 := ⟨Try.f143.name, by decide, Try.func143.trans (congrArg some (by kernel_rfl))⟩
  f34 := ⟨Try.f144.name, by decide, Try.func144.trans (congrArg some (by kernel_rfl))⟩
  f35 := ⟨Try.f145.name, by decide, Try.func145.trans (congrArg some (by kernel_rfl))⟩
  f40 := ⟨Try.f146.name, by decide, Try.func146.trans (congrArg some (by kernel_rfl))⟩
  t0 := Try.underlying0
  a0 := Try.isAgg0
  z0 := Try.sizeOf0
  v0 := Try.zeroValue0
  t3 := Try.underlying3
  a3 := Try.isAgg3
  z3 := Try.sizeOf3
  v3 := Try.zeroValue3
  t4 := Try.underlying4
  a4 := Try.isAgg4
  z4 := Try.sizeOf4
  v4 := Try.zeroValue4
  t5 := Try.underlying5
  a5 := Try.isAgg5
  z5 := Try.sizeOf5
  v5 := Try.zeroValue5
  t9 := Try.underlying9
  a9 := Try.isAgg9
  z9 := Try.sizeOf9
  v9 := Try.zeroValue9
  t22 := Try.underlying51
  a22 := Try.isAgg51
  z22 := Try.sizeOf51
  v22 := Try.zeroValue51
  t23 := Try.underlying51
  a23 := Try.isAgg51
  z23 := Try.sizeOf51
  v23 := Try.zeroValue51
  t25 := Try.underlying3
  a25 := Try.isAgg3
  z25 := Try.sizeOf3
  v25 := Try.zeroValue3
  t32 := Try.underlying25
  a32 := Try.isAgg25
  z32 := Try.sizeOf25
  v32 := Try.zeroValue25
  t35 := Try.underlying174
  a35 := Try.isAgg174
  z35 := Try.sizeOf174
  v35 := Try.zeroValue174
  t36 := Try.underlying175
  a36 := Try.isAgg175
  z36 := Try.sizeOf175
  v36 := Try.zeroValue175
  t41 := Try.underlying180
  a41 := Try.isAgg180
  z41 := Try.sizeOf180
  v41 := Try.zeroValue180
  t44 := Try.underlying183
  a44 := Try.isAgg183
  z44 := Try.sizeOf183
  v44 := Try.zeroValue183
  t46 := Try.underlying148
  a46 := Try.isAgg148
  z46 := Try.sizeOf148
  v46 := Try.zeroValue148
  t53 := Try.underlying185
  a53 := Try.isAgg185
  z53 := Try.sizeOf185
  v53 := Try.zeroValue185
  t57 := Try.underlying189
  a57 := Try.isAgg189
  z57 := Try.sizeOf189
  v57 := Try.zeroValue189
  t63 := Try.underlying191
  a63 := Try.isAgg191
  z63 := Try.sizeOf191
  v63 := Try.zeroValue191
  t64 := Try.underlying192
  a64 := Try.isAgg192
  z64 := Try.sizeOf192
  v64 := Try.zeroValue192 }
end Go.Proofs
