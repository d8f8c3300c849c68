/-
  DERIVED: THE SHELF's CONTRACTS AT THIS DUMP, IN PLAIN WORDS (tools/lay-plain.mjs out of 'YthjdgiobchiloaaLayS0.lean', which tools/lay-shelf.mjs wrote): THE SAME DECLARATIONS UNDER THE SAME NAMES: 'import', 'namespace', 'open', 'def', 'theorem' AND NOTHING ELSE: no command of the shelf's: FOR A HAND-IN. Each laying: the table of numbers ('.._ren') and one theorem, a field a fact of the dump's own or the kernel's comparison; each contract: ONE APPLICATION.
-/
import Derived.Shelf.SlIter.Nil
import Derived.Shelf.SortM.Plain
import Derived.Shelf.SortM.SortNone
import Derived.Ground.GgzProg
import Derived.Ground.SlgmProg
import Derived.Shelf.SlGeneric
import Derived.Test.YthjdgiobchiloaaProg
namespace Go.Proofs
open Go.Shelf
def Try.keysS_ren : Go.Shelf.Ren := ⟨fun | 7 => 59 | 10 => 79 | n => n, fun | 23 => 85 | 26 => 9 | 3 => 89 | 28 => 99 | 0 => 0 | 27 => 98 | 33 => 88 | 4 => 4 | n => n, fun | n => n⟩
theorem Try.keysS : Go.Proofs.SlLaysZ.n7 Try.prog Try.keysS_ren := {
  mixed := by kernel_rfl
  f7 := ⟨Try.f59.name, by decide, Try.func59.trans (congrArg some (by kernel_rfl))⟩
  f10 := ⟨Try.f79.name, by decide, Try.func79.trans (congrArg some (by kernel_rfl))⟩
  t0 := Try.underlying0
  a0 := Try.isAgg0
  z0 := Try.sizeOf0
  v0 := Try.zeroValue0
  t4 := Try.underlying4
  a4 := Try.isAgg4
  z4 := Try.sizeOf4
  v4 := Try.zeroValue4
  t23 := Try.underlying85
  a23 := Try.isAgg85
  z23 := Try.sizeOf85
  v23 := Try.zeroValue85
  t26 := Try.underlying9
  a26 := Try.isAgg9
  z26 := Try.sizeOf9
  v26 := Try.zeroValue9
  t27 := Try.underlying98
  a27 := Try.isAgg98
  z27 := Try.sizeOf98
  v27 := Try.zeroValue98
  t28 := Try.underlying99
  a28 := Try.isAgg99
  z28 := Try.sizeOf99
  v28 := Try.zeroValue99
  t33 := Try.underlying88
  a33 := Try.isAgg88
  z33 := Try.sizeOf88
  v33 := Try.zeroValue88 }
def Try.sortedS_ren : Go.Shelf.Ren := ⟨fun | 6 => 58 | 8 => 77 | 9 => 78 | 11 => 94 | 13 => 96 | 12 => 95 | 23 => 113 | 24 => 114 | 14 => 104 | 15 => 105 | 16 => 106 | 17 => 107 | 18 => 108 | 19 => 109 | 20 => 110 | 21 => 111 | 22 => 112 | 25 => 129 | 26 => 130 | 27 => 131 | 28 => 132 | 29 => 133 | 30 => 134 | 31 => 143 | n => n, fun | 26 => 9 | 28 => 99 | 24 => 37 | 0 => 0 | 3 => 3 | 37 => 137 | 48 => 125 | 50 => 143 | 4 => 4 | 40 => 153 | 39 => 152 | 45 => 158 | 5 => 5 | 9 => 9 | 51 => 172 | 55 => 176 | 57 => 183 | 58 => 184 | 33 => 88 | n => n, fun | n => n⟩
theorem Try.sortedS : Go.Proofs.SlLaysZ.n6 Try.prog Try.sortedS_ren := {
  mixed := by kernel_rfl
  f6 := ⟨Try.f58.name, by decide, Try.func58.trans (congrArg some (by kernel_rfl))⟩
  f8 := ⟨Try.f77.name, by decide, Try.func77.trans (congrArg some (by kernel_rfl))⟩
  f11 := ⟨Try.f94.name, by decide, Try.func94.trans (congrArg some (by kernel_rfl))⟩
  t0 := Try.underlying0
  a0 := Try.isAgg0
  z0 := Try.sizeOf0
  v0 := Try.zeroValue0
  t24 := Try.underlying37
  a24 := Try.isAgg37
  z24 := Try.sizeOf37
  v24 := Try.zeroValue37
  t26 := Try.underlying9
  a26 := Try.isAgg9
  z26 := Try.sizeOf9
  v26 := Try.zeroValue9
  t28 := Try.underlying99
  a28 := Try.isAgg99
  z28 := Try.sizeOf99
  v28 := Try.zeroValue99
  i26 := by kernel_rfl }
def Try.sortS_ren : Go.Shelf.Ren := ⟨fun | 6 => 78 | 8 => 96 | 9 => 95 | 19 => 113 | 20 => 114 | 21 => 104 | 22 => 105 | 23 => 106 | 24 => 107 | 25 => 108 | 26 => 109 | 27 => 110 | 28 => 111 | 29 => 112 | 36 => 129 | 31 => 130 | 32 => 131 | 37 => 132 | 38 => 133 | 39 => 134 | 41 => 143 | n => n, fun | 27 => 37 | 29 => 9 | 3 => 3 | 32 => 137 | 26 => 37 | 0 => 0 | 44 => 125 | 46 => 143 | 4 => 4 | 36 => 153 | 35 => 152 | 41 => 158 | 5 => 5 | 9 => 9 | 53 => 172 | 57 => 176 | 63 => 183 | 64 => 184 | n => n, fun | n => n⟩
theorem Try.sortS : Go.Proofs.SlLaysM.n6 Try.prog Try.sortS_ren := {
  mixed := by kernel_rfl
  f6 := ⟨Try.f78.name, by decide, Try.func78.trans (congrArg some (by kernel_rfl))⟩
  f8 := Try.func96.trans (congrArg some (by kernel_rfl))
  f9 := ⟨Try.f95.name, by decide, Try.func95.trans (congrArg some (by kernel_rfl))⟩
  f19 := Try.func113.trans (congrArg some (by kernel_rfl))
  f20 := Try.func114.trans (congrArg some (by kernel_rfl))
  f21 := ⟨Try.f104.name, by decide, Try.func104.trans (congrArg some (by kernel_rfl))⟩
  f22 := ⟨Try.f105.name, by decide, Try.func105.trans (congrArg some (by kernel_rfl))⟩
  f23 := ⟨Try.f106.name, by decide, Try.func106.trans (congrArg some (by kernel_rfl))⟩
  f24 := ⟨Try.f107.name, by decide, Try.func107.trans (congrArg some (by kernel_rfl))⟩
  f25 := ⟨Try.f108.name, by decide, Try.func108.trans (congrArg some (by kernel_rfl))⟩
  f26 := ⟨Try.f109.name, by decide, Try.func109.trans (congrArg some (by kernel_rfl))⟩
  f27 := ⟨Try.f110.name, by decide, Try.func110.trans (congrArg some (by kernel_rfl))⟩
  f28 := ⟨Try.f111.name, by decide, Try.func111.trans (congrArg some (by kernel_rfl))⟩
  f29 := ⟨Try.f112.name, by decide, Try.func112.trans (congrArg some (by kernel_rfl))⟩
  f31 := Try.func130.trans (congrArg some (by kernel_rfl))
  f32 := Try.func131.trans (congrArg some (by kernel_rfl))
  f36 := ⟨Try.f129.name, by decide, Try.func129.trans (congrArg some (by kernel_rfl))⟩
  f37 := ⟨Try.f132.name, by decide, Try.func132.trans (congrArg some (by kernel_rfl))⟩
  f38 := ⟨Try.f133.name, by decide, Try.func133.trans (congrArg some (by kernel_rfl))⟩
  f39 := ⟨Try.f134.name, by decide, Try.func134.trans (congrArg some (by kernel_rfl))⟩
  f41 := ⟨Try.f143.name, by decide, Try.func143.trans (congrArg some (by kernel_rfl))⟩
  t0 := Try.underlying0
  a0 := Try.isAgg0
  z0 := Try.sizeOf0
  v0 := Try.zeroValue0
  t3 := Try.underlying3
  a3 := Try.isAgg3
  z3 := Try.sizeOf3
  v3 := Try.zeroValue3
  t4 := Try.underlying4
  a4 := Try.isAgg4
  z4 := Try.sizeOf4
  v4 := Try.zeroValue4
  t5 := Try.underlying5
  a5 := Try.isAgg5
  z5 := Try.sizeOf5
  v5 := Try.zeroValue5
  t9 := Try.underlying9
  a9 := Try.isAgg9
  z9 := Try.sizeOf9
  v9 := Try.zeroValue9
  t26 := Try.underlying37
  a26 := Try.isAgg37
  z26 := Try.sizeOf37
  v26 := Try.zeroValue37
  t27 := Try.underlying37
  a27 := Try.isAgg37
  z27 := Try.sizeOf37
  v27 := Try.zeroValue37
  t29 := Try.underlying9
  a29 := Try.isAgg9
  z29 := Try.sizeOf9
  v29 := Try.zeroValue9
  t32 := Try.underlying137
  a32 := Try.isAgg137
  z32 := Try.sizeOf137
  v32 := Try.zeroValue137
  t35 := Try.underlying152
  a35 := Try.isAgg152
  z35 := Try.sizeOf152
  v35 := Try.zeroValue152
  t36 := Try.underlying153
  a36 := Try.isAgg153
  z36 := Try.sizeOf153
  v36 := Try.zeroValue153
  t41 := Try.underlying158
  a41 := Try.isAgg158
  z41 := Try.sizeOf158
  v41 := Try.zeroValue158
  t44 := Try.underlying125
  a44 := Try.isAgg125
  z44 := Try.sizeOf125
  v44 := Try.zeroValue125
  t46 := Try.underlying143
  a46 := Try.isAgg143
  z46 := Try.sizeOf143
  v46 := Try.zeroValue143
  t53 := Try.underlying172
  a53 := Try.isAgg172
  z53 := Try.sizeOf172
  v53 := Try.zeroValue172
  t57 := Try.underlying176
  a57 := Try.isAgg176
  z57 := Try.sizeOf176
  v57 := Try.zeroValue176
  t63 := Try.underlying183
  a63 := Try.isAgg183
  z63 := Try.sizeOf183
  v63 := Try.zeroValue183
  t64 := Try.underlying184
  a64 := Try.isAgg184
  z64 := Try.sizeOf184
  v64 := Try.zeroValue184 }
end Go.Proofs
