/-
  DERIVED: THE SHELF's CONTRACTS AT THIS DUMP, IN PLAIN WORDS (tools/lay-plain.mjs out of 'TryzShelf4.lean', which tools/lay-shelf.mjs wrote): THE SAME DECLARATIONS UNDER THE SAME NAMES: 'import', 'namespace', 'open', 'def', 'theorem' AND NOTHING ELSE: no command of the shelf's: FOR A HAND-IN. Each laying: the table of numbers ('.._ren') and one theorem, a field a fact of the dump's own or the kernel's comparison; each contract: ONE APPLICATION.
-/
import Derived.Shelf.SlIter.Nil
import Derived.Shelf.SlIter.Sorted
import Derived.Ground.GgzProg
import Derived.Test.YtblbdgepocfngaaGreatDoorProg
namespace Go.Proofs
open Go.Shelf
def Tryz.keysA_ren : Go.Shelf.Ren := ⟨fun | 7 => 62 | 10 => 143 | n => n, fun | 23 => 39 | 26 => 9 | 3 => 29 | 28 => 109 | 0 => 0 | 27 => 108 | 33 => 23 | 4 => 4 | n => n, fun | n => n⟩
theorem Tryz.keysA : Go.Proofs.SlLaysZ.n7 Tryz.prog Tryz.keysA_ren := {
  mixed := by kernel_rfl
  f7 := ⟨Tryz.f62.name, by decide, Tryz.func62.trans (congrArg some (by kernel_rfl))⟩
  f10 := ⟨Tryz.f143.name, by decide, Tryz.func143.trans (congrArg some (by kernel_rfl))⟩
  t0 := Tryz.underlying0
  a0 := Tryz.isAgg0
  z0 := Tryz.sizeOf0
  v0 := Tryz.zeroValue0
  t4 := Tryz.underlying4
  a4 := Tryz.isAgg4
  z4 := Tryz.sizeOf4
  v4 := Tryz.zeroValue4
  t23 := Tryz.underlying39
  a23 := Tryz.isAgg39
  z23 := Tryz.sizeOf39
  v23 := Tryz.zeroValue39
  t26 := Tryz.underlying9
  a26 := Tryz.isAgg9
  z26 := Tryz.sizeOf9
  v26 := Tryz.zeroValue9
  t27 := Tryz.underlying108
  a27 := Tryz.isAgg108
  z27 := Tryz.sizeOf108
  v27 := Tryz.zeroValue108
  t28 := Tryz.underlying109
  a28 := Tryz.isAgg109
  z28 := Tryz.sizeOf109
  v28 := Tryz.zeroValue109
  t33 := Tryz.underlying23
  a33 := Tryz.isAgg23
  z33 := Tryz.sizeOf23
  v33 := Tryz.zeroValue23 }
def Tryz.sortedA_ren : Go.Shelf.Ren := ⟨fun | 6 => 61 | 8 => 142 | 9 => 80 | 11 => 211 | 13 => 167 | 12 => 166 | 23 => 236 | 24 => 237 | 14 => 227 | 15 => 228 | 16 => 229 | 17 => 230 | 18 => 231 | 19 => 232 | 20 => 233 | 21 => 234 | 22 => 235 | 25 => 275 | 26 => 276 | 27 => 277 | 28 => 278 | 29 => 279 | 30 => 280 | 31 => 300 | n => n, fun | 26 => 9 | 28 => 109 | 24 => 57 | 0 => 0 | 3 => 3 | 37 => 229 | 48 => 282 | 50 => 231 | 4 => 4 | 40 => 276 | 39 => 275 | 45 => 126 | 5 => 5 | 9 => 9 | 51 => 310 | 55 => 313 | 57 => 328 | 58 => 329 | 33 => 23 | n => n, fun | n => n⟩
theorem Tryz.sortedA : Go.Proofs.SlLaysZ.n6 Tryz.prog Tryz.sortedA_ren := {
  mixed := by kernel_rfl
  f6 := ⟨Tryz.f61.name, by decide, Tryz.func61.trans (congrArg some (by kernel_rfl))⟩
  f8 := ⟨Tryz.f142.name, by decide, Tryz.func142.trans (congrArg some (by kernel_rfl))⟩
  f11 := ⟨Tryz.f211.name, by decide, Tryz.func211.trans (congrArg some (by kernel_rfl))⟩
  t0 := Tryz.underlying0
  a0 := Tryz.isAgg0
  z0 := Tryz.sizeOf0
  v0 := Tryz.zeroValue0
  t24 := Tryz.underlying57
  a24 := Tryz.isAgg57
  z24 := Tryz.sizeOf57
  v24 := Tryz.zeroValue57
  t26 := Tryz.underlying9
  a26 := Tryz.isAgg9
  z26 := Tryz.sizeOf9
  v26 := Tryz.zeroValue9
  t28 := Tryz.underlying109
  a28 := Tryz.isAgg109
  z28 := Tryz.sizeOf109
  v28 := Tryz.zeroValue109
  i26 := by kernel_rfl }
end Go.Proofs
