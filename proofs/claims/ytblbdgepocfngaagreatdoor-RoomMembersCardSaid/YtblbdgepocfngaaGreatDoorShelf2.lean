/-
  DERIVED: THE SHELF's CONTRACTS AT THIS DUMP, IN PLAIN WORDS (tools/lay-plain.mjs out of 'TryzShelf2.lean', which tools/lay-shelf.mjs wrote): THE SAME DECLARATIONS UNDER THE SAME NAMES: 'import', 'namespace', 'open', 'def', 'theorem' AND NOTHING ELSE: no command of the shelf's: FOR A HAND-IN. Each laying: the table of numbers ('.._ren') and one theorem, a field a fact of the dump's own or the kernel's comparison; each contract: ONE APPLICATION.
-/
import Derived.Shelf.Strings.Builder1
import Derived.Shelf.Small.Utf8
import Derived.Shelf.Small.Strs
import Derived.Shelf.Small.Wraps
import Derived.Shelf.Strings.BuilderF
import Derived.Shelf.Strings.BuilderK
import Derived.Shelf.Strings.BuilderRune
import Derived.Shelf.Utf8.AppendRunePlain
import Derived.Shelf.Strconv.Itoa0
import Derived.Shelf.Strconv.Itoa1
import Derived.Shelf.LaysM
import Derived.Shelf.Strconv.Itoa2
import Derived.Shelf.Strconv.Itoa3
import Derived.Shelf.Strconv.Itoa4
import Derived.Shelf.Strconv.ParseIntEmpty
import Derived.Shelf.Strconv.Clone
import Derived.Shelf.Strconv.SyntaxError
import Derived.Shelf.LaysC
import Derived.Shelf.Strconv.ToError
import Derived.Shelf.Strconv.Lower
import Derived.Shelf.Strconv.ParseUint10
import Derived.Shelf.Strconv.ParseUint10Empty
import Derived.Shelf.Strconv.ParseUint10Any
import Derived.Shelf.Strconv.ParseInt10
import Derived.Shelf.Strconv.RangeError
import Derived.Shelf.Strconv.ToErrorRange
import Derived.Shelf.Strconv.ParseUintEmpty
import Derived.Shelf.Strconv.ParseUint10b64
import Derived.Shelf.Strconv.ParseUint10b32
import Derived.Shelf.Strconv.ParseUint10b16
import Derived.Shelf.Strconv.ParseUint10b8
import Derived.Shelf.Strconv.ParseUint10At
import Derived.Shelf.Strconv.ParseInt10At64
import Derived.Shelf.Strconv.ParseInt10At32
import Derived.Shelf.Strconv.ParseInt10At16
import Derived.Shelf.Strconv.ParseInt10At8
import Derived.Shelf.Strconv.ParseInt10All
import Derived.Shelf.Strconv.ParseIntPublic10
import Derived.Shelf.Strings.Search1
import Derived.Shelf.Strings.Search2
import Derived.Shelf.Strings.Cut
import Derived.Shelf.Strings.Shaped
import Derived.Shelf.Sort.Plain
import Derived.Shelf.Strings.Prefix
import Derived.Shelf.Unicode.DecodeSlow
import Derived.Shelf.Unicode.DecodeAny
import Derived.Shelf.Unicode.DecodeLast
import Derived.Shelf.Slices.Turned
import Derived.Shelf.Slices.In.SortNone
import Derived.Test.YtblbdgepocfngaaGreatDoorProg
namespace Go.Proofs
open Go.Shelf
def Tryz.lays190_ren : Go.Shelf.Ren := ⟨fun | 190 => 80 | 125 => 167 | 258 => 166 | 128 => 236 | 129 => 237 | 302 => 227 | 303 => 228 | 304 => 229 | 305 => 230 | 306 => 231 | 307 => 232 | 308 => 233 | 309 => 234 | 310 => 235 | 333 => 275 | 329 => 276 | 330 => 277 | 334 => 278 | 335 => 279 | 336 => 280 | 344 => 300 | n => n, fun | 31 => 57 | 9 => 9 | 3 => 3 | 46 => 229 | 0 => 0 | 51 => 282 | 53 => 231 | 4 => 4 | 183 => 276 | 182 => 275 | 131 => 126 | 5 => 5 | 218 => 310 | 222 => 313 | 228 => 328 | 229 => 329 | n => n, fun | n => n⟩
theorem Tryz.lays190 : Go.Proofs.Lays.n190 Tryz.prog Tryz.lays190_ren := {
  mixed := by kernel_rfl
  f125 := Tryz.func167.trans (congrArg some (by kernel_rfl))
  f128 := Tryz.func236.trans (congrArg some (by kernel_rfl))
  f129 := Tryz.func237.trans (congrArg some (by kernel_rfl))
  f190 := Tryz.func80.trans (congrArg some (by kernel_rfl))
  f258 := Tryz.func166.trans (congrArg some (by kernel_rfl))
  f302 := Tryz.func227.trans (congrArg some (by kernel_rfl))
  f303 := Tryz.func228.trans (congrArg some (by kernel_rfl))
  f304 := Tryz.func229.trans (congrArg some (by kernel_rfl))
  f305 := Tryz.func230.trans (congrArg some (by kernel_rfl))
  f306 := Tryz.func231.trans (congrArg some (by kernel_rfl))
  f307 := Tryz.func232.trans (congrArg some (by kernel_rfl))
  f308 := Tryz.func233.trans (congrArg some (by kernel_rfl))
  f309 := Tryz.func234.trans (congrArg some (by kernel_rfl))
  f310 := Tryz.func235.trans (congrArg some (by kernel_rfl))
  f329 := Tryz.func276.trans (congrArg some (by kernel_rfl))
  f330 := Tryz.func277.trans (congrArg some (by kernel_rfl))
  f333 := Tryz.func275.trans (congrArg some (by kernel_rfl))
  f334 := Tryz.func278.trans (congrArg some (by kernel_rfl))
  f335 := Tryz.func279.trans (congrArg some (by kernel_rfl))
  f336 := Tryz.func280.trans (congrArg some (by kernel_rfl))
  f344 := Tryz.func300.trans (congrArg some (by kernel_rfl))
  t0 := Tryz.underlying0
  a0 := Tryz.isAgg0
  z0 := Tryz.sizeOf0
  v0 := Tryz.zeroValue0
  t3 := Tryz.underlying3
  a3 := Tryz.isAgg3
  z3 := Tryz.sizeOf3
  v3 := Tryz.zeroValue3
  t4 := Tryz.underlying4
  a4 := Tryz.isAgg4
  z4 := Tryz.sizeOf4
  v4 := Tryz.zeroValue4
  t5 := Tryz.underlying5
  a5 := Tryz.isAgg5
  z5 := Tryz.sizeOf5
  v5 := Tryz.zeroValue5
  t9 := Tryz.underlying9
  a9 := Tryz.isAgg9
  z9 := Tryz.sizeOf9
  v9 := Tryz.zeroValue9
  t31 := Tryz.underlying57
  a31 := Tryz.isAgg57
  z31 := Tryz.sizeOf57
  v31 := Tryz.zeroValue57
  t46 := Tryz.underlying229
  a46 := Tryz.isAgg229
  z46 := Tryz.sizeOf229
  v46 := Tryz.zeroValue229
  t51 := Tryz.underlying282
  a51 := Tryz.isAgg282
  z51 := Tryz.sizeOf282
  v51 := Tryz.zeroValue282
  t53 := Tryz.underlying231
  a53 := Tryz.isAgg231
  z53 := Tryz.sizeOf231
  v53 := Tryz.zeroValue231
  t131 := Tryz.underlying126
  a131 := Tryz.isAgg126
  z131 := Tryz.sizeOf126
  v131 := Tryz.zeroValue126
  t182 := Tryz.underlying275
  a182 := Tryz.isAgg275
  z182 := Tryz.sizeOf275
  v182 := Tryz.zeroValue275
  t183 := Tryz.underlying276
  a183 := Tryz.isAgg276
  z183 := Tryz.sizeOf276
  v183 := Tryz.zeroValue276
  t218 := Tryz.underlying310
  a218 := Tryz.isAgg310
  z218 := Tryz.sizeOf310
  v218 := Tryz.zeroValue310
  t222 := Tryz.underlying313
  a222 := Tryz.isAgg313
  z222 := Tryz.sizeOf313
  v222 := Tryz.zeroValue313
  t228 := Tryz.underlying328
  a228 := Tryz.isAgg328
  z228 := Tryz.sizeOf328
  v228 := Tryz.zeroValue328
  t229 := Tryz.underlying329
  a229 := Tryz.isAgg329
  z229 := Tryz.sizeOf329
  v229 := Tryz.zeroValue329 }
open Go.Sort Go.RowKit in
theorem Tryz.slices_Sort_string (blk off cap : Nat) (ss : List (List UInt8)) (w : World) (hH : Holds encStr w blk off ss.toArray) (hblk : blk < w.heap.size) (hsz : ss.length < 4611686018427387904) :
    Calls Tryz.prog 80 #[.slice (some ⟨blk, off, none⟩) ss.length cap] w fun e w' =>
      e = .returned (.tuple #[]) ∧ ∃ n os, w' = grow (putRow encStr (Sort.ahead w n) blk off (ss.mergeSort fun x y => decide (x ≤ y)).toArray) os := Any.slices_Sort_string Tryz.lays190 blk off cap ss w hH hblk hsz
open Go.RowKit Go.Sort in
/-- .. and plain. (LAID: no walk: one application.) -/
theorem Tryz.slices_Sort_string_none (p : Option Addr) (cap : Nat) (w : World) :
    Calls Tryz.prog 80 #[.slice p 0 cap] w fun e w' => e = .returned (.tuple #[]) ∧ w' = w := Any.slices_Sort_string_none Tryz.lays190 p cap w

end Go.Proofs
