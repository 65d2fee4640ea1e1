/-
  Card: What the cards of this seat share: what a row's list of package-level variables gives a walk (Glob), and a world for the witness. My own work, after the released toy of a law over a table.
-/
import Derived.Test.YtblbdgepocfngaaGreatDoorCards
import Derived.Test.YtblbdgepocfngaaGreatDoorTie
import Derived.WalkKit
import Derived.ProofKit
import Derived.OpenShut
import Derived.Deep.DeepHandedRow
import Derived.Lib.LaidTab
import Derived.Lib.LaidU8
import Derived.Stop.LaidErr
import Derived.ChangeMaps5
import Derived.Test.YtblbdgepocfngaaGreatDoorShelf
import Derived.Test.YtblbdgepocfngaaGreatDoorW1
namespace Go.Proofs.YtblbdgepocfngaaGreatDoor
open Go.ChangeShapes Go.WideShapes Go.ChangeAt Go.RowKit Go.Lib

theorem cardOwn : ownKnob Tryz.prog.godebug = none := by kernel_rfl

/-- The list of each of the six rows. -/
noncomputable def laidAll : List (String × DataW Unit) := Rows.roomNamesRow.laid

theorem first_eq : (Rows.laid_unicode_utf8_first : DataW Unit) = firstData := by kernel_rfl
theorem accept_eq : (Rows.laid_unicode_utf8_acceptRanges : DataW Unit) = acceptData := by kernel_rfl
theorem pow_eq : (Rows.laid_internal_strconv_uint64pow10 : DataW Unit) = tabData .u64 pow10Tab := by kernel_rfl

theorem star : "*" ++ "errors.errorString" = "*errors.errorString" := by decide
theorem rowErr (u : TypeId) (h : Tryz.prog.typeName? 3 u = some "*errors.errorString") : u = 336 :=
  typeName_ptr_named (nm := "errors.errorString") (by rw [star]; kernel_rfl) (by kernel_rfl) (by decide) u (by rw [star]; exact h)

set_option maxRecDepth 100000 in
/-- WHAT THE LIST GIVES. -/
theorem glob_of_laid {W : World} (h : laidMet Tryz.prog laidAll W) : Toc.Glob W := by
  have hU : Lib.Utf8Tabs 1 2 W :=
    utf8Tabs_of_reads (ρ := Tryz.lays260_ren) Tryz.lays260 ⟨by kernel_rfl, by kernel_rfl, by kernel_rfl, by kernel_rfl, by kernel_rfl, by kernel_rfl, by kernel_rfl⟩
      (first_eq ▸ Lib.laidMet.reads h (by simp [laidAll, Rows.roomNamesRow])) (accept_eq ▸ Lib.laidMet.reads h (by simp [laidAll, Rows.roomNamesRow]))
  have h2 : laidMet Tryz.prog (("internal/strconv.uint64pow10", tabData .u64 pow10Tab) :: laidAll.drop 3) W := by
    rw [← pow_eq]
    exact h.tail.tail
  have hP : Lib.TabIs Tryz.prog W "internal/strconv.uint64pow10" .u64 pow10Tab :=
    Lib.tabIs_of_head (g := 3) (by kernel_rfl) (by kernel_rfl) Tryz.underlying326 Tryz.underlying231 (by kernel_rfl) (by kernel_rfl) h2
  obtain ⟨aR, tR, hvR, _⟩ := laid_sentinel (g := 5) h.tail.tail.tail.tail (by kernel_rfl) (by kernel_rfl) Tryz.underlying31 rowErr Tryz.underlying336 Tryz.underlying338 rfl rfl Tryz.underlying9 (by kernel_rfl) (by kernel_rfl)
  obtain ⟨aS, tS, hvS, _⟩ := laid_sentinel (g := 4) h.tail.tail.tail.tail.tail (by kernel_rfl) (by kernel_rfl) Tryz.underlying31 rowErr Tryz.underlying336 Tryz.underlying338 rfl rfl Tryz.underlying9 (by kernel_rfl) (by kernel_rfl)
  have eS : W.cell? ⟨4, 0, none⟩ = some (.iface 336 (.pointer (some aS))) := (World.var?_cell (by kernel_rfl) hvS 0).trans rfl
  have eR : W.cell? ⟨5, 0, none⟩ = some (.iface 336 (.pointer (some aR))) := (World.var?_cell (by kernel_rfl) hvR 0).trans rfl
  exact ⟨hU, hP, ⟨_, _, eS⟩, ⟨_, _, eR⟩⟩

/-- The cells of a listed datum of integers. -/
def lits1 : DataW Unit → List Value
  | .lit (.int k z) => [.int k z]
  | _ => []
def lits2 : DataW Unit → List Value
  | .agg ds => ds.flatMap lits1
  | d => lits1 d
def lits3 : DataW Unit → List Value
  | .agg ds => ds.flatMap lits2
  | d => lits2 d

/-- A WORLD FOR THE WITNESS. -/
noncomputable def laidWorld (os : Os) : World :=
  let N := (World.settled Tryz.prog os).heap.size
  let w0 := World.holding Tryz.prog os ⟨#[
    .cells #[.string ⟨#[118, 97, 108, 117, 101, 32, 111, 117, 116, 32, 111, 102, 32, 114, 97, 110, 103, 101]⟩] 338,
    .cells #[.string ⟨#[105, 110, 118, 97, 108, 105, 100, 32, 115, 121, 110, 116, 97, 120]⟩] 338], #[], []⟩
  let put (h : Array Obj) (g : Nat) (cs : Array Value) : Array Obj := h.modify g fun
    | .cells _ t frozen => .cells cs t frozen
    | o => o
  let h0 := put (put w0.heap 5 #[.iface 336 (.pointer (some ⟨N, 0, none⟩))]) 4 #[.iface 336 (.pointer (some ⟨N + 1, 0, none⟩))]
  let h1 := put (put (put h0 6 (lits3 Rows.laid_math_bits_deBruijn32tab).toArray) 7 (lits3 Rows.laid_math_bits_deBruijn64tab).toArray) 3 (lits3 Rows.laid_internal_strconv_uint64pow10).toArray
  let h2 := put (put h1 2 (lits3 Rows.laid_unicode_utf8_acceptRanges).toArray) 1 (lits3 Rows.laid_unicode_utf8_first).toArray
  { w0 with heap := h2 }

set_option maxRecDepth 1000000 in
theorem laid_met (os : Os) (args : Array Value) : laidMet Tryz.prog laidAll ((laidWorld os).forCall (fun _ _ => 0) ⟨#[], args, []⟩).memory :=
  laidMet_of_run' 10 (by kernel_rfl) (by kernel_rfl)

/-- The reach of a string. -/
theorem reach_string {H : Type} {ts : List TypeId} {ds : List (DataW H)} {s : ByteArray} {j : Nat} (hj : ds[j]? = some (.lit (.string s.data.toList))) (hl : j < ts.length)
    (h : (DataW.weightsEach Tryz.prog ts ds).all (· ≤ reachBytes) = true) : s.size ≤ 140737488351232 := by
  induction ds generalizing ts j with
  | nil => simp at hj
  | cons d r ih =>
    cases ts with
    | nil => simp at hl
    | cons t ts =>
      rw [DataW.weightsEach, List.all_append, Bool.and_eq_true] at h
      cases j with
      | zero =>
        obtain rfl := Option.some.inj hj
        have h2 := List.all_eq_true.1 h.1 s.data.toList.length (by simp [DataW.weights])
        have h3 : s.data.toList.length ≤ reachBytes := of_decide_eq_true h2
        rw [Lib.size_eq]
        exact h3
      | succ j => exact ih (j := j) (by simpa using hj) (by simpa using hl) h.2

end Go.Proofs.YtblbdgepocfngaaGreatDoor
