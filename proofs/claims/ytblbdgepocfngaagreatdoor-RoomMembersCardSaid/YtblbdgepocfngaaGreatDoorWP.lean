/-
  PrintL: What package jsonval writes of a value, as plain functions on lists of bytes. No program in sight; no condition.
  Build2: strings.Builder at this program: WriteByte, WriteString; what a call that only writes to a builder leaves (Wrote).
  Quote: The walks of jsonval's short and quote.
  Print: The walk of jsonval's print and Print: what printL says.
  Print2: The walk of jsonval's Print.
-/
import Derived.Test.YtblbdgepocfngaaGreatDoorW7
import Derived.Shelf.Strconv.Itoa4
import Derived.Test.YtblbdgepocfngaaGreatDoorWK
import Derived.Test.YtblbdgepocfngaaGreatDoorW6
import Derived.Test.YtblbdgepocfngaaGreatDoorWA
namespace Toc
open Go Go.RowKit Go.Proofs

/-- The letter that a sign is written with behind the backslash; 0: none. -/
def shortB (c : UInt8) : UInt8 :=
  if c == 34 || c == 92 then c else if c == 8 then 98 else if c == 12 then 102 else if c == 10 then 110 else if c == 13 then 114 else if c == 9 then 116 else 0
def hexB (n : Nat) : UInt8 := if n < 10 then (48 + n).toUInt8 else (87 + n).toUInt8
def quoteC (c : UInt8) : Bytes :=
  if shortB c != 0 then [92, shortB c] else if c < 32 then [92, 117, 48, 48, hexB (c.toNat / 16), hexB (c.toNat % 16)] else [c]
def quoteL (s : Bytes) : Bytes := 34 :: (s.flatMap quoteC ++ [34])

mutual
def printL : JV → Bytes
  | .null => nullS
  | .bool b => if b then trueS else falseS
  | .int n => Lib.itoa n
  | .text s => quoteL s
  | .list l => 91 :: (printI true l ++ [93])
  | .obj l => 123 :: (printM true l ++ [125])
def printI : Bool → List JV → Bytes
  | _, [] => []
  | f, x :: l => (if f then [] else [44]) ++ printL x ++ printI false l
def printM : Bool → List (Bytes × JV) → Bytes
  | _, [] => []
  | f, (k, x) :: l => (if f then [] else [44]) ++ quoteL k ++ 58 :: printL x ++ printM false l
end

theorem printI_snoc : ∀ (l : List JV) (f : Bool) (x : JV), printI f (l ++ [x]) = printI f l ++ ((if f && l.isEmpty then [] else [44]) ++ printL x)
  | [], f, x => by cases f <;> simp [printI]
  | y :: l, f, x => by
    have := printI_snoc l false x
    rw [List.cons_append, printI, this, printI]
    simp
theorem printM_snoc : ∀ (l : List (Bytes × JV)) (f : Bool) (k : Bytes) (x : JV), printM f (l ++ [(k, x)]) = printM f l ++ ((if f && l.isEmpty then [] else [44]) ++ quoteL k ++ 58 :: printL x)
  | [], f, k, x => by cases f <;> simp [printM]
  | (k', y) :: l, f, k, x => by
    have := printM_snoc l false k x
    rw [List.cons_append, printM, this, printM]
    simp

theorem printI_take {l : List JV} {i : Nat} {x : JV} (h : l[i]? = some x) : printI true (l.take (i + 1)) = printI true (l.take i) ++ ((if i = 0 then [] else [44]) ++ printL x) := by
  rw [List.take_add_one, h]
  show printI true (l.take i ++ [x]) = _
  rw [printI_snoc]
  have hl : i < l.length := (List.getElem?_eq_some_iff.1 h).1
  cases i with
  | zero => simp
  | succ i =>
    cases l with
    | nil => simp at hl
    | cons y l => simp
theorem printM_take {l : List (Bytes × JV)} {i : Nat} {k : Bytes} {x : JV} (h : l[i]? = some (k, x)) : printM true (l.take (i + 1)) = printM true (l.take i) ++ ((if i = 0 then [] else [44]) ++ quoteL k ++ 58 :: printL x) := by
  rw [List.take_add_one, h]
  show printM true (l.take i ++ [(k, x)]) = _
  rw [printM_snoc]
  have hl : i < l.length := (List.getElem?_eq_some_iff.1 h).1
  cases i with
  | zero => simp
  | succ i =>
    cases l with
    | nil => simp at hl
    | cons y l => simp

theorem printI_le (l : List JV) (f : Bool) (i : Nat) : (printI f (l.take i)).length ≤ (printI f l).length := by
  induction l generalizing f i with
  | nil => simp
  | cons x l ih =>
    cases i with
    | zero => simp [printI]
    | succ i =>
      rw [List.take_succ_cons, printI, printI]
      have := ih false i
      simp only [List.length_append]; omega
theorem printM_le (l : List (Bytes × JV)) (f : Bool) (i : Nat) : (printM f (l.take i)).length ≤ (printM f l).length := by
  induction l generalizing f i with
  | nil => simp
  | cons p l ih =>
    obtain ⟨k, x⟩ := p
    cases i with
    | zero => simp [printM]
    | succ i =>
      rw [List.take_succ_cons, printM, printM]
      have := ih false i
      simp only [List.length_append, List.length_cons]; omega

end Toc

namespace Toc
open Go Go.RowKit Go.Proofs

def lays166_ren : Go.Shelf.Ren := ⟨fun | 166 => 161 | 240 => 212 | 276 => 265 | n => n, fun | 0 => 0 | 3 => 3 | 4 => 4 | 9 => 9 | 20 => 20 | 37 => 34 | 70 => 143 | 72 => 145 | 75 => 31 | 164 => 302 | 80 => 56 | n => n, fun | n => n⟩
theorem lays166 : Go.Proofs.Lays.n166 Tryz.prog lays166_ren := {
  mixed := by kernel_rfl
  f166 := Tryz.func161.trans (congrArg some (by kernel_rfl))
  f240 := Tryz.func212.trans (congrArg some (by kernel_rfl))
  f276 := Tryz.func265.trans (congrArg some (by kernel_rfl))
  t0 := Tryz.underlying0
  a0 := Tryz.isAgg0
  z0 := Tryz.sizeOf0
  v0 := Tryz.zeroValue0
  t3 := Tryz.underlying3
  a3 := Tryz.isAgg3
  z3 := Tryz.sizeOf3
  v3 := Tryz.zeroValue3
  t4 := Tryz.underlying4
  a4 := Tryz.isAgg4
  z4 := Tryz.sizeOf4
  v4 := Tryz.zeroValue4
  t9 := Tryz.underlying9
  a9 := Tryz.isAgg9
  z9 := Tryz.sizeOf9
  v9 := Tryz.zeroValue9
  t20 := Tryz.underlying20
  a20 := Tryz.isAgg20
  z20 := Tryz.sizeOf20
  v20 := Tryz.zeroValue20
  t37 := Tryz.underlying34
  a37 := Tryz.isAgg34
  z37 := Tryz.sizeOf34
  v37 := Tryz.zeroValue34
  t70 := Tryz.underlying143
  a70 := Tryz.isAgg143
  z70 := Tryz.sizeOf143
  v70 := Tryz.zeroValue143
  t72 := Tryz.underlying145
  a72 := Tryz.isAgg145
  z72 := Tryz.sizeOf145
  v72 := Tryz.zeroValue145
  t75 := Tryz.underlying31
  a75 := Tryz.isAgg31
  z75 := Tryz.sizeOf31
  v75 := Tryz.zeroValue31
  t164 := Tryz.underlying302
  a164 := Tryz.isAgg302
  z164 := Tryz.sizeOf302
  v164 := Tryz.zeroValue302 }

theorem extra166 : Go.Proofs.Builder.Extra Tryz.prog lays166_ren := {
  sizeBuilder := by kernel_rfl
  liesBuilder := by kernel_rfl
  t5 := Tryz.underlying5
  a5 := Tryz.isAgg5
  z5 := Tryz.sizeOf5
  v5 := Tryz.zeroValue5
  infoByte := by kernel_rfl
  cellsByte := by kernel_rfl
  sizeByte := by kernel_rfl
  neB5 := by decide }

def lays167_ren : Go.Shelf.Ren := ⟨fun | 167 => 165 | 240 => 212 | 276 => 265 | n => n, fun | 0 => 0 | 4 => 4 | 5 => 5 | 9 => 9 | 20 => 20 | 37 => 34 | 70 => 143 | 72 => 145 | 75 => 31 | 164 => 302 | 80 => 56 | n => n, fun | n => n⟩
theorem lays167 : Go.Proofs.Lays.n167 Tryz.prog lays167_ren := {
  mixed := by kernel_rfl
  f167 := Tryz.func165.trans (congrArg some (by kernel_rfl))
  f240 := Tryz.func212.trans (congrArg some (by kernel_rfl))
  f276 := Tryz.func265.trans (congrArg some (by kernel_rfl))
  t0 := Tryz.underlying0
  a0 := Tryz.isAgg0
  z0 := Tryz.sizeOf0
  v0 := Tryz.zeroValue0
  t4 := Tryz.underlying4
  a4 := Tryz.isAgg4
  z4 := Tryz.sizeOf4
  v4 := Tryz.zeroValue4
  t5 := Tryz.underlying5
  a5 := Tryz.isAgg5
  z5 := Tryz.sizeOf5
  v5 := Tryz.zeroValue5
  t9 := Tryz.underlying9
  a9 := Tryz.isAgg9
  z9 := Tryz.sizeOf9
  v9 := Tryz.zeroValue9
  t20 := Tryz.underlying20
  a20 := Tryz.isAgg20
  z20 := Tryz.sizeOf20
  v20 := Tryz.zeroValue20
  t37 := Tryz.underlying34
  a37 := Tryz.isAgg34
  z37 := Tryz.sizeOf34
  v37 := Tryz.zeroValue34
  t70 := Tryz.underlying143
  a70 := Tryz.isAgg143
  z70 := Tryz.sizeOf143
  v70 := Tryz.zeroValue143
  t72 := Tryz.underlying145
  a72 := Tryz.isAgg145
  z72 := Tryz.sizeOf145
  v72 := Tryz.zeroValue145
  t75 := Tryz.underlying31
  a75 := Tryz.isAgg31
  z75 := Tryz.sizeOf31
  v75 := Tryz.zeroValue31
  t164 := Tryz.underlying302
  a164 := Tryz.isAgg302
  z164 := Tryz.sizeOf302
  v164 := Tryz.zeroValue302 }

theorem extra167 : Go.Proofs.Builder.Extra Tryz.prog lays167_ren := {
  sizeBuilder := by kernel_rfl
  liesBuilder := by kernel_rfl
  t5 := Tryz.underlying5
  a5 := Tryz.isAgg5
  z5 := Tryz.sizeOf5
  v5 := Tryz.zeroValue5
  infoByte := by kernel_rfl
  cellsByte := by kernel_rfl
  sizeByte := by kernel_rfl
  neB5 := by decide }

abbrev IsB (B b : Nat) (acc : Bytes) (w : World) : Prop := Lib.IsBuilderF 145 5 B b (Lib.byteCells acc) w

/-- A call that only writes to the builder at b: it holds these bytes now; all other blocks that are no bytes stand. -/
structure Wrote (B b : Nat) (w w' : World) (acc : Bytes) : Prop where
  is : IsB B b acc w'
  below : Below B w w'
  kept : Lib.OthersKept 5 (some b) w w'

theorem Wrote.trans {B b : Nat} {w w1 w2 : World} {a1 a2 : Bytes} (h : Wrote B b w w1 a1) (k : Wrote B b w1 w2 a2) : Wrote B b w w2 a2 := ⟨k.is, h.below.trans k.below, h.kept.trans k.kept⟩
theorem Wrote.refl {B b : Nat} {w : World} {acc : Bytes} (h : IsB B b acc w) : Wrote B b w w acc := ⟨h, Below.refl _ _, Lib.OthersKept.refl _ _ _⟩

theorem isBAt_below {B b : Nat} {p : Value} {bs : List Value} {w w' : World} (h : Lib.BuilderAtF 145 5 B b p bs w) (hb : Below w.heap.size w w') : Lib.BuilderAtF 145 5 B b p bs w' := by
  obtain ⟨hB, v, h1, h2, h3⟩ := h
  refine ⟨hB, v, (hb.block _ (blk_lt h1)).trans h1, ⟨h2.1, ?_⟩, h3⟩
  rcases h2.2 with h4 | ⟨g, cap, cur, fz, g1, g2, g3, g4⟩
  · exact .inl h4
  · exact .inr ⟨g, cap, cur, fz, g1, g2, (hb.block _ (blk_lt g3)).trans g3, g4⟩
theorem isB_below {B b : Nat} {acc : Bytes} {w w' : World} (h : IsB B b acc w) (hb : Below w.heap.size w w') : IsB B b acc w' := by
  rcases h with h | h
  · exact .inl (isBAt_below h hb)
  · exact .inr (isBAt_below h hb)
theorem isB_lt {B b : Nat} {acc : Bytes} {w : World} (h : IsB B b acc w) : B ≤ b ∧ b < w.heap.size := by
  rcases h with h | h
  · exact ⟨h.1, h.lt⟩
  · exact ⟨h.1, h.lt⟩
theorem kept_below {b : Option Nat} {w w' : World} (hb : Below w.heap.size w w') : Lib.OthersKept 5 b w w' := fun _ _ h _ _ => (hb.block _ (blk_lt h)).trans h
/-- What a call that makes new memory alone leaves. -/
theorem Wrote.step {B b : Nat} {w w1 w2 : World} {a1 : Bytes} (h : Wrote B b w w1 a1) (hb : Below w1.heap.size w1 w2) : Wrote B b w w2 a1 :=
  ⟨isB_below h.is hb, h.below.trans (hb.mono (by have := isB_lt h.is; omega)), h.kept.trans (kept_below hb)⟩

theorem writeByte_k (B b : Nat) (acc : Bytes) (c : UInt8) (w : World) (h : IsB B b acc w) (hlen : acc.length + 1 ≤ 140737488355328) :
    Calls Tryz.prog 165 #[ptrV b, .int .u8 c.toNat] w fun e w' => e = .returned .nilIface ∧ Wrote B b w w' (acc ++ [c]) := by
  refine (Any.Builder_WriteByte_k lays167 extra167 B b (Lib.byteCells acc) c.toNat w h (by rw [Lib.byteCells_length]; exact hlen) (by have := isB_lt h; omega)).mono ?_
  rintro e w' ⟨rfl, h1, h2, h3⟩
  refine ⟨rfl, ?_, h2, h3⟩
  show Lib.IsBuilderF _ _ _ _ (Lib.byteCells (acc ++ [c])) _
  rw [Lib.byteCells_append]; exact .inr h1

theorem writeString_k (B b : Nat) (acc : Bytes) (s : ByteArray) (w : World) (h : IsB B b acc w) (hlen : acc.length + s.size ≤ 140737488355328) :
    Calls Tryz.prog 161 #[ptrV b, .string s] w fun e w' => e = .returned (.tuple #[.int .i64 s.size, .nilIface]) ∧ Wrote B b w w' (acc ++ s.data.toList) := by
  refine (Any.Builder_WriteString_k lays166 extra166 B b (Lib.byteCells acc) s w h (by rw [Lib.byteCells_length]; exact hlen) (by have := isB_lt h; omega)).mono ?_
  rintro e w' ⟨rfl, h1, h2, h3⟩
  refine ⟨rfl, ?_, h2, h3⟩
  show Lib.IsBuilderF _ _ _ _ (Lib.byteCells (acc ++ s.data.toList)) _
  rw [Lib.byteCells_append]; exact .inr h1

end Toc

namespace Toc
open Go Go.RowKit Go.Proofs

set_option maxRecDepth 100000 in
set_option maxHeartbeats 4000000 in
theorem short_any (c : UInt8) (w : World) : Calls Tryz.prog 226 #[.int .u8 c.toNat] w fun e w' => e = .returned (.int .u8 (shortB c).toNat) ∧ w = w' := by
  have hne : ∀ (k : UInt8), c ≠ k → ((c.toNat : Int) ≠ (k.toNat : Int)) := fun k h e => h (UInt8.toNat_inj.1 (by exact_mod_cast e))
  by_cases h1 : c = 34
  · subst h1
    go_enter Tryz.func226, Tryz.ntmps226
    go_wp2_with fail
    go_ret
    exact ⟨rfl, rfl⟩
  by_cases h2 : c = 92
  · subst h2
    go_enter Tryz.func226, Tryz.ntmps226
    go_wp2_with fail
    go_ret
    exact ⟨rfl, rfl⟩
  by_cases h3 : c = 8
  · subst h3
    go_enter Tryz.func226, Tryz.ntmps226
    go_wp2_with fail
    go_ret
    exact ⟨rfl, rfl⟩
  by_cases h4 : c = 12
  · subst h4
    go_enter Tryz.func226, Tryz.ntmps226
    go_wp2_with fail
    go_ret
    exact ⟨rfl, rfl⟩
  by_cases h5 : c = 10
  · subst h5
    go_enter Tryz.func226, Tryz.ntmps226
    go_wp2_with fail
    go_ret
    exact ⟨rfl, rfl⟩
  by_cases h6 : c = 13
  · subst h6
    go_enter Tryz.func226, Tryz.ntmps226
    go_wp2_with fail
    go_ret
    exact ⟨rfl, rfl⟩
  by_cases h7 : c = 9
  · subst h7
    go_enter Tryz.func226, Tryz.ntmps226
    go_wp2_with fail
    go_ret
    exact ⟨rfl, rfl⟩
  have e : shortB c = 0 := by unfold shortB; simp [h1, h2, h3, h4, h5, h6, h7]
  rw [e]
  have k1 : ¬ (c.toNat : Int) = 34 := hne 34 h1
  have k2 : ¬ (c.toNat : Int) = 92 := hne 92 h2
  have k3 : ¬ (c.toNat : Int) = 8 := hne 8 h3
  have k4 : ¬ (c.toNat : Int) = 12 := hne 12 h4
  have k5 : ¬ (c.toNat : Int) = 10 := hne 10 h5
  have k6 : ¬ (c.toNat : Int) = 13 := hne 13 h6
  have k7 : ¬ (c.toNat : Int) = 9 := hne 9 h7
  clear h1 h2 h3 h4 h5 h6 h7 hne e
  have hr : 0 ≤ (c.toNat : Int) ∧ (c.toNat : Int) < 256 := ⟨by omega, by have := c.toNat_lt; omega⟩
  generalize (c.toNat : Int) = z at *
  go_enter Tryz.func226, Tryz.ntmps226
  go_wp2_with fail
  go_ret
  exact ⟨rfl, rfl⟩

theorem short_is {c d : UInt8} (hd : shortB c = d) (w : World) : Calls Tryz.prog 226 #[.int .u8 c.toNat] w fun e w' => e = .returned (.int .u8 d.toNat) ∧ w = w' := by
  rw [← hd]; exact short_any c w
theorem flat_ge (s : Bytes) : s.length ≤ (s.flatMap quoteC).length := by
  induction s with
  | nil => simp
  | cons c s ih =>
    have : 1 ≤ (quoteC c).length := by
      unfold quoteC; split
      · simp
      · split <;> simp
    simp only [List.flatMap_cons, List.length_append, List.length_cons]; omega

theorem hex_at (k : Nat) (h : k < (⟨#[48, 49, 50, 51, 52, 53, 54, 55, 56, 57, 97, 98, 99, 100, 101, 102]⟩ : ByteArray).size) : (⟨#[48, 49, 50, 51, 52, 53, 54, 55, 56, 57, 97, 98, 99, 100, 101, 102]⟩ : ByteArray)[k]'h = hexB k := by
  have : ∀ k : Fin 16, (⟨#[48, 49, 50, 51, 52, 53, 54, 55, 56, 57, 97, 98, 99, 100, 101, 102]⟩ : ByteArray)[k.val]'k.isLt = hexB k.val := by decide
  exact this ⟨k, h⟩
theorem quoteC_len (c : UInt8) : (quoteC c).length ≤ 6 := by
  unfold quoteC; split
  · simp
  · split <;> simp
theorem flat_take (s : Bytes) (i : Nat) (c : UInt8) (h : s[i]? = some c) : (s.take (i + 1)).flatMap quoteC = (s.take i).flatMap quoteC ++ quoteC c := by
  rw [List.take_add_one, h]; simp
theorem flat_take_le (s : Bytes) (i : Nat) : ((s.take i).flatMap quoteC).length ≤ (s.flatMap quoteC).length := by
  induction s generalizing i with
  | nil => simp
  | cons c s ih =>
    cases i with
    | zero => simp
    | succ i =>
      have := ih i
      simp only [List.take_succ_cons, List.flatMap_cons, List.length_append]; omega

set_option maxRecDepth 100000 in
set_option maxHeartbeats 4000000 in
theorem quote_any (B b : Nat) (acc : Bytes) (s : ByteArray) (w : World) (h : IsB B b acc w) (hlen : acc.length + (quoteL s.data.toList).length ≤ 140737488355328) :
    Calls Tryz.prog 164 #[ptrV b, .string s] w fun e w' => e = .returned (.tuple #[]) ∧ Wrote B b w w' (acc ++ quoteL s.data.toList) := by
  have hql : (quoteL s.data.toList).length = (s.data.toList.flatMap quoteC).length + 2 := by simp [quoteL]
  have H := Lib.hid h
  have HLE := Lib.hid (fun i => flat_take_le s.data.toList i)
  have hmax : s.size ≤ (s.data.toList.flatMap quoteC).length := by rw [Lib.size_eq]; exact flat_ge _
  clear h
  go_enter Tryz.func164, Tryz.ntmps164
  go_wp2_with fail
  refine (writeByte_k B b acc 34 _ H.out (by omega)).mono ?_
  rintro e w1 ⟨rfl, hw1⟩
  have HW1 := Lib.hid hw1
  clear hw1
  go_wp2_with fail
  go_loopw [4] (fun s4 wr => ∃ i : Nat, s4 = .int .i64 i ∧ i ≤ s.size ∧ Wrote B b w wr (acc ++ [34] ++ (s.data.toList.take i).flatMap quoteC)) (fun s4 _ => match s4 with | .int _ k => s.size - k.toNat | _ => 0)
  case atStart => exact ⟨0, rfl, Nat.zero_le _, by simpa using HW1.out⟩
  case round =>
    obtain ⟨i, rfl, hi, hW⟩ := hrel
    have HW := Lib.hid hW
    clear hW HW1
    have hle := HLE.out i
    by_cases hlt : i < s.size
    · obtain ⟨c, hc⟩ : ∃ c, s[i]'hlt = c := ⟨_, rfl⟩
      have hci : s.data.toList[i]? = some c := by rw [← hc]; exact List.getElem?_eq_getElem (by rw [← Lib.size_eq]; exact hlt)
      have hstep := flat_take _ _ _ hci
      have hle2 := HLE.out (i + 1)
      rw [hstep, List.length_append] at hle2
      obtain ⟨d, hd⟩ : ∃ d, shortB c = d := ⟨_, rfl⟩
      have HST := Lib.hid hstep
      have HD := Lib.hid hd
      have HC := Lib.hid hc
      clear hci hstep
      by_cases hd0 : d = 0
      · subst hd0
        have hr : 0 ≤ (c.toNat : Int) ∧ (c.toNat : Int) < 256 := ⟨by omega, by have := c.toNat_lt; omega⟩
        clear hd
        by_cases h32 : c < 32
        · have h32' : (c.toNat : Int) < 32 := by have := UInt8.lt_iff_toNat_lt.1 h32; simp at this; omega
          have hq : quoteC c = [92, 117, 48, 48, hexB (c.toNat / 16), hexB (c.toNat % 16)] := by unfold quoteC; rw [HD.out, if_neg (by decide), if_pos h32]
          rw [hq] at hle2 HST
          go_wp2_with fail
          refine (short_is HD.out _).mono ?_
          rintro e w2 ⟨rfl, rfl⟩
          go_wp2_with fail
          refine (writeString_k B b _ _ _ HW.out.is (by simp only [List.length_append, List.length_cons, List.length_nil] at hle2 ⊢; show _ + 4 ≤ _; omega)).mono ?_
          rintro e w2 ⟨rfl, hw2⟩
          have HW2 := Lib.hid (HW.out.trans hw2)
          clear hw2
          go_wp2_with fail
          rw [hex_at]
          refine (writeByte_k B b _ _ _ HW2.out.is (by simp only [List.length_append, List.length_cons, List.length_nil] at hle2 ⊢; show _ + 4 + 1 ≤ _; omega)).mono ?_
          rintro e w3 ⟨rfl, hw3⟩
          have HW3 := Lib.hid (HW2.out.trans hw3)
          clear hw3
          go_wp2_with fail
          rw [hex_at]
          refine (writeByte_k B b _ _ _ HW3.out.is (by simp only [List.length_append, List.length_cons, List.length_nil] at hle2 ⊢; show _ + 4 + 1 + 1 ≤ _; omega)).mono ?_
          rintro e w4 ⟨rfl, hw4⟩
          have HW4 := Lib.hid (HW3.out.trans hw4)
          clear hw4
          go_wp2_with fail
          go_roundw
          case rel => exact ⟨i + 1, by simp, hlt, by have := HW4.out; rw [HST.out]; simpa using this⟩
          case measure => simp; omega
        · have h32' : ¬ (c.toNat : Int) < 32 := fun h => h32 (UInt8.lt_iff_toNat_lt.2 (by simp; omega))
          have hq : quoteC c = [c] := by unfold quoteC; rw [HD.out, if_neg (by decide), if_neg h32]
          rw [hq] at hle2 HST
          go_wp2_with fail
          refine (short_is HD.out _).mono ?_
          rintro e w2 ⟨rfl, rfl⟩
          go_wp2_with fail
          refine (writeByte_k B b _ c _ HW.out.is (by simp only [List.length_append, List.length_cons, List.length_nil] at hle2 ⊢; omega)).mono ?_
          rintro e w2 ⟨rfl, hw2⟩
          have HW2 := Lib.hid (HW.out.trans hw2)
          clear hw2
          go_wp2_with fail
          go_roundw
          case rel => exact ⟨i + 1, by simp, hlt, by have := HW2.out; rw [HST.out]; simpa using this⟩
          case measure => simp; omega
      · have hx : ((d.toNat : Int) != 0) = true := by
          have : d.toNat ≠ 0 := fun e => hd0 (UInt8.toNat_inj.1 e)
          simpa using this
        have hq : quoteC c = [92, d] := by unfold quoteC; rw [hd, if_pos (by simpa using hd0)]
        rw [hq] at hle2 HST
        clear hd hd0
        go_wp2_with fail
        refine (short_is HD.out _).mono ?_
        rintro e w2 ⟨rfl, rfl⟩
        go_wp2_with fail
        refine (writeByte_k B b _ 92 _ HW.out.is (by simp only [List.length_append, List.length_cons, List.length_nil] at hle2 ⊢; omega)).mono ?_
        rintro e w2 ⟨rfl, hw2⟩
        have HW2 := Lib.hid (HW.out.trans hw2)
        clear hw2
        go_wp2_with fail
        refine (short_is HD.out _).mono ?_
        rintro e w3 ⟨rfl, rfl⟩
        go_wp2_with fail
        refine (writeByte_k B b _ d _ HW2.out.is (by simp only [List.length_append, List.length_cons, List.length_nil] at hle2 ⊢; omega)).mono ?_
        rintro e w3 ⟨rfl, hw3⟩
        have HW3 := Lib.hid (HW2.out.trans hw3)
        clear hw3
        go_wp2_with fail
        go_roundw
        case rel => exact ⟨i + 1, by simp, hlt, by have := HW3.out; rw [HST.out]; simpa using this⟩
        case measure => simp; omega
    · have hie : i = s.size := by omega
      subst hie
      go_wp2_with fail
      refine (writeByte_k B b _ 34 _ HW.out.is (by simp only [List.length_append, List.length_singleton]; omega)).mono ?_
      rintro e w2 ⟨rfl, hw2⟩
      have HW2 := Lib.hid (HW.out.trans hw2)
      clear hw2
      go_wp2_with fail
      go_end0
      have hr := HW2.out
      rw [List.take_of_length_le (by rw [Lib.size_eq]; exact Nat.le_refl _)] at hr
      exact ⟨rfl, by simpa [quoteL] using hr⟩

end Toc

namespace Toc
open Go Go.RowKit Go.Proofs

theorem row_form2 {r : Ro} {sv : Value} {n : Nat} {xs : List Value} (h : RowR r sv n xs) : ∃ oa cap, sv = .slice oa n cap ∧ n ≤ cap ∧
    (n = 0 ∨ ∃ g off arr T fr, oa = some ⟨g, off, none⟩ ∧ r g = some (.cells arr T fr) ∧ ∀ k (h : k < xs.length), arr[off + k]? = some (xs[k]'h)) := by
  rcases h with ⟨h0, h1, h2⟩ | ⟨g, off, cap, arr, T, fr, h1, h2, h3, h4⟩
  · subst h0
    exact ⟨none, 0, h2, Nat.le_refl _, .inl rfl⟩
  · exact ⟨_, cap, h1, h2, .inr ⟨g, off, arr, T, fr, rfl, h3, h4⟩⟩

theorem has_belowB {r : Ro} {w w' : World} {B : Nat} (h : Has r w) (hb : Below B w w') (hr : ∀ k o, r k = some o → k < B) : Has r w' := fun k o hk =>
  (hb.block k (hr k o hk)).trans (h k o hk)

theorem below_grow_drew (w : World) (k : Nat) (os : Array Obj) : Below w.heap.size w (Go.Sort.grow (w.drewN k) os) :=
  ⟨rfl, rfl, rfl, by simp [Go.Sort.grow], fun j hj => by
    show (w.heap ++ os)[j]? = w.heap[j]?
    rw [Array.getElem?_append_left hj]⟩

set_option maxRecDepth 100000 in
set_option maxHeartbeats 8000000 in
theorem print_any : ∀ (n : Nat) (v : JV), sizeOf v ≤ n → ∀ (r : Ro) (B b : Nat) (w : World), Glob w → Has r w → ∀ {q : Nat}, IsV r q v → JOk v → (∀ k o, r k = some o → k < B) → gTop ≤ B → ∀ (acc : Bytes), IsB B b acc w → acc.length + (printL v).length ≤ 140737488355328 →
    Calls Tryz.prog 78 #[ptrV q, ptrV b] w fun e w' => e = .returned (.tuple #[]) ∧ Wrote B b w w' (acc ++ printL v)
  | 0, v, h => by cases v <;> simp at h
  | n + 1, v, hn => by
    intro r B b w hG hh q hv hok hrB hgB acc hI hlen
    have IH := print_any n
    have HK := Lib.hid (fun (k : Int) (hk : ((kindO (some v) : Nat) : Int) = k) => kind_any r w hh (pv := ptrV q) (o := some v) ⟨q, rfl, hv⟩ hk)
    have HI := Lib.hid hI
    have HG := Lib.hid hG
    have HH := Lib.hid hh
    have HRB := Lib.hid hrB
    clear hI hG hh hrB
    cases hv with
    | null hq =>
      have HK1 := Lib.hid (HK.out 0 rfl)
      clear HK
      go_enter Tryz.func78, Tryz.ntmps78
      go_wp2_with fail
      refine HK1.out.mono ?_
      rintro e w1 ⟨rfl, rfl⟩
      go_wp2_with fail
      refine (writeString_k B b acc _ _ HI.out (by show _ + 4 ≤ _; exact hlen)).mono ?_
      rintro e w1 ⟨rfl, hw1⟩
      go_wp2_with fail
      go_end0
      exact ⟨rfl, hw1⟩
    | @bool _ x hq =>
      have HK1 := Lib.hid (HK.out 1 rfl)
      have c1 : w.cell? ⟨q, 1, none⟩ = some (.bool x) := blk_cell (HH.out _ _ hq) 1
      have e : (⟨(Lib.formatBool x).toArray⟩ : ByteArray) = mkS (printL (.bool x)) := by cases x <;> rfl
      have HE := Lib.hid e
      clear HK hq e
      go_enter Tryz.func78, Tryz.ntmps78
      go_wp2_with fail
      refine HK1.out.mono ?_
      rintro e w1 ⟨rfl, rfl⟩
      go_wp2_with fail
      refine (Tryz.strconv_FormatBool x _).mono ?_
      rintro e w1 ⟨rfl, rfl⟩
      rw [HE.out]
      generalize hss : mkS (printL (.bool x)) = ss
      go_wp2_with fail
      refine (writeString_k B b acc ss _ HI.out (by rw [← hss, size_mkS]; exact hlen)).mono ?_
      rintro e w1 ⟨rfl, hw1⟩
      rw [← hss, list_mkS] at hw1
      have HW1 := Lib.hid hw1
      clear hw1
      go_wp2_with fail
      go_end0
      exact ⟨rfl, HW1.out⟩
    | @int _ x hq =>
      have HK1 := Lib.hid (HK.out 2 rfl)
      have c2 : w.cell? ⟨q, 2, none⟩ = some (.int .i64 x) := blk_cell (HH.out _ _ hq) 2
      have hx : -9007199254740991 ≤ x ∧ x ≤ 9007199254740991 := by cases hok; exact ⟨‹_›, ‹_›⟩
      clear HK hq
      go_enter Tryz.func78, Tryz.ntmps78
      go_wp2_with fail
      refine HK1.out.mono ?_
      rintro e w1 ⟨rfl, rfl⟩
      go_wp2_with fail
      refine (Tryz.strconv_FormatInt_10 x (by omega) (by omega) _ HG.out.pow).mono ?_
      rintro e w1 ⟨rfl, k, os, rfl⟩
      have hbw : Below w.heap.size w (Go.Sort.grow (w.drewN k) os) := below_grow_drew w k os
      have HW0 := Lib.hid ((Wrote.refl HI.out).step hbw)
      clear hbw
      generalize hss : (⟨(Lib.itoa x).toArray⟩ : ByteArray) = ss
      have hsl : ss.data.toList = printL (.int x) := by rw [← hss]; simp [printL]
      have HSL := Lib.hid hsl
      clear hss hsl
      generalize Go.Sort.grow (w.drewN k) os = w1 at *
      go_wp2_with fail
      refine (writeString_k B b acc ss _ HW0.out.is (by rw [Lib.size_eq, HSL.out]; exact hlen)).mono ?_
      rintro e w2 ⟨rfl, hw1⟩
      rw [HSL.out] at hw1
      have HW1 := Lib.hid (HW0.out.trans hw1)
      clear hw1
      go_wp2_with fail
      go_end0
      exact ⟨rfl, HW1.out⟩
    | @text _ s hq =>
      have HK1 := Lib.hid (HK.out 3 rfl)
      have c3 : w.cell? ⟨q, 3, none⟩ = some (.string (mkS s)) := blk_cell (HH.out _ _ hq) 3
      generalize hss : mkS s = ss at c3
      have HSS := Lib.hid (show ss.data.toList = s by rw [← hss, list_mkS])
      clear HK hq hss
      go_enter Tryz.func78, Tryz.ntmps78
      go_wp2_with fail
      refine HK1.out.mono ?_
      rintro e w1 ⟨rfl, rfl⟩
      go_wp2_with fail
      refine (quote_any B b acc ss _ HI.out (by rw [HSS.out]; simpa [printL] using hlen)).mono ?_
      rintro e w1 ⟨rfl, hw1⟩
      rw [HSS.out] at hw1
      have HW1 := Lib.hid hw1
      clear hw1
      go_wp2_with fail
      go_end0
      exact ⟨rfl, by simpa [printL] using HW1.out⟩
    | @list _ l qs sv hq hrow hql hel =>
      have HK1 := Lib.hid (HK.out 4 rfl)
      have c4 : w.cell? ⟨q, 4, none⟩ = some sv := blk_cell (HH.out _ _ hq) 4
      obtain ⟨oa, cap, rfl, hcap, hrow2⟩ := row_form2 hrow
      obtain ⟨m, hm⟩ : ∃ m, l.length = m := ⟨_, rfl⟩
      rw [hm] at c4 hcap hrow2 hql
      have HRW := Lib.hid hrow2
      have HEL := Lib.hid hel
      have HML := Lib.hid hm
      have HQL := Lib.hid hql
      have hokl : l.length ≤ 1048576 ∧ ∀ x ∈ l, JOk x := by cases hok; exact ⟨‹_›, ‹_›⟩
      have HOK := Lib.hid hokl
      have hpl : (printL (.list l)).length = (printI true l).length + 2 := by simp [printL]
      have hmm : m ≤ 1048576 := by rw [← hm]; exact hokl.1
      have HLE := Lib.hid (fun i => printI_le l true i)
      have HSZ := Lib.hid hn
      have HQ := Lib.hid hq
      clear HK hq hrow hrow2 hel hm hql hokl hok hn
      go_enter Tryz.func78, Tryz.ntmps78
      go_wp2_with fail
      refine HK1.out.mono ?_
      rintro e w1 ⟨rfl, rfl⟩
      go_wp2_with fail
      refine (writeByte_k B b acc 91 _ HI.out (by omega)).mono ?_
      rintro e w1 ⟨rfl, hw1⟩
      have HW1 := Lib.hid hw1
      have d4 : w1.cell? ⟨q, 4, none⟩ = some (.slice oa m cap) := by
        rw [← HML.out]; exact blk_cell (has_belowB HH.out hw1.below HRB.out _ _ HQ.out) 4
      clear hw1 c4
      go_wp2_with fail
      go_loopw [49] (fun s49 wr => ∃ i : Nat, s49 = .int .i64 i ∧ i ≤ m ∧ Wrote B b w wr (acc ++ [91] ++ printI true (l.take i))) (fun s49 _ => match s49 with | .int _ k => m - k.toNat | _ => 0)
      case atStart => exact ⟨0, rfl, Nat.zero_le _, by simpa [printI] using HW1.out⟩
      case round =>
        obtain ⟨i, rfl, hi, hW⟩ := hrel
        have HW := Lib.hid hW
        clear hW HW1
        have hle := HLE.out i
        by_cases hlt : i < m
        · obtain ⟨qi, hqi⟩ : ∃ x, qs[i]? = some x := ⟨_, List.getElem?_eq_getElem (by rw [HQL.out]; exact hlt)⟩
          obtain ⟨x, hx⟩ : ∃ x, l[i]? = some x := ⟨_, List.getElem?_eq_getElem (by rw [HML.out]; exact hlt)⟩
          obtain ⟨g, off, arr, T, fr, rfl, hg, harr⟩ := HRW.out.resolve_left (by omega)
          have hhr := has_belowB HH.out HW.out.below HRB.out
          have hc : wr.cell? ⟨g, off + i, none⟩ = some (ptrV qi) := by
            rw [blk_cell (hhr _ _ hg), harr i (by rw [List.length_map, HQL.out]; exact hlt), List.getElem_map]
            rw [List.getElem?_eq_getElem (by rw [HQL.out]; exact hlt)] at hqi
            rw [Option.some.inj hqi]
          have hisv : IsV r qi x := by
            have h1 := HEL.out i (by rw [HQL.out]; exact hlt) (by rw [HML.out]; exact hlt)
            rw [List.getElem?_eq_getElem (by rw [HQL.out]; exact hlt)] at hqi
            rw [List.getElem?_eq_getElem (by rw [HML.out]; exact hlt)] at hx
            rw [← Option.some.inj hqi, ← Option.some.inj hx]; exact h1
          have hxm := List.mem_of_getElem? hx
          have hxs : sizeOf x ≤ n := by
            have h1 := List.sizeOf_lt_of_mem hxm
            have h2 := HSZ.out
            simp at h2; omega
          have htk := printI_take hx
          have hle2 := HLE.out (i + 1)
          rw [htk] at hle2
          simp only [List.length_append] at hle2
          have HTK := Lib.hid htk
          have HIS := Lib.hid hisv
          have HHR := Lib.hid hhr
          have HGR := Lib.hid (HG.out.belowTop (HW.out.below.mono hgB))
          have HXS := Lib.hid hxs
          have HXO := Lib.hid (HOK.out.2 x hxm)
          clear hqi hx hg harr hhr hisv hxm hxs htk HRW
          by_cases h0 : i = 0
          · have h0' : ¬ (0 : Int) < (i : Int) := by omega
            rw [if_pos h0] at hle2 HTK
            clear h0
            go_wp2_with fail
            refine (IH x HXS.out r B b wr HGR.out HHR.out HIS.out HXO.out HRB.out hgB _ HW.out.is (by simp only [List.length_append, List.length_singleton] at *; omega)).mono ?_
            rintro e w2 ⟨rfl, hw2⟩
            have HW2 := Lib.hid (HW.out.trans hw2)
            clear hw2
            go_wp2_with fail
            go_roundw
            case rel => exact ⟨i + 1, by simp, hlt, by have := HW2.out; rw [HTK.out]; simpa using this⟩
            case measure => simp; omega
          · have h0' : (0 : Int) < (i : Int) := by omega
            rw [if_neg h0] at hle2 HTK
            go_wp2_with fail
            refine (writeByte_k B b _ 44 _ HW.out.is (by simp only [List.length_append, List.length_singleton] at *; omega)).mono ?_
            rintro e w2 ⟨rfl, hw2⟩
            have HH2 := Lib.hid (has_belowB HHR.out hw2.below HRB.out)
            have HG2 := Lib.hid (HGR.out.belowTop (hw2.below.mono hgB))
            have HW2 := Lib.hid (HW.out.trans hw2)
            clear hw2
            go_wp2_with fail
            refine (IH x HXS.out r B b w2 HG2.out HH2.out HIS.out HXO.out HRB.out hgB _ HW2.out.is (by simp only [List.length_append, List.length_singleton] at *; omega)).mono ?_
            rintro e w3 ⟨rfl, hw3⟩
            have HW3 := Lib.hid (HW2.out.trans hw3)
            clear hw3
            go_wp2_with fail
            go_roundw
            case rel => exact ⟨i + 1, by simp, hlt, by have := HW3.out; rw [HTK.out]; simpa using this⟩
            case measure => simp; omega
        · have hie : i = m := by omega
          subst hie
          go_wp2_with fail
          refine (writeByte_k B b _ 93 _ HW.out.is (by simp only [List.length_append, List.length_singleton] at *; omega)).mono ?_
          rintro e w2 ⟨rfl, hw2⟩
          have HW2 := Lib.hid (HW.out.trans hw2)
          clear hw2
          go_wp2_with fail
          go_end0
          have hr := HW2.out
          rw [List.take_of_length_le (by rw [HML.out]; exact Nat.le_refl _)] at hr
          exact ⟨rfl, by simpa [printL] using hr⟩
    | @obj _ l qs sv hq hrow hql hel =>
      have HK1 := Lib.hid (HK.out 5 rfl)
      have c5 : w.cell? ⟨q, 5, none⟩ = some sv := blk_cell (HH.out _ _ hq) 5
      obtain ⟨oa, cap, rfl, hcap, hrow2⟩ := row_form2 hrow
      obtain ⟨m, hm⟩ : ∃ m, l.length = m := ⟨_, rfl⟩
      rw [hm] at c5 hcap hrow2 hql
      have HRW := Lib.hid hrow2
      have HEL := Lib.hid hel
      have HML := Lib.hid hm
      have HQL := Lib.hid hql
      have hokl : l.length ≤ 1048576 ∧ ∀ x ∈ l, JOk x.2 := by cases hok; exact ⟨‹_›, ‹_›⟩
      have HOK := Lib.hid hokl
      have hpl : (printL (.obj l)).length = (printM true l).length + 2 := by simp [printL]
      have hmm : m ≤ 1048576 := by rw [← hm]; exact hokl.1
      have HLE := Lib.hid (fun i => printM_le l true i)
      have HSZ := Lib.hid hn
      have HQ := Lib.hid hq
      clear HK hq hrow hrow2 hel hm hql hokl hok hn
      go_enter Tryz.func78, Tryz.ntmps78
      go_wp2_with fail
      refine HK1.out.mono ?_
      rintro e w1 ⟨rfl, rfl⟩
      go_wp2_with fail
      refine (writeByte_k B b acc 123 _ HI.out (by omega)).mono ?_
      rintro e w1 ⟨rfl, hw1⟩
      have HW1 := Lib.hid hw1
      have d5 : w1.cell? ⟨q, 5, none⟩ = some (.slice oa m cap) := by
        rw [← HML.out]; exact blk_cell (has_belowB HH.out hw1.below HRB.out _ _ HQ.out) 5
      clear hw1 c5
      go_wp2_with fail
      go_loopw [73] (fun s73 wr => ∃ i : Nat, s73 = .int .i64 i ∧ i ≤ m ∧ Wrote B b w wr (acc ++ [123] ++ printM true (l.take i))) (fun s73 _ => match s73 with | .int _ k => m - k.toNat | _ => 0)
      case atStart => exact ⟨0, rfl, Nat.zero_le _, by simpa [printM] using HW1.out⟩
      case round =>
        obtain ⟨i, rfl, hi, hW⟩ := hrel
        have HW := Lib.hid hW
        clear hW HW1
        have hle := HLE.out i
        by_cases hlt : i < m
        · obtain ⟨qi, hqi⟩ : ∃ x, qs[i]? = some x := ⟨_, List.getElem?_eq_getElem (by rw [HQL.out]; exact hlt)⟩
          obtain ⟨kx, hx⟩ : ∃ x, l[i]? = some x := ⟨_, List.getElem?_eq_getElem (by rw [HML.out]; exact hlt)⟩
          obtain ⟨ks, x⟩ := kx
          obtain ⟨g, off, arr, T, fr, rfl, hg, harr⟩ := HRW.out.resolve_left (by omega)
          have hhr := has_belowB HH.out HW.out.below HRB.out
          obtain ⟨e1, e2⟩ := memC_get l qs i _ _ hx hqi
          have hc1 : wr.cell? ⟨g, off + i * 2, none⟩ = some (.string (mkS ks)) := by
            obtain ⟨h1, h2⟩ := List.getElem?_eq_some_iff.1 e1
            rw [blk_cell (hhr _ _ hg), harr _ h1, h2]
          have hc2 : wr.cell? ⟨g, off + i * 2 + 1, none⟩ = some (ptrV qi) := by
            obtain ⟨h1, h2⟩ := List.getElem?_eq_some_iff.1 e2
            rw [blk_cell (hhr _ _ hg), Nat.add_assoc, harr _ h1, h2]
          generalize hss : mkS ks = ss at hc1
          have HSS := Lib.hid (show ss.data.toList = ks by rw [← hss, list_mkS])
          have hisv : IsV r qi x := by
            have h1 := HEL.out i (by rw [HQL.out]; exact hlt) (by rw [HML.out]; exact hlt)
            rw [List.getElem?_eq_getElem (by rw [HQL.out]; exact hlt)] at hqi
            rw [List.getElem?_eq_getElem (by rw [HML.out]; exact hlt)] at hx
            rw [Option.some.inj hqi, Option.some.inj hx] at h1; exact h1
          have hxm := List.mem_of_getElem? hx
          have hxs : sizeOf x ≤ n := by
            have h1 := List.sizeOf_lt_of_mem hxm
            have h2 := HSZ.out
            simp at h1 h2; omega
          have htk := printM_take hx
          have hle2 := HLE.out (i + 1)
          rw [htk] at hle2
          simp only [List.length_append, List.length_cons] at hle2
          have HTK := Lib.hid htk
          have HIS := Lib.hid hisv
          have HHR := Lib.hid hhr
          have HGR := Lib.hid (HG.out.belowTop (HW.out.below.mono hgB))
          have HXS := Lib.hid hxs
          have HXO := Lib.hid (HOK.out.2 _ hxm)
          clear hqi hx hg harr hhr hisv hxm hxs htk HRW e1 e2 hss
          by_cases h0 : i = 0
          · have h0' : ¬ (0 : Int) < (i : Int) := by omega
            rw [if_pos h0] at hle2 HTK
            clear h0
            go_wp2_with fail
            obtain ⟨k0, hk0⟩ : ∃ k, wr.heap.size = k := ⟨_, rfl⟩
            have hlA := Lib.hid (blk_new wr (.cells #[.string ss, ptrV qi] 119))
            have HWA := Lib.hid (HW.out.step ((Below.refl _ wr).alloc (Nat.le_refl _) (.cells #[.string ss, ptrV qi] 119)))
            have hbl := (isB_lt HW.out.is).2
            have hc7 : (wr.alloc (.cells #[.string ss, ptrV qi] 119)).cell? ⟨wr.heap.size, 0, none⟩ = some (.string ss) := blk_cell hlA.out 0
            rw [hk0] at *
            clear hk0
            refine (quote_any B b _ ss _ HWA.out.is (by rw [HSS.out]; simp only [List.length_append, List.length_cons, List.length_nil] at *; omega)).mono ?_
            rintro e w2 ⟨rfl, hw2⟩
            rw [HSS.out] at hw2
            have hl2 := Lib.hid (hw2.kept k0 _ hlA.out (by simp; omega) (by intro c fz e; cases e))
            have HW2 := Lib.hid (HWA.out.trans hw2)
            clear hw2
            go_wp2_with fail
            refine (writeByte_k B b _ 58 _ HW2.out.is (by simp only [List.length_append, List.length_cons, List.length_nil] at *; omega)).mono ?_
            rintro e w3 ⟨rfl, hw3⟩
            have hl3 := Lib.hid (hw3.kept k0 _ hl2.out (by simp; omega) (by intro c fz e; cases e))
            have HW3 := Lib.hid (HW2.out.trans hw3)
            have c7 : w3.cell? ⟨k0, 1, none⟩ = some (ptrV qi) := blk_cell hl3.out 1
            have HHn := Lib.hid (has_belowB HH.out HW3.out.below HRB.out)
            have HGn := Lib.hid (HG.out.belowTop (HW3.out.below.mono hgB))
            clear hw3
            go_wp2_with fail
            refine (IH x HXS.out r B b w3 HGn.out HHn.out HIS.out HXO.out HRB.out hgB _ HW3.out.is (by simp only [List.length_append, List.length_cons, List.length_nil] at *; omega)).mono ?_
            rintro e w4 ⟨rfl, hw4⟩
            have HW4 := Lib.hid (HW3.out.trans hw4)
            clear hw4
            go_wp2_with fail
            go_roundw
            case rel => exact ⟨i + 1, by simp, hlt, by have := HW4.out; rw [HTK.out]; simpa using this⟩
            case measure => simp; omega
          · have h0' : (0 : Int) < (i : Int) := by omega
            rw [if_neg h0] at hle2 HTK
            go_wp2_with fail
            obtain ⟨k0, hk0⟩ : ∃ k, wr.heap.size = k := ⟨_, rfl⟩
            have hlA := Lib.hid (blk_new wr (.cells #[.string ss, ptrV qi] 119))
            have HWA := Lib.hid (HW.out.step ((Below.refl _ wr).alloc (Nat.le_refl _) (.cells #[.string ss, ptrV qi] 119)))
            have hbl := (isB_lt HW.out.is).2
            have hc7 : (wr.alloc (.cells #[.string ss, ptrV qi] 119)).cell? ⟨wr.heap.size, 0, none⟩ = some (.string ss) := blk_cell hlA.out 0
            rw [hk0] at *
            clear hk0
            refine (writeByte_k B b _ 44 _ HWA.out.is (by simp only [List.length_append, List.length_cons, List.length_nil] at *; omega)).mono ?_
            rintro e w2 ⟨rfl, hw2⟩
            have hl2 := Lib.hid (hw2.kept k0 _ hlA.out (by simp; omega) (by intro c fz e; cases e))
            have HW2 := Lib.hid (HWA.out.trans hw2)
            have c6 : w2.cell? ⟨k0, 0, none⟩ = some (.string ss) := blk_cell hl2.out 0
            clear hw2
            go_wp2_with fail
            refine (quote_any B b _ ss _ HW2.out.is (by rw [HSS.out]; simp only [List.length_append, List.length_cons, List.length_nil] at *; omega)).mono ?_
            rintro e w3 ⟨rfl, hw3⟩
            rw [HSS.out] at hw3
            have hl3 := Lib.hid (hw3.kept k0 _ hl2.out (by simp; omega) (by intro c fz e; cases e))
            have HW3 := Lib.hid (HW2.out.trans hw3)
            clear hw3
            go_wp2_with fail
            refine (writeByte_k B b _ 58 _ HW3.out.is (by simp only [List.length_append, List.length_cons, List.length_nil] at *; omega)).mono ?_
            rintro e w4 ⟨rfl, hw4⟩
            have hl4 := Lib.hid (hw4.kept k0 _ hl3.out (by simp; omega) (by intro c fz e; cases e))
            have HW4 := Lib.hid (HW3.out.trans hw4)
            have c7 : w4.cell? ⟨k0, 1, none⟩ = some (ptrV qi) := blk_cell hl4.out 1
            have HHn := Lib.hid (has_belowB HH.out HW4.out.below HRB.out)
            have HGn := Lib.hid (HG.out.belowTop (HW4.out.below.mono hgB))
            clear hw4
            go_wp2_with fail
            refine (IH x HXS.out r B b w4 HGn.out HHn.out HIS.out HXO.out HRB.out hgB _ HW4.out.is (by simp only [List.length_append, List.length_cons, List.length_nil] at *; omega)).mono ?_
            rintro e w5 ⟨rfl, hw5⟩
            have HW5 := Lib.hid (HW4.out.trans hw5)
            clear hw5
            go_wp2_with fail
            go_roundw
            case rel => exact ⟨i + 1, by simp, hlt, by have := HW5.out; rw [HTK.out]; simpa using this⟩
            case measure => simp; omega
        · have hie : i = m := by omega
          subst hie
          go_wp2_with fail
          refine (writeByte_k B b _ 125 _ HW.out.is (by simp only [List.length_append, List.length_singleton] at *; omega)).mono ?_
          rintro e w2 ⟨rfl, hw2⟩
          have HW2 := Lib.hid (HW.out.trans hw2)
          clear hw2
          go_wp2_with fail
          go_end0
          have hr := HW2.out
          rw [List.take_of_length_le (by rw [HML.out]; exact Nat.le_refl _)] at hr
          exact ⟨rfl, by simpa [printL] using hr⟩

end Toc

namespace Toc
open Go Go.RowKit Go.Proofs

set_option maxRecDepth 100000 in
set_option maxHeartbeats 4000000 in
theorem vprint_any (r : Ro) (w : World) (hG : Glob w) (hh : Has r w) {q : Nat} {v : JV} (hv : IsV r q v) (hok : JOk v) (hlen : (printL v).length ≤ 140737488355328) {s : ByteArray} (hs : mkS (printL v) = s) :
    Calls Tryz.prog 31 #[ptrV q] w fun e w' => e = .returned (.string s) ∧ Below w.heap.size w w' := by
  have hI : IsB w.heap.size w.heap.size [] (w.alloc (.cells #[.pointer none, .slice none 0 0] 145)) := Lib.IsBuilderF.of (Lib.fresh_isBuilder 145 5 w)
  have hb0 := (Below.refl w.heap.size w).alloc (Nat.le_refl _) (.cells #[.pointer none, .slice none 0 0] 145)
  have HP := Lib.hid (print_any _ v (Nat.le_refl _) r w.heap.size w.heap.size _ (hG.below hb0) (hh.below hb0) hv hok (fun k o hk => blk_lt (hh k o hk)) hG.top [] hI (by simpa using hlen))
  have HB := Lib.hid hb0
  have HS := Lib.hid hs
  clear hI hb0 hG hh hv hok hlen hs
  go_enter Tryz.func31, Tryz.ntmps31
  go_wp2_with fail
  refine HP.out.mono ?_
  rintro e w1 ⟨rfl, hw⟩
  have HB1 := Lib.hid (HB.out.trans hw.below)
  have hi := hw.is
  have hbs := bstring_k w.heap.size w.heap.size (printL v) w1 (by simpa using hi) (by have := isB_lt hi; omega)
  rw [show (⟨(printL v).toArray⟩ : ByteArray) = s from HS.out] at hbs
  have HBS := Lib.hid hbs
  clear hw hi hbs
  go_wp2_with fail
  refine HBS.out.mono ?_
  rintro e w2 ⟨rfl, _, hb2, _⟩
  have HB2 := Lib.hid (HB1.out.trans hb2)
  clear hb2
  go_wp2_with fail
  go_ret
  exact ⟨rfl, HB2.out⟩

end Toc
