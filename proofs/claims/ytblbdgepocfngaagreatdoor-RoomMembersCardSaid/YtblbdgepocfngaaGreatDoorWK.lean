/-
  Num: A level out of a value (room.number).
  Num2: Levels out of a value that is no object (room.numbers): a new map without any.
  Build: strings.Builder at this program: WriteRune, String; package jsonval's right.
  Right: jsonval.right: a text's runes, each written again; a text of ASCII comes out as it went in.
  Fine: Texts that jsonval.right leaves as they are.
  Mk: Values made by hand (jsonval.OfInt, OfText, known); the law's pick and users.
-/
import Derived.Test.YtblbdgepocfngaaGreatDoorWA
import Derived.Test.YtblbdgepocfngaaGreatDoorW6
import Derived.Test.YtblbdgepocfngaaGreatDoorShelf
import Derived.Test.YtblbdgepocfngaaGreatDoorW1
import Derived.Shelf.Strings.BuilderRune
import Derived.Shelf.Strings.BuilderK
import Derived.Lib.OthersKept
import Derived.WalkKit
import Derived.BigCall
import Derived.Laws.RangeAny
import Derived.Test.YtblbdgepocfngaaGreatDoorW2
namespace Toc
open Go Go.RowKit Go.Proofs

def levelOk (o : Option JV) : Bool := kindO o == 2 && (decide (-1000 ≤ numO o) && decide (numO o ≤ 1000))

set_option maxRecDepth 100000 in
set_option maxHeartbeats 1000000 in
theorem number_any (r : Ro) (w : World) (hh : Has r w) {pv : Value} {o : Option JV} (hp : PV r pv o) {n : Int} (hn : numO o = n) {b : Bool} (hb : levelOk o = b) :
    Calls Tryz.prog 150 #[pv] w fun e w' => e = .returned (.tuple #[.int .i64 n, .bool b]) ∧ w = w' := by
  obtain ⟨k, hk⟩ : ∃ k : Int, (kindO o : Int) = k := ⟨_, rfl⟩
  have HN := Lib.hid (vnumber_any r w hh hp hn)
  have HK := Lib.hid (kind_any r w hh hp hk)
  have hbb : b = (decide (k = 2) && (decide (-1000 ≤ n) && decide (n ≤ 1000))) := by
    rw [← hb, ← hk, ← hn]; unfold levelOk
    congr 1
    rw [Bool.eq_iff_iff]; simp; omega
  have HB := Lib.hid hbb
  clear hn hb hk hbb hh hp
  go_enter Tryz.func150, Tryz.ntmps150
  go_wp2_with fail
  refine HN.out.mono ?_
  rintro e w1 ⟨rfl, rfl⟩
  go_wp2_with fail
  refine HK.out.mono ?_
  rintro e w1 ⟨rfl, rfl⟩
  by_cases h2 : k = 2
  · subst h2
    by_cases h3 : -1000 ≤ n
    · by_cases h4 : n ≤ 1000
      · have hb : b = true := by rw [HB.out]; simp [h3, h4]
        subst hb
        go_wp2_with fail
        go_ret2
        exact ⟨by simp, rfl⟩
      · have hb : b = false := by rw [HB.out]; simp [h4]
        subst hb
        go_wp2_with fail
        go_ret2
        exact ⟨by simp [h4], rfl⟩
    · have hb : b = false := by rw [HB.out]; simp [h3]
      subst hb
      go_wp2_with fail
      go_ret2
      exact ⟨rfl, rfl⟩
  · have hb : b = false := by rw [HB.out]; simp [h2]
    subst hb
    go_wp2_with fail
    go_ret2
    exact ⟨rfl, rfl⟩

end Toc

namespace Toc
open Go Go.RowKit Go.Proofs

set_option maxRecDepth 100000 in
set_option maxHeartbeats 1000000 in
theorem numbers_none (r : Ro) (w : World) (hh : Has r w) {pv : Value} {o : Option JV} (hp : PV r pv o) (h5 : kindO o ≠ 5) (fv : Value) :
    Calls Tryz.prog 151 #[pv, fv] w fun e w' => ∃ b, e = .returned (.map (some b)) ∧ w.heap.size ≤ b ∧ MapAt w' b [] ∧ Below w.heap.size w w' := by
  obtain ⟨k, hk⟩ : ∃ k : Int, (kindO o : Int) = k := ⟨_, rfl⟩
  have hk5 : k ≠ 5 := by omega
  have HH := Lib.hid hh
  have HP := Lib.hid hp
  have HKK := Lib.hid hk
  have hmm := @run_makeMap Tryz.prog
  clear hk h5 hh hp
  go_enter Tryz.func151, Tryz.ntmps151
  go_wp2_with fail
  refine (kind_any r _ (HH.out.below ((Below.refl _ w).alloc (Nat.le_refl _) _)) HP.out HKK.out).mono ?_
  rintro e w1 ⟨rfl, rfl⟩
  go_wp2_with fail
  go_ret
  exact ⟨_, rfl, Nat.le_refl _, MapAt.new w, (Below.refl _ w).alloc (Nat.le_refl _) _⟩

end Toc

namespace Toc
open Go Go.RowKit Go.Proofs

def lays168_ren : Go.Shelf.Ren := ⟨fun | 168 => 144 | 240 => 212 | 242 => 204 | 276 => 265 | 278 => 258 | n => n, fun | 0 => 0 | 3 => 3 | 4 => 4 | 5 => 5 | 9 => 9 | 20 => 20 | 21 => 21 | 37 => 34 | 46 => 229 | 51 => 282 | 70 => 143 | 72 => 145 | 75 => 31 | 164 => 302 | 80 => 56 | n => n, fun | n => n⟩
theorem lays168 : Go.Proofs.Lays.n168 Tryz.prog lays168_ren := {
  mixed := by kernel_rfl
  f168 := Tryz.func144.trans (congrArg some (by kernel_rfl))
  f240 := Tryz.func212.trans (congrArg some (by kernel_rfl))
  f242 := Tryz.func204.trans (congrArg some (by kernel_rfl))
  f276 := Tryz.func265.trans (congrArg some (by kernel_rfl))
  f278 := Tryz.func258.trans (congrArg some (by kernel_rfl))
  t0 := Tryz.underlying0
  a0 := Tryz.isAgg0
  z0 := Tryz.sizeOf0
  v0 := Tryz.zeroValue0
  t3 := Tryz.underlying3
  a3 := Tryz.isAgg3
  z3 := Tryz.sizeOf3
  v3 := Tryz.zeroValue3
  t4 := Tryz.underlying4
  a4 := Tryz.isAgg4
  z4 := Tryz.sizeOf4
  v4 := Tryz.zeroValue4
  t5 := Tryz.underlying5
  a5 := Tryz.isAgg5
  z5 := Tryz.sizeOf5
  v5 := Tryz.zeroValue5
  t9 := Tryz.underlying9
  a9 := Tryz.isAgg9
  z9 := Tryz.sizeOf9
  v9 := Tryz.zeroValue9
  t20 := Tryz.underlying20
  a20 := Tryz.isAgg20
  z20 := Tryz.sizeOf20
  v20 := Tryz.zeroValue20
  t21 := Tryz.underlying21
  a21 := Tryz.isAgg21
  z21 := Tryz.sizeOf21
  v21 := Tryz.zeroValue21
  t37 := Tryz.underlying34
  a37 := Tryz.isAgg34
  z37 := Tryz.sizeOf34
  v37 := Tryz.zeroValue34
  t46 := Tryz.underlying229
  a46 := Tryz.isAgg229
  z46 := Tryz.sizeOf229
  v46 := Tryz.zeroValue229
  t51 := Tryz.underlying282
  a51 := Tryz.isAgg282
  z51 := Tryz.sizeOf282
  v51 := Tryz.zeroValue282
  t70 := Tryz.underlying143
  a70 := Tryz.isAgg143
  z70 := Tryz.sizeOf143
  v70 := Tryz.zeroValue143
  t72 := Tryz.underlying145
  a72 := Tryz.isAgg145
  z72 := Tryz.sizeOf145
  v72 := Tryz.zeroValue145
  t75 := Tryz.underlying31
  a75 := Tryz.isAgg31
  z75 := Tryz.sizeOf31
  v75 := Tryz.zeroValue31
  t164 := Tryz.underlying302
  a164 := Tryz.isAgg302
  z164 := Tryz.sizeOf302
  v164 := Tryz.zeroValue302 }

theorem extra168 : Go.Proofs.Builder.Extra Tryz.prog lays168_ren := {
  sizeBuilder := by kernel_rfl
  liesBuilder := by kernel_rfl
  t5 := Tryz.underlying5
  a5 := Tryz.isAgg5
  z5 := Tryz.sizeOf5
  v5 := Tryz.zeroValue5
  infoByte := by kernel_rfl
  cellsByte := by kernel_rfl
  sizeByte := by kernel_rfl
  neB5 := by decide }
theorem extra169 : Go.Proofs.Builder.Extra Tryz.prog Tryz.lays169_ren := {
  sizeBuilder := by kernel_rfl
  liesBuilder := by kernel_rfl
  t5 := Tryz.underlying5
  a5 := Tryz.isAgg5
  z5 := Tryz.sizeOf5
  v5 := Tryz.zeroValue5
  infoByte := by kernel_rfl
  cellsByte := by kernel_rfl
  sizeByte := by kernel_rfl
  neB5 := by decide }

theorem writeRune_k (B b : Nat) (bs : List Value) (r : Int) (hr0 : -2147483648 ≤ r) (hr1 : r ≤ 2147483647) (w : World) (h : Lib.IsBuilderF 145 5 B b bs w) (hlen : bs.length + 4 ≤ 140737488355328) (hBw : B ≤ w.heap.size) :
    Calls Tryz.prog 144 #[.pointer (some ⟨b, 0, none⟩), .int .i32 r] w fun e w' => e = .returned (.tuple #[.int .i64 (Lib.runeCells r).length, .nilIface]) ∧ Lib.BuilderAtF 145 5 B b (.pointer (some ⟨b, 0, none⟩)) (bs ++ Lib.runeCells r) w' ∧ Below B w w' ∧ Lib.OthersKept 5 (some b) w w' :=
  Any.Builder_WriteRune_k lays168 extra168 B b bs r hr0 hr1 w h hlen hBw
theorem bstring_k (B b : Nat) (l : List UInt8) (w : World) (h : Lib.IsBuilderF 145 5 B b (Lib.byteCells l) w) (hBw : B ≤ w.heap.size) :
    Calls Tryz.prog 79 #[.pointer (some ⟨b, 0, none⟩)] w fun e w' => e = .returned (.string ⟨l.toArray⟩) ∧ Lib.IsBuilderF 145 5 B b (Lib.byteCells l) w' ∧ Below B w w' ∧ Lib.OthersKept 5 (some b) w w' :=
  Any.Builder_String_any_k Tryz.lays169 extra169 B b l w h hBw

end Toc

namespace Toc
open Go Go.RowKit Go.Proofs

def rightFrom (s : ByteArray) : Nat → Nat → List UInt8
  | 0, _ => []
  | fuel + 1, pos => if pos < s.size then Lib.encodeRune (Utf8.decode s pos).1 ++ rightFrom s fuel (pos + (Utf8.decode s pos).2) else []
def rightB (s : ByteArray) : Bytes := rightFrom s s.size 0

theorem rune_width (s : ByteArray) (pos : Nat) (h : pos < s.size) : 1 ≤ (Utf8.decode s pos).2 := by
  by_cases ha : (s[pos]'h).toNat < 128
  · rw [decode_ascii s pos h ha]
    exact Nat.le_refl _
  · exact (decode_high s pos h (by omega)).2

theorem rightFrom_end (s : ByteArray) (fuel pos : Nat) (h : ¬ pos < s.size) : rightFrom s fuel pos = [] := by
  cases fuel with
  | zero => rfl
  | succ f => simp [rightFrom, h]

set_option maxHeartbeats 4000000 in
set_option maxRecDepth 1000000 in
theorem right_any (s : ByteArray) (w : World) (hs : s.size ≤ 35184372088832) :
    Calls Tryz.prog 64 #[.string s] w fun e w' => e = .returned (.string ⟨(rightB s).toArray⟩) ∧ Below w.heap.size w w' := by
  go_enter Tryz.func64, Tryz.ntmps64
  go_wp2
  go_loopw [] (fun wr => ∃ (pos fuel : Nat) (acc : List UInt8), Lib.IsBuilderF 145 5 w.heap.size w.heap.size (Lib.byteCells acc) wr ∧ wr.heap[w.heap.size + 1]? = some (.stringIter s pos) ∧ Below w.heap.size w wr ∧ acc ++ rightFrom s fuel pos = rightB s ∧ s.size ≤ pos + fuel ∧ acc.length ≤ 4 * pos) (fun wr => s.size - wr.iterPos (w.heap.size + 1))
  case atStart =>
    refine ⟨0, s.size, [], (Lib.IsBuilderF.of (Lib.fresh_isBuilder 145 5 w)).alloc _, ?_, ((Below.refl _ w).alloc (Nat.le_refl _) _).alloc (by simp) _, rfl, by omega, by simp⟩
    have := World.iter_heap (w.alloc (.cells #[.pointer none, .slice none 0 0] 145)) s 0
    simpa using this
  case round =>
    obtain ⟨pos, fuel, acc, hI, hit, hbw, hacc, hfu, hal⟩ := hrel
    have hsz : w.heap.size + 1 < wr.heap.size := (Array.getElem?_eq_some_iff.1 hit).1
    by_cases hp : pos < s.size
    · have hnx : ∀ ty, (Instr.next (.pointer (some ⟨w.heap.size + 1, 0, none⟩)) true ty).run Tryz.prog wr = _ := fun ty => Lib.run_next_any_at wr (w.heap.size + 1) s pos ty hit hp
      have hwd := rune_width s pos hp
      have hd1 := decode_le s pos
      have hI2 := hI.iterAt hit (pos + (Utf8.decode s pos).2)
      have hit2 := Lib.iterAt_heap wr (w.heap.size + 1) s pos (pos + (Utf8.decode s pos).2) hit
      have hbw2 := Lib.below_iterAt hbw (k := w.heap.size + 1) (by omega) s (pos + (Utf8.decode s pos).2)
      have hsz2 : w.heap.size ≤ (wr.iterAt (w.heap.size + 1) s (pos + (Utf8.decode s pos).2)).heap.size := by rw [Lib.iterAt_size]; omega
      obtain ⟨f, rfl⟩ : ∃ f, fuel = f + 1 := ⟨fuel - 1, by omega⟩
      go_wp2_with (go_at_call 144; refine (writeRune_k w.heap.size w.heap.size _ _ (by omega) (by omega) _ hI2 (by rw [Lib.byteCells_length]; omega) hsz2).mono ?_)
      rintro e W1 ⟨rfl, h1, b1, k1⟩
      go_wp2
      go_roundw
      case rel =>
        have hl4 := Lib.runeCells_le ((Utf8.decode s pos).1 : Int)
        rw [Lib.runeCells_length] at hl4
        refine ⟨pos + (Utf8.decode s pos).2, f, acc ++ Lib.encodeRune (Utf8.decode s pos).1, ?_, k1.iter hit2 (by omega), hbw2.trans b1, ?_, by omega, by simp; omega⟩
        · rw [Lib.byteCells_append, Lib.byteCells_encodeRune]; exact Or.inr h1
        · rw [← hacc]; simp [rightFrom, hp]
      case measure =>
        simp only [World.iterPos, k1.iter hit2 (by omega), hit]
        omega
    · have hnx : ∀ ty, (Instr.next (.pointer (some ⟨w.heap.size + 1, 0, none⟩)) true ty).run Tryz.prog wr = _ := fun ty => Lib.run_next_end_at wr (w.heap.size + 1) s pos ty hit hp
      go_wp2_with (go_at_call 79; refine (bstring_k w.heap.size w.heap.size acc _ hI (by omega)).mono ?_)
      rintro e W1 ⟨rfl, _, b1, _⟩
      go_wp2
      go_ret
      rw [rightFrom_end s fuel pos hp, List.append_nil] at hacc
      subst hacc
      exact ⟨rfl, hbw.trans b1⟩

/-- A text of ASCII. -/
def asciiB (l : Bytes) : Bool := l.all fun c => c.toNat < 128

theorem encodeRune_ascii (c : UInt8) (h : c.toNat < 128) : Lib.encodeRune (c.toNat : Int) = [c] := by
  have : ∀ k : Fin 128, Lib.encodeRune ((UInt8.ofNat k.val).toNat : Int) = [UInt8.ofNat k.val] := by decide +kernel
  have e := this ⟨c.toNat, h⟩
  simpa using e

theorem rightFrom_ascii (s : ByteArray) (hs : asciiB s.data.toList = true) : ∀ (fuel pos : Nat), s.size ≤ pos + fuel → rightFrom s fuel pos = s.data.toList.drop pos
  | 0, pos, h => by
    rw [List.drop_eq_nil_of_le (by rw [← Lib.size_eq]; omega)]; rfl
  | fuel + 1, pos, h => by
    unfold rightFrom
    by_cases hp : pos < s.size
    · have hl : pos < s.data.toList.length := by rw [← Lib.size_eq]; exact hp
      have hc : (s[pos]'hp).toNat < 128 := by
        have h1 := List.all_eq_true.1 hs (s.data.toList[pos]'hl) (List.getElem_mem hl)
        have h2 : s.data.toList[pos]'hl = s[pos]'hp := rfl
        rw [h2] at h1
        simpa using h1
      rw [if_pos hp, decode_ascii s pos hp hc, rightFrom_ascii s hs fuel (pos + 1) (by omega)]
      show Lib.encodeRune ((s[pos]'hp).toNat : Int) ++ _ = _
      rw [encodeRune_ascii _ hc, List.drop_eq_getElem_cons hl]
      rfl
    · rw [if_neg hp, List.drop_eq_nil_of_le (by rw [← Lib.size_eq]; omega)]

theorem rightB_ascii (s : ByteArray) (hs : asciiB s.data.toList = true) : rightB s = s.data.toList := by
  unfold rightB
  rw [rightFrom_ascii s hs s.size 0 (by omega), List.drop_zero]

theorem right_ascii (s : ByteArray) (w : World) (hs : s.size ≤ 35184372088832) (ha : asciiB s.data.toList = true) :
    Calls Tryz.prog 64 #[.string s] w fun e w' => e = .returned (.string s) ∧ Below w.heap.size w w' := by
  refine (right_any s w hs).mono ?_
  rintro e w' ⟨rfl, hb⟩
  rw [rightB_ascii s ha]
  exact ⟨rfl, hb⟩

end Toc

namespace Toc
open Go Go.RowKit Go.Proofs

def FineB (l : Bytes) : Prop := rightB (mkS l) = l
theorem fine_ascii {l : Bytes} (h : asciiB l = true) : FineB l := rightB_ascii (mkS l) (by rw [list_mkS]; exact h)
/-- A member's key. -/
def KeyB (l : Bytes) : Prop := l.length ≤ 1048576 ∧ FineB l
theorem key_ascii {l : Bytes} (h1 : l.length ≤ 1000) (h2 : asciiB l = true) : KeyB l := ⟨by omega, fine_ascii h2⟩
theorem right_fine (s : ByteArray) (w : World) (hs : s.size ≤ 35184372088832) (ha : FineB s.data.toList) :
    Calls Tryz.prog 64 #[.string s] w fun e w' => e = .returned (.string s) ∧ Below w.heap.size w w' := by
  refine (right_any s w hs).mono ?_
  rintro e w' ⟨rfl, hb⟩
  unfold FineB at ha
  rw [mkS_list] at ha
  rw [ha]
  exact ⟨congrArg (fun x => Ending.returned (.string x)) (mkS_list s), hb⟩

end Toc

namespace Toc
open Go Go.RowKit Go.Proofs

set_option maxRecDepth 100000 in
set_option maxHeartbeats 1000000 in
theorem ofInt_any (n : Int) (h1 : -9007199254740991 ≤ n) (h2 : n ≤ 9007199254740991) (w : World) :
    Calls Tryz.prog 24 #[.int .i64 n] w fun e w' => e = .returned (ptrV w.heap.size) ∧ w' = w.alloc (vObj 2 false n emptyS nilS nilS) := by
  go_enter Tryz.func24, Tryz.ntmps24
  go_wp2_with fail
  go_ret
  rw [show max (-9007199254740991) (min 9007199254740991 n) = n by omega]
  exact ⟨rfl, rfl⟩

set_option maxRecDepth 100000 in
set_option maxHeartbeats 1000000 in
theorem ofText_fine (s : ByteArray) (hs : s.size ≤ 35184372088832) (ha : FineB s.data.toList) (w : World) :
    Calls Tryz.prog 23 #[.string s] w fun e w' => ∃ q, e = .returned (ptrV q) ∧ w.heap.size ≤ q ∧ w'.heap[q]? = some (vObj 3 false 0 s nilS nilS) ∧ Below w.heap.size w w' := by
  have HR := Lib.hid (right_fine s w hs ha)
  clear ha
  go_enter Tryz.func23, Tryz.ntmps23
  go_wp2_with fail
  refine HR.out.mono ?_
  rintro e w1 ⟨rfl, hb⟩
  have HB := Lib.hid hb
  clear hb
  go_wp2_with fail
  go_ret
  exact ⟨_, rfl, HB.out.size, blk_new w1 _, HB.out.alloc HB.out.size _⟩

set_option maxRecDepth 100000 in
set_option maxHeartbeats 1000000 in
theorem known_some (q : Nat) (w : World) :
    Calls Tryz.prog 63 #[ptrV q] w fun e w' => e = .returned (ptrV q) ∧ w = w' := by
  go_enter Tryz.func63, Tryz.ntmps63
  go_wp2_with fail
  go_ret
  exact ⟨rfl, rfl⟩

def pickI (c n : Int) : Int := (if c < 0 then -(c + 1) else c) % n
theorem pickI_range (c n : Int) (hn : 0 < n) : 0 ≤ pickI c n ∧ pickI c n < n :=
  ⟨Int.emod_nonneg _ (by omega), Int.emod_lt_of_pos _ hn⟩

set_option maxRecDepth 100000 in
set_option maxHeartbeats 1000000 in
theorem pick_any (c n : Int) (h1 : -9223372036854775808 ≤ c) (h2 : c ≤ 9223372036854775807) (hn : 0 < n) (hn2 : n ≤ 9223372036854775807) (w : World) :
    Calls Tryz.prog 19 #[.int .i64 c, .int .i64 n] w fun e w' => e = .returned (.int .i64 (pickI c n)) ∧ w = w' := by
  by_cases hc : c < 0
  · have hp : pickI c n = -((c + 1).tmod n) := by
      unfold pickI; rw [if_pos hc, ← Int.tmod_eq_emod_of_nonneg (by omega), Int.neg_tmod]
    rw [hp]
    clear hp
    go_enter Tryz.func19, Tryz.ntmps19
    go_wp2_with fail
    go_ret
    exact ⟨rfl, rfl⟩
  · have hp : pickI c n = c % n := by
      unfold pickI; rw [if_neg hc]
    rw [hp]
    clear hp
    go_enter Tryz.func19, Tryz.ntmps19
    go_wp2_with fail
    go_ret
    exact ⟨rfl, rfl⟩

end Toc
