/-
  Plain: Plain functions on lists of bytes that say what the names' functions of package room answer (a user's, a room's, an event's name), and lemmas on them. No program in sight; no condition.
  Base: Words that all the walks of this seat use: what a frame keeps, what the library's tables hold, small helpers. No condition.
  Heap: Words for memory: what a call leaves as it was ('Only'), what is written once and never again ('Ro', 'Has'), blocks whole. No condition.
  Json: What package jsonval reads out of bytes, as plain functions on lists of bytes: a value, or nothing. No program in sight; no condition.
-/
import GoSem.Core.Utf8
import Derived.Lib.SpaceU
import Derived.Lib.IndexMore
import Derived.Lib.Strings
import Derived.Laws.RangeAny
import Derived.Lib.PathFns
import Derived.Lib.DecodeN
import Derived.Test.YtblbdgepocfngaaGreatDoorProg
import Derived.WalkKit
import Derived.Below
import Derived.Lib.OthersKept
import Derived.Lib.Hide
import Derived.Deep.QuietTactic
import Derived.BigQuiet
import Derived.WalkLawsBesides
import Derived.WalkSpells
import Derived.Shelf.Unicode.DecodeSlow
import Derived.Lib.LaidTab
import Derived.WalkSmall
import Derived.Shelf.Strconv.Itoa4
import Derived.Lib.RuneBytes
namespace Toc
open Go

abbrev Bytes := List UInt8

/-- A text of bytes as the model's string. -/
abbrev mkS (l : Bytes) : ByteArray := ⟨l.toArray⟩

theorem mkS_list (s : ByteArray) : mkS s.data.toList = s := by cases s; rfl
theorem size_mkS (l : Bytes) : (mkS l).size = l.length := by simp [ByteArray.size]
theorem list_mkS (l : Bytes) : (mkS l).data.toList = l := rfl

theorem extract_drop (s : ByteArray) (k : Nat) : s.extract k s.size = mkS (s.data.toList.drop k) := Lib.Pa.extract_from s k
theorem extract_take (s : ByteArray) (k : Nat) : s.extract 0 k = mkS (s.data.toList.take k) := Lib.Pa.extract_upto s k

/-! ### cut at a byte -/
def cutC (c : UInt8) : Bytes → Option (Bytes × Bytes)
  | [] => none
  | x :: xs => if x = c then some ([], xs) else (cutC c xs).map fun p => (x :: p.1, p.2)

theorem occAt_one (s : Bytes) (c : UInt8) (j : Nat) : Lib.occAt s [c] j = (s[j]? == some c) := by
  unfold Lib.occAt
  cases h : s[j]? with
  | none =>
    have : s.length ≤ j := by simpa using h
    simp [List.drop_eq_nil_of_le this]
  | some x =>
    obtain ⟨hj, hx⟩ := List.getElem?_eq_some_iff.1 h
    rw [List.drop_eq_getElem_cons hj, hx]
    simp [List.isPrefixOf]
    rw [Bool.eq_iff_iff]; simp; exact eq_comm

theorem cutC_none {c : UInt8} : ∀ {s : Bytes}, cutC c s = none → ∀ j : Nat, s[j]? ≠ some c
  | [], _, j => by simp
  | x :: xs, h, j => by
    unfold cutC at h
    split at h
    · cases h
    · rename_i hx
      have h' : cutC c xs = none := by cases hc : cutC c xs <;> simp_all
      cases j with
      | zero => simpa using hx
      | succ j => simpa using cutC_none h' j

theorem cutC_some {c : UInt8} : ∀ {s a b : Bytes}, cutC c s = some (a, b) → s = a ++ c :: b ∧ c ∉ a
  | [], _, _, h => by simp [cutC] at h
  | x :: xs, a, b, h => by
    unfold cutC at h
    split at h
    · rename_i hx; simp at h; obtain ⟨rfl, rfl⟩ := h; subst hx; simp
    · rename_i hx
      cases hc : cutC c xs with
      | none => simp [hc] at h
      | some p =>
        obtain ⟨a', b'⟩ := p
        simp [hc] at h
        obtain ⟨rfl, rfl⟩ := h
        obtain ⟨e, hn⟩ := cutC_some hc
        refine ⟨by rw [e]; rfl, ?_⟩
        simp only [List.mem_cons, not_or]
        exact ⟨fun e => hx e.symm, hn⟩

theorem lib_cut (c : UInt8) (s : Bytes) : Lib.cut s [c] = match cutC c s with | some (a, b) => (a, b, true) | none => (s, [], false) := by
  unfold Lib.cut
  rcases Lib.index_spec s [c] with ⟨h1, h2⟩ | ⟨i, h1, h2, h3, h4⟩
  · have hnone : cutC c s = none := by
      cases hc : cutC c s with
      | none => rfl
      | some p =>
        obtain ⟨a, b⟩ := p
        obtain ⟨e, _⟩ := cutC_some hc
        have := h2 a.length (by rw [e]; simp)
        rw [occAt_one, e] at this
        simp at this
    rw [h1, hnone]; rfl
  · rw [h1]
    rw [occAt_one] at h3
    have h3' : s[i]? = some c := by simpa using h3
    cases hc : cutC c s with
    | none => exact absurd h3' (cutC_none hc i)
    | some p =>
      obtain ⟨a, b⟩ := p
      obtain ⟨e, hn⟩ := cutC_some hc
      have hia : i = a.length := by
        rcases Nat.lt_trichotomy i a.length with h | h | h
        · exfalso
          rw [e, List.getElem?_append_left h] at h3'
          exact hn (List.mem_of_getElem? h3')
        · exact h
        · exfalso
          have := h4 a.length h
          rw [occAt_one, e] at this
          simp at this
      subst hia
      simp only [Int.natCast_nonneg, if_true, Int.toNat_natCast, List.length_cons, List.length_nil]
      rw [e]; simp

theorem indexByte_cutC (c : UInt8) (s : Bytes) : Lib.indexByte s c = match cutC c s with | some (a, _) => (a.length : Int) | none => -1 := by
  induction s with
  | nil => rfl
  | cons x xs ih =>
    unfold Lib.indexByte cutC
    by_cases h : x = c
    · simp [h]
    · have hb : (x == c) = false := by simpa using h
      rw [if_neg h, hb, if_neg (by decide), ih]
      cases cutC c xs with
      | none => rfl
      | some p =>
        have : ((p.1.length : Int) == -1) = false := by rw [beq_eq_false_iff_ne]; omega
        simp only [Option.map_some, List.length_cons, this]
        simp

/-! ### which bytes may stand in a name -/
def lower : Bytes := [97, 98, 99, 100, 101, 102, 103, 104, 105, 106, 107, 108, 109, 110, 111, 112, 113, 114, 115, 116, 117, 118, 119, 120, 121, 122]
def upper : Bytes := [65, 66, 67, 68, 69, 70, 71, 72, 73, 74, 75, 76, 77, 78, 79, 80, 81, 82, 83, 84, 85, 86, 87, 88, 89, 90]
def digs : Bytes := [48, 49, 50, 51, 52, 53, 54, 55, 56, 57]
def inUser : Bytes := lower ++ digs ++ [46, 95, 45, 61, 47]
def inHost : Bytes := lower ++ digs ++ [46, 45]
def inName : Bytes := lower ++ upper ++ digs ++ [46, 95, 45, 61, 47, 58]

/-- One byte at least, and each among these. -/
def ofB (set s : Bytes) : Bool := !s.isEmpty && s.all fun b => set.contains b

def userB (s : Bytes) : Bool :=
  decide (s.length ≤ 60) && match cutC 58 s with
    | some (64 :: a, b) => ofB inUser a && ofB inHost b
    | _ => false
def namedB (first : UInt8) (s : Bytes) : Bool :=
  decide (s.length ≤ 60) && match s with
    | x :: r => x == first && ofB inName r
    | [] => false
def roomB (s : Bytes) : Bool := namedB 33 s
def eventB (s : Bytes) : Bool := namedB 36 s
def homeS : Bytes := [104, 111, 109, 101]
def localB (s : Bytes) : Bool :=
  userB s && match cutC 58 s with
    | some (_, b) => b == homeS
    | none => false

/-! ### dropping bytes of a set from both ends -/
def cutL (set s : Bytes) : Bytes := s.dropWhile fun b => set.contains b
def cutR (set s : Bytes) : Bytes := (s.reverse.dropWhile fun b => set.contains b).reverse

theorem cutL_nil_iff (set s : Bytes) : cutL set s = [] ↔ s.all (fun b => set.contains b) = true := by
  unfold cutL
  induction s with
  | nil => simp
  | cons x xs ih => by_cases h : set.contains x = true <;> simp_all

theorem cutR_nil_iff (set s : Bytes) : cutR set s = [] ↔ s.all (fun b => set.contains b) = true := by
  unfold cutR
  rw [List.reverse_eq_nil_iff]
  have h := cutL_nil_iff set s.reverse
  unfold cutL at h
  rw [h, List.all_reverse]

theorem of_cuts (set s : Bytes) : (cutR set (cutL set s)).isEmpty = s.all fun b => set.contains b := by
  rw [Bool.eq_iff_iff, List.isEmpty_iff, cutR_nil_iff]
  by_cases h : cutL set s = []
  · have h1 := (cutL_nil_iff set s).1 h
    rw [h, h1]; rfl
  · constructor
    · intro hall
      exfalso
      unfold cutL at h hall
      cases hd : s.dropWhile (fun b => set.contains b) with
      | nil => exact h hd
      | cons x xs =>
        have h1 := List.head?_dropWhile_not (fun b => set.contains b) s
        rw [hd] at h1 hall
        simp at h1 hall
        exact h1 hall.1
    · intro hall
      exact absurd ((cutL_nil_iff set s).2 hall) h

/-! ### runes below 128 -/
theorem decode_low (s : ByteArray) (pos : Nat) (h : pos < s.size) (hc : (Utf8.decode s pos).1 < 128) : Utf8.decode s pos = ((s[pos]'h).toNat, 1) := by
  by_cases ha : (s[pos]'h).toNat < 128
  · exact decode_ascii s pos h ha
  · have := (decode_high s pos h (by omega)).1; omega

theorem width_pos (s : ByteArray) (pos : Nat) (h : pos < s.size) : 1 ≤ (Utf8.decode s pos).2 := by
  by_cases ha : (s[pos]'h).toNat < 128
  · rw [decode_ascii s pos h ha]; exact Nat.le_refl _
  · exact (decode_high s pos h (by omega)).2

/-- Is a rune among a set's bytes? -/
def hasRune (set : Bytes) (c : Nat) : Bool := set.any fun b => b.toNat == c

theorem hasRune_ascii {set : Bytes} (hset : ∀ b ∈ set, b.toNat < 128) {c : Nat} (h : hasRune set c = true) : c < 128 := by
  unfold hasRune at h
  obtain ⟨b, hb, e⟩ := List.any_eq_true.1 h
  have := hset b hb
  simp at e; omega

theorem hasRune_byte (set : Bytes) (b : UInt8) : hasRune set b.toNat = set.contains b := by
  unfold hasRune
  rw [Bool.eq_iff_iff, List.any_eq_true, List.contains_iff_mem]
  constructor
  · rintro ⟨x, hx, e⟩
    have : x = b := UInt8.toNat_inj.1 (by simpa using e)
    exact this ▸ hx
  · intro h; exact ⟨b, h, by simp⟩

/-- The last rune of a text, where it is below 128: its last byte. -/
theorem lastRune_low (l : Bytes) (h : l ≠ []) (hc : (Lib.decodeLastL l).1 < 128) : Lib.decodeLastL l = ((l.getLast h).toNat, 1) := by
  have hlast : l.getD (l.length - 1) 0 = l.getLast h := by
    have hl : 0 < l.length := List.length_pos_iff.2 h
    rw [List.getLast_eq_getElem, List.getD_eq_getElem?_getD, List.getElem?_eq_getElem (by omega)]; rfl
  unfold Lib.decodeLastL at hc ⊢
  rw [if_neg h] at hc ⊢
  rw [hlast] at hc ⊢
  by_cases ha : (l.getLast h).toNat < 128
  · rw [if_pos ha]
  · exfalso
    rw [if_neg ha] at hc
    dsimp only at hc
    split at hc
    · rename_i hcl
      unfold Lib.decodeL at hc
      have hdl : (l.drop (Lib.lastStart l)) ≠ [] := by
        intro e
        have h0 : (Utf8.decode ⟨([] : Bytes).toArray⟩ 0).2 = 1 := by decide +kernel
        have h2 : l.length ≤ Lib.lastStart l := by simpa using e
        rw [e] at hcl
        unfold Lib.decodeL at hcl
        omega
      have hsz : 0 < (⟨(l.drop (Lib.lastStart l)).toArray⟩ : ByteArray).size := by
        have := List.length_pos_iff.2 hdl
        simpa [ByteArray.size] using this
      have hd := decode_low _ 0 hsz hc
      rw [hd] at hc
      unfold Lib.decodeL at hcl
      rw [hd] at hcl
      simp only at hcl hc
      have hlen : (l.drop (Lib.lastStart l)).length = 1 := by rw [List.length_drop]; omega
      have hx : (⟨(l.drop (Lib.lastStart l)).toArray⟩ : ByteArray)[0]'hsz = l.getLast h := by
        show (l.drop (Lib.lastStart l))[0] = _
        rw [List.getElem_drop, List.getLast_eq_getElem]
        congr 1
        omega
      rw [hx] at hc
      exact ha hc
    · simp [Utf8.runeError] at hc

theorem hasRune_take (set : ByteArray) (p c : Nat) (h : p < set.size) : hasRune (set.data.toList.take (p + 1)) c = (hasRune (set.data.toList.take p) c || ((set[p]'h).toNat == c)) := by
  unfold hasRune
  rw [List.take_succ_eq_append_getElem (by simpa using h), List.any_append]
  simp
  rfl

theorem hasRune_all (set : ByteArray) (p c : Nat) (h : set.size ≤ p) : hasRune (set.data.toList.take p) c = hasRune set.data.toList c := by
  rw [List.take_of_length_le (by simpa using h)]

theorem ne_nil_of_size {s : ByteArray} (h : 0 < s.size) : s.data.toList ≠ [] := by
  intro e
  rw [Lib.size_eq, e] at h
  exact Nat.lt_irrefl _ h

theorem nil_of_size {s : ByteArray} (h : ¬ 0 < s.size) : s = mkS [] := by
  have : s.data.toList = [] := List.eq_nil_of_length_eq_zero (by rw [← Lib.size_eq]; omega)
  rw [← mkS_list s, this]

/-! ### where cutL ends -/
theorem getElem_list (s : ByteArray) (k : Nat) (h : k < s.size) : s.data.toList[k]'(by simpa using h) = s[k]'h := by
  rw [Array.getElem_toList]; rfl

theorem cutL_skip (set l : Bytes) (pos : Nat) (h : (l.take pos).all (fun b => set.contains b) = true) : cutL set l = cutL set (l.drop pos) := by
  unfold cutL
  induction pos generalizing l with
  | zero => simp
  | succ n ih =>
    cases l with
    | nil => simp
    | cons x xs =>
      rw [List.take_succ_cons, List.all_cons, Bool.and_eq_true] at h
      rw [List.dropWhile_cons, if_pos h.1, List.drop_succ_cons]
      exact ih xs h.2

theorem cutL_end (set l : Bytes) (pos : Nat) (h : (l.take pos).all (fun b => set.contains b) = true) (hp : l.length ≤ pos) : cutL set l = [] := by
  rw [cutL_skip set l pos h, List.drop_eq_nil_of_le hp]; rfl

theorem cutL_stop (set l : Bytes) (pos : Nat) (h : (l.take pos).all (fun b => set.contains b) = true) (hp : pos < l.length) (hn : set.contains l[pos] = false) : cutL set l = l.drop pos := by
  rw [cutL_skip set l pos h, List.drop_eq_getElem_cons hp]
  unfold cutL
  rw [List.dropWhile_cons, if_neg (by rw [hn]; decide)]

/-- The rune at a place is none of an ASCII set's: nor is its first byte. -/
theorem no_byte {set : Bytes} (hset : ∀ b ∈ set, b.toNat < 128) (s : ByteArray) (pos : Nat) (h : pos < s.size) {c wd : Nat} (hd : Utf8.decode s pos = (c, wd)) (hc : hasRune set c = false) : set.contains (s[pos]'h) = false := by
  by_cases ha : (s[pos]'h).toNat < 128
  · have := decode_ascii s pos h ha
    rw [hd] at this
    simp at this
    rw [← hasRune_byte, ← this.1]; exact hc
  · cases hcon : set.contains (s[pos]'h) with
    | false => rfl
    | true => exact absurd (hset _ (List.contains_iff_mem.1 hcon)) ha

/-- The rune at a place is one of an ASCII set's: it is one byte. -/
theorem yes_byte {set : Bytes} (hset : ∀ b ∈ set, b.toNat < 128) (s : ByteArray) (pos : Nat) (h : pos < s.size) {c wd : Nat} (hd : Utf8.decode s pos = (c, wd)) (hc : hasRune set c = true) : set.contains (s[pos]'h) = true ∧ wd = 1 := by
  have hlow := hasRune_ascii hset hc
  have := decode_low s pos h (by rw [hd]; exact hlow)
  rw [hd] at this
  simp at this
  refine ⟨?_, this.2⟩
  rw [← hasRune_byte, ← this.1]; exact hc

theorem take_all_succ {set : Bytes} (s : ByteArray) (pos : Nat) (h : pos < s.size) (hp : (s.data.toList.take pos).all (fun b => set.contains b) = true) (hc : set.contains (s[pos]'h) = true) : (s.data.toList.take (pos + 1)).all (fun b => set.contains b) = true := by
  rw [List.take_succ_eq_append_getElem (by simpa using h), List.all_append, hp, getElem_list s pos h]
  simpa using hc

theorem cutL_len (set l : Bytes) : (cutL set l).length ≤ l.length := (List.dropWhile_sublist _).length_le

/-! ### where cutR ends -/
theorem cutR_skip (set l : Bytes) (x : UInt8) (h : set.contains x = true) : cutR set (l ++ [x]) = cutR set l := by
  unfold cutR
  rw [List.reverse_append, List.reverse_singleton, List.singleton_append, List.dropWhile_cons, if_pos h]

theorem cutR_stop (set l : Bytes) (x : UInt8) (h : set.contains x = false) : cutR set (l ++ [x]) = l ++ [x] := by
  unfold cutR
  rw [List.reverse_append, List.reverse_singleton, List.singleton_append, List.dropWhile_cons, if_neg (by rw [h]; decide)]
  simp

theorem lastRune_in {set : Bytes} (hset : ∀ b ∈ set, b.toNat < 128) (l : Bytes) (hl : l ≠ []) {c n : Nat} (hd : Lib.decodeLastL l = (c, n)) (hc : hasRune set c = true) :
    n = 1 ∧ cutR set l = cutR set (l.take (l.length - 1)) := by
  have hlow := hasRune_ascii hset hc
  have h1 := lastRune_low l hl (by rw [hd]; exact hlow)
  rw [hd] at h1
  simp at h1
  refine ⟨h1.2, ?_⟩
  rw [h1.1, hasRune_byte] at hc
  have e : l = l.take (l.length - 1) ++ [l.getLast hl] := by
    rw [← List.dropLast_eq_take]; exact (List.dropLast_concat_getLast hl).symm
  conv => lhs; rw [e]
  exact cutR_skip set _ _ hc

theorem lastRune_out {set : Bytes} (hset : ∀ b ∈ set, b.toNat < 128) (l : Bytes) (hl : l ≠ []) {c n : Nat} (hd : Lib.decodeLastL l = (c, n)) (hc : hasRune set c = false) :
    cutR set l = l := by
  have hlast : l.getD (l.length - 1) 0 = l.getLast hl := by
    have hl' : 0 < l.length := List.length_pos_iff.2 hl
    rw [List.getLast_eq_getElem, List.getD_eq_getElem?_getD, List.getElem?_eq_getElem (by omega)]; rfl
  have hno : set.contains (l.getLast hl) = false := by
    by_cases ha : (l.getLast hl).toNat < 128
    · unfold Lib.decodeLastL at hd
      rw [if_neg hl, hlast, if_pos ha] at hd
      simp at hd
      rw [← hasRune_byte, hd.1]; exact hc
    · cases hcon : set.contains (l.getLast hl) with
      | false => rfl
      | true => exact absurd (hset _ (List.contains_iff_mem.1 hcon)) ha
  have e : l = l.dropLast ++ [l.getLast hl] := (List.dropLast_concat_getLast hl).symm
  rw [e]
  exact cutR_stop set _ _ hno

theorem decodeLast_le (l : Bytes) (h : l ≠ []) : 1 ≤ (Lib.decodeLastL l).2 ∧ (Lib.decodeLastL l).2 ≤ l.length := by
  have hl : 0 < l.length := List.length_pos_iff.2 h
  unfold Lib.decodeLastL
  rw [if_neg h]
  split
  · exact ⟨Nat.le_refl _, hl⟩
  · dsimp only
    split
    · rename_i hcl
      refine ⟨?_, by omega⟩
      unfold Lib.decodeL
      rw [Lib.decode_at]
      unfold Lib.decodeN
      repeat' split
      all_goals simp
    · exact ⟨Nat.le_refl _, hl⟩

theorem decodeLast_rune (l : Bytes) : (Lib.decodeLastL l).1 ≤ 2147483647 := by
  unfold Lib.decodeLastL
  split
  · simp [Utf8.runeError]
  · split
    · have := (l.getD (l.length - 1) 0).toNat_lt; simp only; omega
    · dsimp only
      split
      · exact decode_le _ _
      · simp [Utf8.runeError]

/-! ### a user's name, place by place -/
theorem cutC_at {c : UInt8} : ∀ {l : Bytes} {i : Nat}, c ∉ l.take i → l[i]? = some c → cutC c l = some (l.take i, l.drop (i + 1))
  | [], i, _, h => by simp at h
  | x :: xs, 0, _, h => by
    simp at h; subst h; simp [cutC]
  | x :: xs, i + 1, hn, h => by
    simp only [List.take_succ_cons, List.mem_cons, not_or] at hn
    have ih := cutC_at (c := c) (l := xs) (i := i) hn.2 (by simpa using h)
    unfold cutC
    rw [if_neg (fun e => hn.1 e.symm), ih]
    simp

theorem cutC_no {c : UInt8} : ∀ {l : Bytes}, c ∉ l → cutC c l = none
  | [], _ => rfl
  | x :: xs, hn => by
    simp only [List.mem_cons, not_or] at hn
    unfold cutC
    rw [if_neg (fun e => hn.1 e.symm), cutC_no hn.2]
    rfl

theorem userB_long {l : Bytes} (h : 60 < l.length) : userB l = false := by
  unfold userB
  rw [decide_eq_false (by omega : ¬ l.length ≤ 60)]; rfl

theorem userB_first {l : Bytes} (h : l[0]? ≠ some 64) : userB l = false := by
  unfold userB
  rw [Bool.and_eq_false_iff]
  right
  cases hc : cutC 58 l with
  | none => rfl
  | some p =>
    obtain ⟨a, b⟩ := p
    obtain ⟨e, _⟩ := cutC_some hc
    cases a with
    | nil => rfl
    | cons z zs =>
      by_cases hz : z = 64
      · subst hz; rw [e] at h; simp at h
      · split
        · rename_i h5; simp at h5; exact absurd h5.1.1 hz
        · rfl

theorem userB_none {l : Bytes} (h : 58 ∉ l) : userB l = false := by
  unfold userB
  rw [cutC_no h]; simp

theorem userB_at {l : Bytes} {i : Nat} (h60 : l.length ≤ 60) (h0 : l[0]? = some 64) (h1 : 1 ≤ i) (hn : 58 ∉ l.take i) (hi : l[i]? = some 58) :
    userB l = (ofB inUser ((l.drop 1).take (i - 1)) && ofB inHost (l.drop (i + 1))) := by
  unfold userB
  rw [decide_eq_true h60, cutC_at hn hi, Bool.true_and]
  cases l with
  | nil => simp at h0
  | cons x xs =>
    simp at h0
    subst h0
    obtain ⟨j, rfl⟩ : ∃ j, i = j + 1 := ⟨i - 1, by omega⟩
    simp

theorem take_no_succ {c : UInt8} (s : ByteArray) (i : Nat) (h : i < s.size) (hn : c ∉ s.data.toList.take i) (hx : s[i]'h ≠ c) : c ∉ s.data.toList.take (i + 1) := by
  rw [List.take_succ_eq_append_getElem (by simpa using h), getElem_list s i h, List.mem_append, not_or]
  exact ⟨hn, by simpa using fun e => hx e.symm⟩

theorem take_one_no {c x : UInt8} {l : Bytes} (h : l[0]? = some x) (hx : x ≠ c) : c ∉ l.take 1 := by
  cases l with
  | nil => simp
  | cons y ys => simp at h; subst h; simpa using fun e => hx e.symm

theorem get?_list (s : ByteArray) (i : Nat) (h : i < s.size) : s.data.toList[i]? = some (s[i]'h) := by
  rw [List.getElem?_eq_getElem (by simpa using h), getElem_list s i h]

theorem namedB_at (s : ByteArray) (x : UInt8) (h0 : 0 < s.size) (h60 : s.size ≤ 60) (hx : s[0]'h0 = x) : namedB x s.data.toList = ofB inName (s.data.toList.drop 1) := by
  unfold namedB
  rw [decide_eq_true (by rw [← Lib.size_eq]; exact h60), Bool.true_and]
  have h := get?_list s 0 h0
  cases hl : s.data.toList with
  | nil => rw [hl] at h; simp at h
  | cons y ys => rw [hl] at h; simp at h; rw [h, hx]; simp

theorem namedB_ne (s : ByteArray) (x : UInt8) (h0 : 0 < s.size) (hx : ¬ s[0]'h0 = x) : namedB x s.data.toList = false := by
  unfold namedB
  have h := get?_list s 0 h0
  cases hl : s.data.toList with
  | nil => simp
  | cons y ys => rw [hl] at h; simp at h; rw [h]; simp [hx]

theorem namedB_short {x : UInt8} {l : Bytes} (h : l.length < 2) : namedB x l = false := by
  unfold namedB
  cases l with
  | nil => simp
  | cons y ys =>
    cases ys with
    | nil => simp [ofB]
    | cons z zs => simp only [List.length_cons] at h; omega

end Toc

namespace Toc
open Go Go.RowKit Go.Proofs

/-- The length of the string in a slot (for a loop's measure). -/
def strLen : Value → Nat | .string s => s.size | _ => 0

/-- The tables and errors of the library as their initialisers lay them. -/
structure Glob (w : World) : Prop where
  u8 : Lib.Utf8Tabs 1 2 w
  pow : Lib.TabIs Tryz.prog w "internal/strconv.uint64pow10" .u64 Lib.pow10Tab
  errS : ∃ te pe, w.cell? ⟨4, 0, none⟩ = some (.iface te pe)
  errR : ∃ te pe, w.cell? ⟨5, 0, none⟩ = some (.iface te pe)

theorem gPow : Tryz.prog.globalNamed "internal/strconv.uint64pow10" = some 3 := by kernel_rfl

/-- The listed variables lie below this block. -/
def gTop : Nat := max (max 1 2) (max 3 (max 4 5)) + 1
theorem gTop_first : 1 < gTop := by decide
theorem gTop_accept : 2 < gTop := by decide
theorem gTop_pow : 3 < gTop := by decide
theorem gTop_errS : 4 < gTop := by decide
theorem gTop_errR : 5 < gTop := by decide

theorem Glob.belowTop {w w' : World} (h : Glob w) (hb : Below gTop w w') : Glob w' := by
  obtain ⟨h1, h2⟩ := h.u8
  refine ⟨⟨fun c hc => ?_, fun c hc => ?_⟩, ?_, ?_, ?_⟩
  · exact (hb.cell (p := ⟨_, c, none⟩) gTop_first).trans (h1 c hc)
  · obtain ⟨a, b⟩ := h2 c hc
    exact ⟨(hb.cell (p := ⟨_, 2 * c, none⟩) gTop_accept).trans a, (hb.cell (p := ⟨_, 2 * c + 1, none⟩) gTop_accept).trans b⟩
  · have hp := h.pow
    unfold Lib.TabIs at hp ⊢
    exact var?_below hb gPow gTop_pow hp
  · obtain ⟨te, pe, he⟩ := h.errS
    exact ⟨te, pe, (hb.cell (p := ⟨_, 0, none⟩) gTop_errS).trans he⟩
  · obtain ⟨te, pe, he⟩ := h.errR
    exact ⟨te, pe, (hb.cell (p := ⟨_, 0, none⟩) gTop_errR).trans he⟩

theorem cell_block_lt {w : World} {b o : Nat} {v : Value} (h : w.cell? ⟨b, o, none⟩ = some v) : b < w.heap.size := by
  unfold World.cell? at h
  cases hb : w.heap[b]? with
  | none => simp [hb] at h
  | some x => exact (Array.getElem?_eq_some_iff.1 hb).1

theorem Glob.top {w : World} (h : Glob w) : gTop ≤ w.heap.size := by
  have h1 := cell_block_lt (h.u8.1 0 (by decide))
  have h2 := cell_block_lt (h.u8.2 0 (by decide)).1
  have h3 := cell_block_lt (h.pow.cell gPow 0 (by decide))
  obtain ⟨te, pe, he⟩ := h.errS
  have h4 := cell_block_lt he
  obtain ⟨te', pe', he'⟩ := h.errR
  have h5 := cell_block_lt he'
  unfold gTop
  omega

theorem Glob.below {w w' : World} (h : Glob w) (hb : Below w.heap.size w w') : Glob w' := h.belowTop (hb.mono h.top)

theorem below_trans {w w1 w2 : World} (h : Below w.heap.size w w1) (k : Below w1.heap.size w1 w2) : Below w.heap.size w w2 :=
  h.trans (k.mono h.size)

theorem ret_bool {a b : Bool} (h : a = b) : Ending.returned (.bool a) = .returned (.bool b) := by rw [h]
theorem ret_int {k : IntKind} {a b : Int} (h : a = b) : Ending.returned (.int k a) = .returned (.int k b) := by rw [h]
theorem ret_str {a b : ByteArray} (h : a = b) : Ending.returned (.string a) = .returned (.string b) := by rw [h]

/-- What a cut at a byte gives. -/
def CutIs (c : UInt8) (s a b : ByteArray) (f : Bool) : Prop :=
  match cutC c s.data.toList with
  | some (x, y) => a.data.toList = x ∧ b.data.toList = y ∧ f = true
  | none => a = s ∧ b.data.toList = [] ∧ f = false

theorem cutIs_size {c : UInt8} {s a b : ByteArray} {f : Bool} (h : CutIs c s a b f) : a.size ≤ s.size ∧ b.size ≤ s.size := by
  unfold CutIs at h
  rw [Lib.size_eq, Lib.size_eq, Lib.size_eq]
  cases hc : cutC c s.data.toList with
  | none =>
    rw [hc] at h
    obtain ⟨rfl, h2, _⟩ := h
    rw [h2]
    exact ⟨Nat.le_refl _, Nat.zero_le _⟩
  | some p =>
    obtain ⟨x, y⟩ := p
    rw [hc] at h
    obtain ⟨h1, h2, _⟩ := h
    rw [h1, h2, (cutC_some hc).1]
    simp
    omega

theorem hasPrefix_size {s : ByteArray} {p : Bytes} (h : Lib.hasPrefix s.data.toList p = true) : p.length ≤ s.size := by
  rw [Lib.size_eq]
  exact (List.isPrefixOf_iff_prefix.1 h).length_le

theorem extract_size_le (s : ByteArray) (a b : Nat) : (s.extract a b).size ≤ s.size := by
  rw [Lib.size_eq, Lib.size_eq, Lib.extract_data, List.length_take, List.length_drop]
  omega

end Toc

namespace Toc
open Go Go.RowKit

/-- Of the blocks that were there only those on the list may have turned; the streams are as they were. -/
structure Only (S : List Nat) (w w' : World) : Prop where
  os : w'.os = w.os
  tape : w'.tape = w.tape
  output : w'.output = w.output
  size : w.heap.size ≤ w'.heap.size
  block : ∀ k, k < w.heap.size → k ∉ S → w'.heap[k]? = w.heap[k]?
  /-- Of a block on the list the cell of offset 1 alone may have turned. -/
  deep : ∀ (b : Nat) (c : Array Value) (T : TypeId) (fr : Nat × Nat), w.heap[b]? = some (.cells c T fr) → ∃ c' : Array Value, w'.heap[b]? = some (.cells c' T fr) ∧ c'.size = c.size ∧ ∀ k : Nat, k ≠ 1 → c'[k]? = c[k]?

theorem heap_lt {w : World} {b : Nat} {o : Obj} (h : w.heap[b]? = some o) : b < w.heap.size := (Array.getElem?_eq_some_iff.1 h).1
theorem Only.refl (S : List Nat) (w : World) : Only S w w := ⟨rfl, rfl, rfl, Nat.le_refl _, fun _ _ _ => rfl, fun _ c _ _ h => ⟨c, h, rfl, fun _ _ => rfl⟩⟩
theorem Only.trans {S : List Nat} {a b c : World} (h : Only S a b) (k : Only S b c) : Only S a c :=
  ⟨k.os.trans h.os, k.tape.trans h.tape, k.output.trans h.output, Nat.le_trans h.size k.size, fun i hi hn => (k.block i (Nat.lt_of_lt_of_le hi h.size) hn).trans (h.block i hi hn), fun b c T fr hb => by
    obtain ⟨c1, h1, h2, h3⟩ := h.deep b c T fr hb
    obtain ⟨c2, h4, h5, h6⟩ := k.deep b c1 T fr h1
    exact ⟨c2, h4, h5.trans h2, fun i hi => (h6 i hi).trans (h3 i hi)⟩⟩
theorem Only.mono {S S' : List Nat} {w w' : World} (h : Only S w w') (hs : ∀ b ∈ S, b ∈ S') : Only S' w w' :=
  ⟨h.os, h.tape, h.output, h.size, fun k hk hn => h.block k hk (fun hm => hn (hs k hm)), h.deep⟩
/-- What lies at or beyond the end when the call begins may be left off the list. -/
theorem Only.drop {S S' : List Nat} {w w' : World} (h : Only S w w') (hs : ∀ b ∈ S, b ∈ S' ∨ w.heap.size ≤ b) : Only S' w w' :=
  ⟨h.os, h.tape, h.output, h.size, fun k hk hn => h.block k hk (fun hm => by
    rcases hs k hm with h1 | h1
    · exact hn h1
    · omega), h.deep⟩
theorem Only.drewN {S : List Nat} {a w : World} (h : Only S a w) (n : Nat) : Only S a (w.drewN n) := ⟨h.os, h.tape, h.output, h.size, h.block, h.deep⟩
theorem Only.drew {S : List Nat} {a w : World} (h : Only S a w) : Only S a w.drew := ⟨h.os, h.tape, h.output, h.size, h.block, h.deep⟩
theorem Only.same {S : List Nat} {w w' : World} (h1 : w'.os = w.os) (h2 : w'.tape = w.tape) (h3 : w'.output = w.output) (h4 : w.heap.size ≤ w'.heap.size) (h5 : ∀ k, k < w.heap.size → w'.heap[k]? = w.heap[k]?) : Only S w w' :=
  ⟨h1, h2, h3, h4, fun k hk _ => h5 k hk, fun b c _ _ hb => ⟨c, (h5 b (heap_lt hb)).trans hb, rfl, fun _ _ => rfl⟩⟩
theorem Only.alloc {S : List Nat} {a w : World} (h : Only S a w) (o : Obj) : Only S a (w.alloc o) :=
  h.trans (Only.same rfl rfl rfl (by simp) (fun k hk => Below.heap_alloc _ _ _ hk))
theorem Only.setCell {S : List Nat} {a w : World} (h : Only S a w) {p : Addr} (hp : p.block ∈ S) (u : Value) (h1 : p.off = 1 ∧ p.spot = Option.none := by exact ⟨rfl, rfl⟩) : Only S a (w.setCell p u) :=
  h.trans ⟨rfl, rfl, rfl, by simp [World.setCell], fun k _ hn => Below.heap_setCell _ _ _ _ (fun e => hn (e ▸ hp)), fun b c T fr hb => by
    by_cases hbp : b = p.block
    · subst hbp
      refine ⟨c.setIfInBounds p.off u, by simp [World.setCell, Array.getElem?_modify, hb, h1.2], by simp, fun k hk => ?_⟩
      rw [h1.1, Array.getElem?_setIfInBounds_ne (by omega)]
    · exact ⟨c, (Below.heap_setCell _ _ _ _ hbp).trans hb, rfl, fun _ _ => rfl⟩⟩
theorem Only.setNew {S : List Nat} {a w : World} (h : Only S a w) {p : Addr} (hp : a.heap.size ≤ p.block) (u : Value) : Only S a (w.setCell p u) :=
  ⟨h.os, h.tape, h.output, by simpa [World.setCell] using h.size, fun k hk hn => by rw [Below.heap_setCell _ _ _ _ (by omega)]; exact h.block k hk hn, fun b c T fr hb => by
    have := heap_lt hb
    rw [Below.heap_setCell _ _ _ _ (by omega)]; exact h.deep b c T fr hb⟩
theorem Only.of_below {w w' : World} (h : Below w.heap.size w w') (S : List Nat) : Only S w w' := Only.same h.os h.tape h.output h.size h.block
theorem Only.below {w w' : World} (h : Only [] w w') : Below w.heap.size w w' := ⟨h.os, h.tape, h.output, h.size, fun k hk => h.block k hk (by simp)⟩
theorem Only.below_of {S : List Nat} {w w' : World} {B : Nat} (h : Only S w w') (hB : B ≤ w.heap.size) (hS : ∀ b ∈ S, B ≤ b) : Below B w w' :=
  ⟨h.os, h.tape, h.output, h.size, fun k hk => h.block k (by omega) (fun hm => by have := hS k hm; omega)⟩

theorem Only.heap {S : List Nat} {w w' : World} (h : Only S w w') {b : Nat} {o : Obj} (hb : w.heap[b]? = some o) (hn : b ∉ S) : w'.heap[b]? = some o :=
  (h.block b (Array.getElem?_eq_some_iff.1 hb).1 hn).trans hb

theorem Glob.only {w w' : World} {S : List Nat} (h : Glob w) (ho : Only S w w') (hS : ∀ b ∈ S, gTop ≤ b) : Glob w' := h.belowTop (ho.below_of h.top hS)

/-! ### blocks whole -/
theorem blk_lt {w : World} {b : Nat} {o : Obj} (h : w.heap[b]? = some o) : b < w.heap.size := (Array.getElem?_eq_some_iff.1 h).1
theorem blk_cell {w : World} {b : Nat} {c : Array Value} {T : TypeId} {fr : Nat × Nat} (h : w.heap[b]? = some (.cells c T fr)) (o : Nat) : w.cell? ⟨b, o, none⟩ = c[o]? := by
  simp [World.cell?, h]
theorem blk_free {w : World} {b : Nat} {c : Array Value} {T : TypeId} (h : w.heap[b]? = some (.cells c T (0, 0))) (o : Nat) : w.frozen? ⟨b, o, none⟩ = false := by
  simp [World.frozen?, h]
theorem blk_set {w : World} {b : Nat} {c : Array Value} {T : TypeId} {fr : Nat × Nat} (h : w.heap[b]? = some (.cells c T fr)) (o : Nat) (v : Value) :
    (w.setCell ⟨b, o, none⟩ v).heap[b]? = some (.cells (c.setIfInBounds o v) T fr) := by
  simp [World.setCell, Array.getElem?_modify, h]
theorem blk_set_other {w : World} {b k : Nat} (hne : k ≠ b) (o : Nat) (v : Value) : (w.setCell ⟨b, o, none⟩ v).heap[k]? = w.heap[k]? := Below.heap_setCell _ _ _ _ hne
theorem blk_new (w : World) (o : Obj) : (w.alloc o).heap[w.heap.size]? = some o := by
  show (w.heap.push o)[w.heap.size]? = _
  simp
theorem blk_old {w : World} {b : Nat} {x : Obj} (h : w.heap[b]? = some x) (o : Obj) : (w.alloc o).heap[b]? = some x := (Below.heap_alloc w o b (blk_lt h)).trans h

/-! ### what is written once -/
abbrev Ro := Nat → Option Obj
def Has (r : Ro) (w : World) : Prop := ∀ b o, r b = some o → w.heap[b]? = some o
def Ro.le (r r' : Ro) : Prop := ∀ b o, r b = some o → r' b = some o
def Ro.or (r r' : Ro) : Ro := fun b => (r b).or (r' b)
def Ro.one (b : Nat) (o : Obj) : Ro := fun k => if k = b then some o else none
def Ro.none : Ro := fun _ => Option.none
/-- All its blocks lie from lo on. -/
def Ro.from (r : Ro) (lo : Nat) : Prop := ∀ b o, r b = some o → lo ≤ b

theorem Ro.le_refl (r : Ro) : r.le r := fun _ _ h => h
theorem Ro.le_trans {a b c : Ro} (h : a.le b) (k : b.le c) : a.le c := fun x o hx => k x o (h x o hx)
theorem Ro.le_left (r r' : Ro) : r.le (r.or r') := fun b o h => by simp [Ro.or, h]
theorem Ro.le_right {r r' : Ro} {w : World} (h : Has r w) (h' : Has r' w) : r'.le (r.or r') := fun b o hb => by
  unfold Ro.or
  cases hr : r b with
  | none => simpa using hb
  | some x => have h1 := h b x hr; have h2 := h' b o hb; rw [h1] at h2; simpa using h2
theorem Has.or {r r' : Ro} {w : World} (h : Has r w) (h' : Has r' w) : Has (r.or r') w := fun b o hb => by
  unfold Ro.or at hb
  cases hr : r b with
  | none => rw [hr] at hb; exact h' b o (by simpa using hb)
  | some x => rw [hr] at hb; simp at hb; subst hb; exact h b x hr
theorem Has.none (w : World) : Has Ro.none w := fun _ _ h => by cases h
theorem Has.one {w : World} {b : Nat} {o : Obj} (h : w.heap[b]? = some o) : Has (Ro.one b o) w := fun k x hk => by
  unfold Ro.one at hk
  split at hk
  · rename_i e; subst e; cases hk; exact h
  · cases hk
theorem Ro.one_self (b : Nat) (o : Obj) : Ro.one b o b = some o := by simp [Ro.one]
theorem Ro.from_or {r r' : Ro} {lo : Nat} (h : r.from lo) (h' : r'.from lo) : (r.or r').from lo := fun b o hb => by
  unfold Ro.or at hb
  cases hr : r b with
  | none => rw [hr] at hb; exact h' b o (by simpa using hb)
  | some x => exact h b x hr
theorem Ro.from_one {b lo : Nat} (h : lo ≤ b) (o : Obj) : (Ro.one b o).from lo := fun k x hk => by
  unfold Ro.one at hk
  split at hk
  · omega
  · cases hk
theorem Ro.from_none (lo : Nat) : Ro.none.from lo := fun _ _ h => by cases h
theorem Ro.from_mono {r : Ro} {lo lo' : Nat} (h : r.from lo) (hl : lo' ≤ lo) : r.from lo' := fun b o hb => by have := h b o hb; omega

theorem Has.only {r : Ro} {w w' : World} {S : List Nat} (h : Has r w) (ho : Only S w w') (hS : ∀ b ∈ S, r b = .none) : Has r w' := fun b o hb =>
  ho.heap (h b o hb) (fun hm => by rw [hS b hm] at hb; cases hb)
theorem Has.below {r : Ro} {w w' : World} (h : Has r w) (hb : Below w.heap.size w w') : Has r w' := h.only (Only.of_below hb []) (by simp)
theorem Has.heapEq {r : Ro} {w w' : World} (h : Has r w) (he : w'.heap = w.heap) : Has r w' := fun b o hb => by rw [he]; exact h b o hb
theorem Ro.from_ne {r : Ro} {lo b : Nat} (h : r.from lo) (hb : b < lo) : r b = .none := by
  cases hr : r b with
  | none => rfl
  | some o => have := h b o hr; omega

end Toc

namespace Toc
open Go

/-- A value. The members of an object stand by rising keys. -/
inductive JV where
  | null
  | bool (b : Bool)
  | int (n : Int)
  | text (s : Bytes)
  | list (l : List JV)
  | obj (l : List (Bytes × JV))

def isWsB (b : UInt8) : Bool := b == 32 || b == 9 || b == 10 || b == 13
def letterB (c : UInt8) : Bool := (97 ≤ c && c ≤ 122) || (65 ≤ c && c ≤ 90)
def digitB (c : UInt8) : Bool := 48 ≤ c && c ≤ 57
def numericB (c : UInt8) : Bool := digitB c || c == 43 || c == 45 || c == 46 || c == 101 || c == 69

def skipWs (l : Bytes) : Bytes := l.dropWhile isWsB
/-- What stands behind blanks: there must be something. -/
def mustL (l : Bytes) : Option Bytes := match skipWs l with | [] => none | c :: r => some (c :: r)

def nullS : Bytes := [110, 117, 108, 108]
def trueS : Bytes := [116, 114, 117, 101]
def falseS : Bytes := [102, 97, 108, 115, 101]
def wordOfL (t : Bytes) : Option JV := if t = nullS then some .null else if t = trueS then some (.bool true) else if t = falseS then some (.bool false) else none
def wordL (l : Bytes) : Option (JV × Bytes) := (wordOfL (l.takeWhile letterB)).map fun v => (v, l.dropWhile letterB)

/-- Digits as a number. -/
def decNat (l : Bytes) : Nat := l.foldl (fun n c => 10 * n + (c.toNat - 48)) 0
/-- The number that a text is: a whole one, within the limits. -/
def numOf (t : Bytes) : Option Int :=
  let m := match t with | 45 :: r => r | r => r
  if m.all digitB && !m.isEmpty && (m.length == 1 || m.headD 0 != 48) && decNat m ≤ 9007199254740991
  then some (match t with | 45 :: _ => -(decNat m : Int) | _ => (decNat m : Int))
  else none
def numberL (l : Bytes) : Option (JV × Bytes) := (numOf (l.takeWhile numericB)).map fun n => (.int n, l.dropWhile numericB)

def hexL (c : UInt8) : Option Nat :=
  if digitB c then some (c.toNat - 48)
  else if 97 ≤ c && c ≤ 102 then some (c.toNat - 87)
  else if 65 ≤ c && c ≤ 70 then some (c.toNat - 55)
  else none
/-- A backslash, a u, four digits. -/
def unitL : Bytes → Option Nat
  | 92 :: 117 :: a :: b :: c :: d :: _ =>
    match hexL a, hexL b, hexL c, hexL d with
    | some w, some x, some y, some z => some (4096 * w + 256 * x + 16 * y + z)
    | _, _, _, _ => none
  | _ => none
def escapedL (c : UInt8) : Option Nat :=
  if c == 34 || c == 92 || c == 47 then some c.toNat
  else if c == 98 then some 8 else if c == 102 then some 12 else if c == 110 then some 10 else if c == 114 then some 13 else if c == 116 then some 9
  else none
/-- The rune of the escape with which the list begins, and what stands behind it. -/
def escU (l : Bytes) : Option (Nat × Bytes) :=
  match unitL l with
  | none => none
  | some hi =>
    if 55296 ≤ hi ∧ hi ≤ 56319 then
      match unitL (l.drop 6) with
      | none => none
      | some lo => if 56320 ≤ lo ∧ lo ≤ 57343 then some (65536 + (hi - 55296) * 1024 + (lo - 56320), l.drop 12) else none
    else if 56320 ≤ hi ∧ hi ≤ 57343 then none
    else some (hi, l.drop 6)
def escL (l : Bytes) : Option (Nat × Bytes) :=
  match l with
  | _ :: x :: r => match escapedL x with | some c => some (c, r) | none => escU l
  | _ => none

/-- The rune at the head of a list, and its width. -/
def headRune (l : Bytes) : Nat × Nat := Lib.decodeN l.length (l.getD 0 0).toNat (l.getD 1 0).toNat (l.getD 2 0).toNat (l.getD 3 0).toNat

/-- A string's bytes up to its closing quote, and what stands behind that. -/
def textF : Nat → Bytes → Option (Bytes × Bytes)
  | 0, _ => none
  | _ + 1, [] => none
  | f + 1, c :: l =>
    if c == 34 then some ([], l)
    else if c < 32 then none
    else if c == 92 then
      match escL (c :: l) with
      | none => none
      | some (r, l') => (textF f l').map fun p => (Lib.encodeRune r ++ p.1, p.2)
    else
      if (headRune (c :: l)).1 == 65533 && (headRune (c :: l)).2 == 1 then none
      else (textF f ((c :: l).drop (headRune (c :: l)).2)).map fun p => ((c :: l).take (headRune (c :: l)).2 ++ p.1, p.2)
def textL (l : Bytes) : Option (Bytes × Bytes) := textF l.length l

/-- One thing by one, between commas, up to the closing bracket; m: how many more there may be. -/
def rowL {σ : Type} (one : σ → Bytes → Option (σ × Bytes)) (close : UInt8) : Nat → σ → Bytes → Option (σ × Bytes)
  | 0, _, _ => none
  | m + 1, s, l =>
    match mustL l with
    | none => none
    | some l1 =>
      match one s l1 with
      | none => none
      | some (s', l2) =>
        match mustL l2 with
        | some (c :: l4) => if c == close then some (s', l4) else if c == 44 then rowL one close m s' l4 else none
        | _ => none
def rowTop {σ : Type} (one : σ → Bytes → Option (σ × Bytes)) (close : UInt8) (s : σ) (l : Bytes) : Option (σ × Bytes) :=
  match mustL l with
  | some (c :: l2) => if c == close then some (s, l2) else rowL one close 64 s l
  | _ => none

/-- The place of a key among rising ones. -/
def keyPlace {α : Type} (ms : List (Bytes × α)) (k : Bytes) : Nat := (ms.takeWhile fun m => Lib.compareBytes m.1 k == -1).length
def keyAt {α : Type} (ms : List (Bytes × α)) (i : Nat) (k : Bytes) : Bool := match ms[i]? with | some m => m.1 == k | none => false
def putAt {α : Type} (l : List α) (i : Nat) (x : α) : List α := l.take i ++ x :: l.drop i

def memberL (one : Bytes → Option (JV × Bytes)) (ms : List (Bytes × JV)) (l : Bytes) : Option (List (Bytes × JV) × Bytes) :=
  match l with
  | 34 :: l1 =>
    match textL l1 with
    | none => none
    | some (key, l2) =>
      if keyAt ms (keyPlace ms key) key then none
      else
        match mustL l2 with
        | some (58 :: l4) =>
          match mustL l4 with
          | none => none
          | some l5 =>
            match one l5 with
            | none => none
            | some (v, l6) => some (putAt ms (keyPlace ms key) (key, v), l6)
        | _ => none
  | _ => none
def itemL (one : Bytes → Option (JV × Bytes)) (xs : List JV) (l : Bytes) : Option (List JV × Bytes) := (one l).map fun p => (xs ++ [p.1], p.2)

/-- What is no bracket. -/
def plainL (c : UInt8) (l : Bytes) : Option (JV × Bytes) :=
  if letterB c then wordL (c :: l)
  else if digitB c || c == 45 then numberL (c :: l)
  else if c == 34 then (textL l).map fun p => (.text p.1, p.2)
  else none
/-- A value, at a byte that is no blank; k: how many brackets may still be opened. -/
def valueL : Nat → Bytes → Option (JV × Bytes)
  | _, [] => none
  | 0, c :: l => if c == 91 || c == 123 then none else plainL c l
  | k + 1, c :: l =>
    if c == 91 then (rowTop (itemL (valueL k)) 93 [] l).map fun p => (.list p.1, p.2)
    else if c == 123 then (rowTop (memberL (valueL k)) 125 [] l).map fun p => (.obj p.1, p.2)
    else plainL c l

def parseL (b : Bytes) : Option JV :=
  if 4096 < b.length then none
  else
    match mustL b with
    | none => none
    | some l =>
      match valueL 10 l with
      | none => none
      | some (v, l') => if (skipWs l').isEmpty then some v else none

end Toc
