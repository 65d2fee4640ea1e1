/-
  PrintInj: Two values that are written alike are one. No program in sight; no condition.
  ReadsL: What a document that is put together out of plain parts is read as. No program in sight; no condition.
-/
import Derived.Test.YtblbdgepocfngaaGreatDoorWP
import Derived.Test.YtblbdgepocfngaaGreatDoorWA
namespace Toc
open Go Go.RowKit Go.Proofs

theorem all8 (p : UInt8 → Bool) (h : ((List.range 256).all fun n => p (UInt8.ofNat n)) = true) (c : UInt8) : p c = true := by
  have h1 := List.all_eq_true.1 h c.toNat (List.mem_range.2 c.toNat_lt)
  simpa using h1

/-- No digit stands ahead. -/
def Del (r : Bytes) : Prop := ∀ c t, r = c :: t → digitB c = false

theorem decNat_back (l : Bytes) (c : UInt8) : decNat (l ++ [c]) = 10 * decNat l + (c.toNat - 48) := by unfold decNat; rw [List.foldl_append]; rfl
theorem dig_val : ∀ d : Nat, d < 10 → digitB (UInt8.ofNat (48 + d)) = true ∧ (UInt8.ofNat (48 + d)).toNat - 48 = d := by decide
theorem decNat_digits (u : Nat) : decNat (Lib.decDigits u) = u ∧ ((Lib.decDigits u).all digitB) = true ∧ Lib.decDigits u ≠ [] := by
  induction u using Nat.strongRecOn with
  | _ u ih =>
    by_cases h : u < 10
    · rw [Lib.decDigits, dif_pos h]
      obtain ⟨h1, h2⟩ := dig_val u h
      refine ⟨?_, ?_, by simp⟩
      · show 10 * 0 + _ = _
        rw [h2]; omega
      · simpa using h1
    · rw [Lib.decDigits, dif_neg h]
      obtain ⟨i1, i2, i3⟩ := ih (u / 10) (by omega)
      obtain ⟨h1, h2⟩ := dig_val (u % 10) (by omega)
      refine ⟨?_, ?_, by simp⟩
      · rw [decNat_back, i1, h2]; omega
      · rw [List.all_append, i2]; simpa using h1
theorem take_digits {l r : Bytes} (hl : l.all digitB = true) (hr : Del r) : (l ++ r).takeWhile digitB = l := by
  induction l with
  | nil =>
    cases r with
    | nil => rfl
    | cons c t =>
      have := hr c t rfl
      simp [this]
  | cons c l ih =>
    rw [List.all_cons, Bool.and_eq_true] at hl
    rw [List.cons_append, List.takeWhile_cons, if_pos hl.1, ih hl.2]
theorem digits_inj {u u' : Nat} {r r' : Bytes} (hr : Del r) (hr' : Del r') (h : Lib.decDigits u ++ r = Lib.decDigits u' ++ r') : u = u' ∧ r = r' := by
  have h1 := congrArg (List.takeWhile digitB) h
  rw [take_digits (decNat_digits u).2.1 hr, take_digits (decNat_digits u').2.1 hr'] at h1
  have h2 := congrArg decNat h1
  rw [(decNat_digits u).1, (decNat_digits u').1] at h2
  rw [h1] at h
  exact ⟨h2, List.append_cancel_left h⟩
theorem digits_head (u : Nat) : ∃ c t, Lib.decDigits u = c :: t ∧ digitB c = true := by
  obtain ⟨_, h2, h3⟩ := decNat_digits u
  cases h : Lib.decDigits u with
  | nil => exact absurd h h3
  | cons c t =>
    rw [h, List.all_cons, Bool.and_eq_true] at h2
    exact ⟨c, t, rfl, h2.1⟩
theorem itoa_inj {n m : Int} {r r' : Bytes} (hr : Del r) (hr' : Del r') (h : Lib.itoa n ++ r = Lib.itoa m ++ r') : n = m ∧ r = r' := by
  unfold Lib.itoa at h
  split at h
  · split at h
    · rw [List.cons_append, List.cons_append] at h
      obtain ⟨h1, h2⟩ := digits_inj hr hr' (List.cons.inj h).2
      exact ⟨by omega, h2⟩
    · obtain ⟨c, t, e, hc⟩ := digits_head m.toNat
      rw [e, List.cons_append, List.cons_append] at h
      rw [← (List.cons.inj h).1] at hc
      exact absurd hc (by decide)
  · split at h
    · obtain ⟨c, t, e, hc⟩ := digits_head n.toNat
      rw [e, List.cons_append, List.cons_append] at h
      rw [(List.cons.inj h).1] at hc
      exact absurd hc (by decide)
    · obtain ⟨h1, h2⟩ := digits_inj hr hr' h
      exact ⟨by omega, h2⟩

/-- A sign read again. -/
def unshort (x : UInt8) : UInt8 := if x == 98 then 8 else if x == 102 then 12 else if x == 110 then 10 else if x == 114 then 13 else if x == 116 then 9 else x
def unhex (c : UInt8) : Nat := if c < 58 then c.toNat - 48 else c.toNat - 87
def unq : Bytes → Option (UInt8 × Bytes)
  | 92 :: 117 :: _ :: _ :: a :: b :: r => some (UInt8.ofNat (unhex a * 16 + unhex b), r)
  | 92 :: x :: r => some (unshort x, r)
  | c :: r => some (c, r)
  | [] => none
theorem short_ok (c : UInt8) : (shortB c == 0 || (shortB c != 117 && unshort (shortB c) == c)) = true := all8 (fun c => shortB c == 0 || (shortB c != 117 && unshort (shortB c) == c)) (by decide +kernel) c
theorem hex_ok (c : UInt8) : (!decide (c < 32) || UInt8.ofNat (unhex (hexB (c.toNat / 16)) * 16 + unhex (hexB (c.toNat % 16))) == c) = true := all8 (fun c => !decide (c < 32) || UInt8.ofNat (unhex (hexB (c.toNat / 16)) * 16 + unhex (hexB (c.toNat % 16))) == c) (by decide +kernel) c
theorem own_ok (c : UInt8) : (shortB c != 0 || (c != 92 && c != 34)) = true := all8 (fun c => shortB c != 0 || (c != 92 && c != 34)) (by decide +kernel) c
theorem unq_quote (c : UInt8) (r : Bytes) : unq (quoteC c ++ r) = some (c, r) := by
  unfold quoteC
  split
  · rename_i h
    have h1 := short_ok c
    have h0 : (shortB c == 0) = false := by simpa using h
    rw [h0, Bool.false_or, Bool.and_eq_true] at h1
    have h2 : shortB c ≠ 117 := by simpa using h1.1
    have h3 : unshort (shortB c) = c := by simpa using h1.2
    show unq (92 :: shortB c :: r) = _
    generalize shortB c = x at h2 h3
    unfold unq
    split
    · rename_i e; exact absurd (List.cons.inj (List.cons.inj e).2).1 h2
    · rename_i e; cases e; rw [h3]
    · rename_i hx e; cases e; exact (hx _ _ rfl rfl).elim
    · rename_i e; cases e
  · rename_i h
    split
    · rename_i hc
      have h1 := hex_ok c
      have : decide (c < 32) = true := by simpa using hc
      rw [this] at h1
      show some (_, r) = _
      rw [show UInt8.ofNat (unhex (hexB (c.toNat / 16)) * 16 + unhex (hexB (c.toNat % 16))) = c by simpa using h1]
    · have h1 := own_ok c
      have h0 : (shortB c != 0) = false := by simpa using h
      rw [h0, Bool.false_or, Bool.and_eq_true] at h1
      have h2 : c ≠ 92 := by simpa using h1.1
      show unq (c :: r) = _
      unfold unq
      split
      · rename_i e; cases e; exact absurd rfl h2
      · rename_i e; cases e; exact absurd rfl h2
      · rename_i e; cases e; rfl
      · rename_i e; cases e
theorem quoteC_head (c : UInt8) : ∃ x t, quoteC c = x :: t ∧ x ≠ 34 := by
  unfold quoteC
  split
  · exact ⟨92, _, rfl, by decide⟩
  · rename_i h
    split
    · exact ⟨92, _, rfl, by decide⟩
    · have h1 := own_ok c
      have h0 : (shortB c != 0) = false := by simpa using h
      rw [h0, Bool.false_or, Bool.and_eq_true] at h1
      exact ⟨c, _, rfl, by simpa using h1.2⟩
theorem flat_inj : ∀ (s s' r r' : Bytes), s.flatMap quoteC ++ 34 :: r = s'.flatMap quoteC ++ 34 :: r' → s = s' ∧ r = r'
  | [], [], r, r', h => ⟨rfl, (List.cons.inj h).2⟩
  | [], c :: s', r, r', h => by
    obtain ⟨x, t, e, hx⟩ := quoteC_head c
    rw [List.flatMap_cons, e] at h
    exact absurd (List.cons.inj h).1.symm hx
  | c :: s, [], r, r', h => by
    obtain ⟨x, t, e, hx⟩ := quoteC_head c
    rw [List.flatMap_cons, e] at h
    exact absurd (List.cons.inj h).1 hx
  | c :: s, c' :: s', r, r', h => by
    rw [List.flatMap_cons, List.flatMap_cons, List.append_assoc, List.append_assoc] at h
    have h1 := congrArg unq h
    rw [unq_quote, unq_quote] at h1
    injection h1 with h1
    injection h1 with h1 h2
    obtain ⟨h3, h4⟩ := flat_inj s s' r r' h2
    exact ⟨by rw [h1, h3], h4⟩
theorem quoteL_inj {s s' r r' : Bytes} (h : quoteL s ++ r = quoteL s' ++ r') : s = s' ∧ r = r' := by
  unfold quoteL at h
  rw [List.cons_append, List.cons_append, List.append_assoc, List.append_assoc] at h
  exact flat_inj s s' r r' (List.cons.inj h).2

/-- The kind that a first byte tells. -/
def tagB (c : UInt8) : Nat := if c == 110 then 0 else if c == 116 || c == 102 then 1 else if c == 34 then 3 else if c == 91 then 4 else if c == 123 then 5 else 2
theorem tag_digit (c : UInt8) : (!digitB c || tagB c == 2) = true := all8 (fun c => !digitB c || tagB c == 2) (by decide +kernel) c
theorem print_head (v : JV) : ∃ c t, printL v = c :: t ∧ tagB c = kindJ v ∧ c ≠ 44 ∧ c ≠ 93 ∧ c ≠ 125 := by
  cases v with
  | null => exact ⟨_, _, rfl, rfl, by decide, by decide, by decide⟩
  | bool b => cases b <;> exact ⟨_, _, rfl, rfl, by decide, by decide, by decide⟩
  | int n =>
    rw [printL]
    unfold Lib.itoa
    split
    · exact ⟨_, _, rfl, rfl, by decide, by decide, by decide⟩
    · obtain ⟨c, t, e, hc⟩ := digits_head n.toNat
      have := tag_digit c
      rw [hc] at this
      refine ⟨c, t, e, (by simpa using this : tagB c = 2), ?_, ?_, ?_⟩
      all_goals
        intro h; subst h
        exact absurd hc (by decide)
  | text s => rw [printL]; exact ⟨_, _, rfl, rfl, by decide, by decide, by decide⟩
  | list l => rw [printL]; exact ⟨_, _, rfl, rfl, by decide, by decide, by decide⟩
  | obj l => rw [printL]; exact ⟨_, _, rfl, rfl, by decide, by decide, by decide⟩

def InjV (v : JV) : Prop := ∀ v' r r', Del r → Del r' → printL v ++ r = printL v' ++ r' → v = v' ∧ r = r'
theorem del_cons {c : UInt8} {t : Bytes} (h : digitB c = false) : Del (c :: t) := fun x y e => by cases e; exact h
theorem delI (l : List JV) (r : Bytes) : Del (printI false l ++ 93 :: r) := by
  cases l with
  | nil => exact del_cons (by decide)
  | cons x l => rw [printI]; exact del_cons (by decide)
theorem delM (l : List (Bytes × JV)) (r : Bytes) : Del (printM false l ++ 125 :: r) := by
  cases l with
  | nil => exact del_cons (by decide)
  | cons x l => obtain ⟨k, x⟩ := x; rw [printM]; exact del_cons (by decide)

theorem printI_inj : ∀ (l : List JV), (∀ x ∈ l, InjV x) → ∀ (f : Bool) (l' : List JV) (r r' : Bytes), printI f l ++ 93 :: r = printI f l' ++ 93 :: r' → l = l' ∧ r = r'
  | [], _, f, [], r, r', h => ⟨rfl, (List.cons.inj h).2⟩
  | [], _, f, y :: l', r, r', h => by
    exfalso
    obtain ⟨c, t, e, _, _, h2, _⟩ := print_head y
    rw [printI, printI, e] at h
    cases f
    · exact absurd (List.cons.inj h).1 (by decide)
    · exact h2 (List.cons.inj h).1.symm
  | x :: l, _, f, [], r, r', h => by
    exfalso
    obtain ⟨c, t, e, _, _, h2, _⟩ := print_head x
    rw [printI, printI, e] at h
    cases f
    · exact absurd (List.cons.inj h).1 (by decide)
    · exact h2 (List.cons.inj h).1
  | x :: l, hl, f, y :: l', r, r', h => by
    rw [printI, printI, List.append_assoc, List.append_assoc, List.append_assoc, List.append_assoc] at h
    have h1 := List.append_cancel_left h
    obtain ⟨h2, h3⟩ := hl x (.head _) y _ _ (delI l r) (delI l' r') h1
    obtain ⟨h4, h5⟩ := printI_inj l (fun x hx => hl x (.tail _ hx)) false l' r r' h3
    exact ⟨by rw [h2, h4], h5⟩
theorem printM_inj : ∀ (l : List (Bytes × JV)), (∀ m ∈ l, InjV m.2) → ∀ (f : Bool) (l' : List (Bytes × JV)) (r r' : Bytes), printM f l ++ 125 :: r = printM f l' ++ 125 :: r' → l = l' ∧ r = r'
  | [], _, f, [], r, r', h => ⟨rfl, (List.cons.inj h).2⟩
  | [], _, f, (k, y) :: l', r, r', h => by
    exfalso
    rw [printM, printM, quoteL] at h
    cases f
    · exact absurd (List.cons.inj h).1 (by decide)
    · exact absurd (List.cons.inj h).1 (by decide)
  | (k, x) :: l, _, f, [], r, r', h => by
    exfalso
    rw [printM, printM, quoteL] at h
    cases f
    · exact absurd (List.cons.inj h).1 (by decide)
    · exact absurd (List.cons.inj h).1 (by decide)
  | (k, x) :: l, hl, f, (k', y) :: l', r, r', h => by
    rw [printM, printM] at h
    simp only [List.append_assoc, List.cons_append] at h
    have h1 := List.append_cancel_left h
    obtain ⟨hk, h2⟩ := quoteL_inj h1
    obtain ⟨h3, h4⟩ := hl (k, x) (.head _) y _ _ (delM l r) (delM l' r') (List.cons.inj h2).2
    obtain ⟨h5, h6⟩ := printM_inj l (fun x hx => hl x (.tail _ hx)) false l' r r' h4
    exact ⟨by rw [hk, show x = y from h3, h5], h6⟩

theorem printL_injV : ∀ (n : Nat) (v : JV), sizeOf v ≤ n → InjV v
  | 0, v, h => by cases v <;> simp at h
  | n + 1, v, hn => by
    intro v' r r' hr hr' h
    have hk : kindJ v = kindJ v' := by
      obtain ⟨c, t, e, ht, _⟩ := print_head v
      obtain ⟨c', t', e', ht', _⟩ := print_head v'
      rw [e, e'] at h
      rw [← ht, ← ht', (List.cons.inj h).1]
    cases v with
    | null =>
      cases v' <;> simp [kindJ] at hk
      exact ⟨rfl, List.append_cancel_left h⟩
    | bool b =>
      cases v' <;> simp [kindJ] at hk
      rename_i b'
      cases b <;> cases b'
      · exact ⟨rfl, List.append_cancel_left h⟩
      · exact absurd (List.cons.inj h).1 (by decide)
      · exact absurd (List.cons.inj h).1 (by decide)
      · exact ⟨rfl, List.append_cancel_left h⟩
    | int m =>
      cases v' <;> simp [kindJ] at hk
      rw [printL, printL] at h
      obtain ⟨h1, h2⟩ := itoa_inj hr hr' h
      exact ⟨by rw [h1], h2⟩
    | text s =>
      cases v' <;> simp [kindJ] at hk
      rw [printL, printL] at h
      obtain ⟨h1, h2⟩ := quoteL_inj h
      exact ⟨by rw [h1], h2⟩
    | list l =>
      cases v' <;> simp [kindJ] at hk
      rw [printL, printL] at h
      simp only [List.cons_append, List.append_assoc] at h
      obtain ⟨h1, h2⟩ := printI_inj l (fun x hx => printL_injV n x (by have := List.sizeOf_lt_of_mem hx; simp at hn; omega)) true _ r r' (List.cons.inj h).2
      exact ⟨by rw [h1], h2⟩
    | obj l =>
      cases v' <;> simp [kindJ] at hk
      rw [printL, printL] at h
      simp only [List.cons_append, List.append_assoc] at h
      obtain ⟨h1, h2⟩ := printM_inj l (fun x hx => printL_injV n x.2 (by have := List.sizeOf_lt_of_mem hx; obtain ⟨k, x⟩ := x; simp at hn this; dsimp only; omega)) true _ r r' (List.cons.inj h).2
      exact ⟨by rw [h1], h2⟩
theorem printL_inj {v v' : JV} (h : printL v = printL v') : v = v' :=
  (printL_injV _ v (Nat.le_refl _) v' [] [] (fun _ _ h => by cases h) (fun _ _ h => by cases h) (by rw [h])).1

end Toc

namespace Toc
open Go Go.RowKit Go.Proofs

/-- Signs that stand for themselves. -/
def plainC (c : UInt8) : Bool := 32 ≤ c && c < 128 && c != 34 && c != 92
def asisB (s : Bytes) : Bool := s.all plainC
def quoteP (s : Bytes) : Bytes := 34 :: (s ++ [34])

theorem textL_plain : ∀ (s r : Bytes), asisB s = true → textL (s ++ 34 :: r) = some (s, r)
  | [], r, _ => by
    show textF (34 :: r).length (34 :: r) = _
    rw [List.length_cons, textF]; simp
  | c :: s, r, h => by
    unfold asisB at h
    rw [List.all_cons, Bool.and_eq_true] at h
    obtain ⟨hc, hs⟩ := h
    unfold plainC at hc
    simp only [Bool.and_eq_true, decide_eq_true_eq, bne_iff_ne, ne_eq] at hc
    obtain ⟨⟨⟨h1, h2⟩, h3⟩, h4⟩ := hc
    have hn : c.toNat < 128 := h2
    have h5 : ¬ c < 32 := by simpa using h1
    rw [List.cons_append, textL_rune h3 h5 h4 (r := c.toNat) (wd := 1) (by unfold headRune Lib.decodeN; simp [hn]) (.inl (by omega))]
    show ((textL (s ++ 34 :: r)).map fun p => ((c :: (s ++ 34 :: r)).take 1 ++ p.1, p.2)) = _
    rw [textL_plain s r hs]
    rfl

/-- What stands behind a value. -/
def DelV (r : Bytes) : Prop := ∀ c t, r = c :: t → c = 44 ∨ c = 93 ∨ c = 125
theorem DelV.cons {c : UInt8} {t : Bytes} (h : c = 44 ∨ c = 93 ∨ c = 125) : DelV (c :: t) := fun x y e => by cases e; exact h
theorem DelV.nil : DelV [] := fun _ _ e => by cases e

/-- These bytes are read as this value. -/
def Reads (k : Nat) (b : Bytes) (v : JV) : Prop := (∃ c t, b = c :: t ∧ isWsB c = false) ∧ ∀ r, DelV r → valueL k (b ++ r) = some (v, r)

theorem reads_text (k : Nat) {s : Bytes} (h : asisB s = true) : Reads k (quoteP s) (.text s) := by
  refine ⟨⟨34, _, rfl, rfl⟩, fun r _ => ?_⟩
  have hp : plainL 34 (s ++ 34 :: r) = some (.text s, r) := by
    show ((textL (s ++ 34 :: r)).map fun p => (JV.text p.1, p.2)) = _
    rw [textL_plain s r h]; rfl
  have e : quoteP s ++ r = 34 :: (s ++ 34 :: r) := by simp [quoteP]
  rw [e]
  cases k with
  | zero => rw [valueL]; exact hp
  | succ k => rw [valueL]; exact hp

theorem takeNum {d r : Bytes} (hd : d.all numericB = true) (hr : DelV r) : (d ++ r).takeWhile numericB = d ∧ (d ++ r).dropWhile numericB = r := by
  induction d with
  | nil =>
    cases r with
    | nil => exact ⟨rfl, rfl⟩
    | cons c t =>
      have : numericB c = false := by rcases hr c t rfl with rfl | rfl | rfl <;> rfl
      exact ⟨by simp [this], by simp [this]⟩
  | cons c d ih =>
    rw [List.all_cons, Bool.and_eq_true] at hd
    obtain ⟨i1, i2⟩ := ih hd.2
    rw [List.cons_append, List.takeWhile_cons, List.dropWhile_cons, if_pos hd.1, if_pos hd.1, i1, i2]
    exact ⟨rfl, rfl⟩
theorem reads_num (k : Nat) {c : UInt8} {d : Bytes} {n : Int} (hc : digitB c = true) (hd : (c :: d).all numericB = true) (hn : numOf (c :: d) = some n) : Reads k (c :: d) (.int n) := by
  have hcl : letterB c = false := by
    unfold digitB at hc
    unfold letterB
    simp only [Bool.and_eq_true, decide_eq_true_eq] at hc
    obtain ⟨h1, h2⟩ := hc
    have e1 : 48 ≤ c.toNat := h1
    have e2 : c.toNat ≤ 57 := h2
    simp only [Bool.or_eq_false_iff, Bool.and_eq_false_iff, decide_eq_false_iff_not]
    refine ⟨.inl fun h => ?_, .inl fun h => ?_⟩
    · have : 97 ≤ c.toNat := h
      omega
    · have : 65 ≤ c.toNat := h
      omega
  have hcne : c ≠ 91 ∧ c ≠ 123 := by
    refine ⟨fun h => ?_, fun h => ?_⟩ <;> · subst h; exact absurd hc (by decide)
  have hws : isWsB c = false := by
    unfold digitB at hc
    simp only [Bool.and_eq_true, decide_eq_true_eq] at hc
    have e1 : 48 ≤ c.toNat := hc.1
    unfold isWsB
    simp only [Bool.or_eq_false_iff, beq_eq_false_iff_ne]
    refine ⟨⟨⟨?_, ?_⟩, ?_⟩, ?_⟩ <;> · intro h; subst h; exact absurd e1 (by decide)
  refine ⟨⟨c, d, rfl, hws⟩, fun r hr => ?_⟩
  have hp : plainL c (d ++ r) = some (.int n, r) := by
    unfold plainL
    rw [hcl, if_neg (by decide), hc]
    rw [if_pos (by simp)]
    unfold numberL
    obtain ⟨h1, h2⟩ := takeNum hd hr
    rw [List.cons_append] at h1 h2
    rw [h1, h2, hn]; rfl
  rw [List.cons_append]
  cases k with
  | zero => rw [valueL, if_neg (by simp [hcne.1, hcne.2])]; exact hp
  | succ k => rw [valueL, if_neg (by simp [hcne.1]), if_neg (by simp [hcne.2])]; exact hp

/-- Members as they stand: key, the value's bytes, the value. -/
def rowM : List (Bytes × Bytes × JV) → Bytes
  | [] => []
  | [(k, b, _)] => quoteP k ++ 58 :: b
  | (k, b, _) :: t :: l => quoteP k ++ 58 :: (b ++ 44 :: rowM (t :: l))
def putsM (ms : List (Bytes × JV)) (l : List (Bytes × Bytes × JV)) : List (Bytes × JV) := l.foldl (fun ms t => putAt ms (keyPlace ms t.1) (t.1, t.2.2)) ms
def newsM : List (Bytes × JV) → List (Bytes × Bytes × JV) → Bool
  | _, [] => true
  | ms, t :: l => !keyAt ms (keyPlace ms t.1) t.1 && newsM (putAt ms (keyPlace ms t.1) (t.1, t.2.2)) l

theorem must_cons {c : UInt8} {t : Bytes} (h : isWsB c = false) : mustL (c :: t) = some (c :: t) := by
  unfold mustL skipWs
  rw [List.dropWhile_cons, if_neg (by simp [h])]
theorem member_one {k : Nat} {key b : Bytes} {v : JV} {ms : List (Bytes × JV)} {r : Bytes} (hk : asisB key = true) (hb : Reads k b v) (hn : keyAt ms (keyPlace ms key) key = false) (hr : DelV r) :
    memberL (valueL k) ms (quoteP key ++ 58 :: (b ++ r)) = some (putAt ms (keyPlace ms key) (key, v), r) := by
  obtain ⟨⟨c, t, rfl, hc⟩, hv⟩ := hb
  have e : quoteP key ++ 58 :: ((c :: t) ++ r) = 34 :: (key ++ 34 :: 58 :: ((c :: t) ++ r)) := by simp [quoteP]
  rw [e, memberL, textL_plain key _ hk]
  have e2 := hv r hr
  rw [List.cons_append] at e2
  simp [hn, must_cons (c := 58) rfl, must_cons hc, e2]
theorem rowL_reads {k : Nat} : ∀ (l : List (Bytes × Bytes × JV)) (m : Nat) (ms : List (Bytes × JV)) (r : Bytes), l ≠ [] → l.length ≤ m → (∀ t ∈ l, asisB t.1 = true ∧ Reads k t.2.1 t.2.2) → newsM ms l = true →
    rowL (memberL (valueL k)) 125 m ms (rowM l ++ 125 :: r) = some (putsM ms l, r)
  | [], _, _, _, h, _, _, _ => absurd rfl h
  | _ :: _, 0, _, _, _, h, _, _ => by simp at h
  | [(key, b, v)], m + 1, ms, r, _, _, h, hn => by
    obtain ⟨h1, h2⟩ := h _ (.head _)
    rw [newsM, Bool.and_eq_true] at hn
    have e : rowM [(key, b, v)] ++ 125 :: r = quoteP key ++ 58 :: (b ++ 125 :: r) := by simp [rowM]
    rw [e, rowL, show quoteP key ++ 58 :: (b ++ 125 :: r) = 34 :: (key ++ [34] ++ 58 :: (b ++ 125 :: r)) by simp [quoteP], must_cons rfl]
    try dsimp only
    rw [show 34 :: (key ++ [34] ++ 58 :: (b ++ 125 :: r)) = quoteP key ++ 58 :: (b ++ 125 :: r) by simp [quoteP], member_one h1 h2 (by simpa using hn.1) (.cons (.inr (.inr rfl)))]
    try dsimp only
    rw [must_cons rfl]
    rfl
  | (key, b, v) :: t :: l, m + 1, ms, r, _, hm, h, hn => by
    obtain ⟨h1, h2⟩ := h _ (.head _)
    rw [newsM, Bool.and_eq_true] at hn
    have e : rowM ((key, b, v) :: t :: l) ++ 125 :: r = quoteP key ++ 58 :: (b ++ 44 :: (rowM (t :: l) ++ 125 :: r)) := by simp [rowM]
    rw [e, rowL, show quoteP key ++ 58 :: (b ++ 44 :: (rowM (t :: l) ++ 125 :: r)) = 34 :: (key ++ [34] ++ 58 :: (b ++ 44 :: (rowM (t :: l) ++ 125 :: r))) by simp [quoteP], must_cons rfl]
    try dsimp only
    rw [show 34 :: (key ++ [34] ++ 58 :: (b ++ 44 :: (rowM (t :: l) ++ 125 :: r))) = quoteP key ++ 58 :: (b ++ 44 :: (rowM (t :: l) ++ 125 :: r)) by simp [quoteP], member_one h1 h2 (by simpa using hn.1) (.cons (.inl rfl))]
    try dsimp only
    rw [must_cons rfl]
    try dsimp only
    rw [if_neg (by decide), if_pos (by decide)]
    exact rowL_reads (t :: l) m _ r (by simp) (by simpa using hm) (fun x hx => h x (.tail _ hx)) hn.2
theorem reads_obj {k : Nat} {l : List (Bytes × Bytes × JV)} (hl : l.length ≤ 64) (h : ∀ t ∈ l, asisB t.1 = true ∧ Reads k t.2.1 t.2.2) (hn : newsM [] l = true) : Reads (k + 1) (123 :: (rowM l ++ [125])) (.obj (putsM [] l)) := by
  refine ⟨⟨123, _, rfl, rfl⟩, fun r _ => ?_⟩
  rw [show 123 :: (rowM l ++ [125]) ++ r = 123 :: (rowM l ++ 125 :: r) by simp, valueL, if_neg (by decide), if_pos (by decide)]
  have : rowTop (memberL (valueL k)) 125 [] (rowM l ++ 125 :: r) = some (putsM [] l, r) := by
    cases l with
    | nil =>
      unfold rowTop
      rw [show rowM [] ++ 125 :: r = 125 :: r from rfl, must_cons rfl]
      rfl
    | cons t l =>
      have hr := rowL_reads (t :: l) 64 [] r (by simp) hl h hn
      obtain ⟨x, hx⟩ : ∃ x, rowM (t :: l) ++ 125 :: r = 34 :: x := by
        cases l with
        | nil => exact ⟨_, rfl⟩
        | cons u l => exact ⟨_, rfl⟩
      rw [hx] at hr ⊢
      unfold rowTop
      rw [must_cons rfl]
      try dsimp only
      rw [if_neg (by decide)]
      exact hr
  rw [this]; rfl
theorem parse_reads {b : Bytes} {v : JV} (hb : b.length ≤ 4096) (h : Reads 10 b v) : parseL b = some v := by
  obtain ⟨⟨c, t, rfl, hc⟩, hv⟩ := h
  have h1 := hv [] .nil
  rw [List.append_nil] at h1
  unfold parseL
  rw [if_neg (by omega), must_cons hc]
  try dsimp only
  rw [h1]
  rfl

end Toc
