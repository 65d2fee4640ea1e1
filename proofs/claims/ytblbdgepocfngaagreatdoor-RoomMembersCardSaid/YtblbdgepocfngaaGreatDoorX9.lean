/-
  PrintB: What is read out of few bytes is written as few bytes. No program in sight; no condition.
-/
import Derived.Test.YtblbdgepocfngaaGreatDoorWP
namespace Toc
open Go Go.RowKit Go.Proofs

theorem nDigits_le : ∀ (k u : Nat), u < 10 ^ (k + 1) → Lib.nDigits u ≤ k + 1
  | 0, u, h => by rw [Lib.nDigits_small (by simpa using h)]; exact Nat.le_refl _
  | k + 1, u, h => by
    by_cases h1 : u < 10
    · rw [Lib.nDigits_small h1]; omega
    · rw [Lib.nDigits_big h1]
      have := nDigits_le k (u / 10) (by rw [Nat.pow_succ] at h; omega)
      omega
theorem itoa_len {n : Int} (h1 : -9007199254740991 ≤ n) (h2 : n ≤ 9007199254740991) : (Lib.itoa n).length ≤ 17 := by
  unfold Lib.itoa
  split
  · rw [List.length_cons, Lib.decDigits_length]
    have := nDigits_le 15 n.natAbs (by simp only [Nat.reduceAdd, Nat.reducePow]; omega)
    omega
  · rw [Lib.decDigits_length]
    have := nDigits_le 15 n.toNat (by simp only [Nat.reduceAdd, Nat.reducePow]; omega)
    omega

theorem quoteC_few (c : UInt8) : (quoteC c).length ≤ 6 := by
  unfold quoteC
  split
  · simp
  · split <;> simp
theorem flatMap_len (s : Bytes) : (s.flatMap quoteC).length ≤ 6 * s.length := by
  induction s with
  | nil => simp
  | cons c s ih =>
    rw [List.flatMap_cons, List.length_append, List.length_cons]
    have := quoteC_few c
    omega
theorem quoteL_len (s : Bytes) : (quoteL s).length ≤ 6 * s.length + 2 := by
  unfold quoteL
  rw [List.length_cons, List.length_append]
  have := flatMap_len s
  simp only [List.length_cons, List.length_nil]
  omega

def sumI (l : List JV) : Nat := (l.map fun x => (printL x).length + 1).sum
def sumM (l : List (Bytes × JV)) : Nat := (l.map fun m => (quoteL m.1).length + (printL m.2).length + 2).sum
theorem printI_sum : ∀ (l : List JV) (f : Bool), (printI f l).length ≤ sumI l
  | [], _ => by simp [printI]
  | x :: l, f => by
    rw [printI]
    have := printI_sum l false
    have e : sumI (x :: l) = (printL x).length + 1 + sumI l := by simp [sumI]
    rw [e, List.length_append, List.length_append]
    cases f <;> simp <;> omega
theorem printM_sum : ∀ (l : List (Bytes × JV)) (f : Bool), (printM f l).length ≤ sumM l
  | [], _ => by simp [printM]
  | (k, x) :: l, f => by
    rw [printM]
    have := printM_sum l false
    have e : sumM ((k, x) :: l) = (quoteL k).length + (printL x).length + 2 + sumM l := by simp [sumM]
    rw [e]
    simp only [List.length_append, List.length_cons]
    cases f <;> simp <;> omega
theorem sumM_put (l : List (Bytes × JV)) (i : Nat) (k : Bytes) (x : JV) : sumM (putAt l i (k, x)) = sumM l + ((quoteL k).length + (printL x).length + 2) := by
  unfold putAt sumM
  rw [List.map_append, List.map_cons, List.sum_append, List.sum_cons]
  have := congrArg List.sum (congrArg (List.map fun m : Bytes × JV => (quoteL m.1).length + (printL m.2).length + 2) (List.take_append_drop i l))
  rw [List.map_append, List.sum_append] at this
  dsimp only
  omega
theorem sumI_snoc (l : List JV) (x : JV) : sumI (l ++ [x]) = sumI l + ((printL x).length + 1) := by simp [sumI]

theorem textF_len2 : ∀ (f : Nat) (l : Bytes) (p : Bytes × Bytes), textF f l = some p → p.1.length + 2 * p.2.length + 2 ≤ 2 * l.length
  | 0, _, _, h => by cases h
  | _ + 1, [], _, h => by cases h
  | f + 1, c :: l, p, h => by
    rw [textF] at h
    split at h
    · cases h; simp; omega
    · split at h
      · cases h
      · split at h
        · split at h
          · cases h
          · rename_i r l' he
            obtain ⟨q, hq, rfl⟩ := Option.map_eq_some_iff.1 h
            have h1 := textF_len2 f l' q hq
            have h2 := escL_len he
            have h3 := encodeRune_len r
            simp only [List.length_append] at h1 ⊢
            omega
        · split at h
          · cases h
          · obtain ⟨q, hq, rfl⟩ := Option.map_eq_some_iff.1 h
            have h1 := textF_len2 f _ q hq
            have h2 := headRune_le (c :: l) (by simp)
            rw [List.length_drop] at h1
            simp only [List.length_append, List.length_take]
            omega

theorem rowL_few {σ : Type} {one : σ → Bytes → Option (σ × Bytes)} (μ : σ → Nat) (close : UInt8) (h1 : ∀ s l s' r, one s l = some (s', r) → μ s' + 24 * r.length ≤ μ s + 24 * l.length + 1) :
    ∀ (m : Nat) (s : σ) (l : Bytes) (s' : σ) (r : Bytes), rowL one close m s l = some (s', r) → μ s' + 24 * r.length + 20 ≤ μ s + 24 * l.length
  | 0, _, _, _, _, h => by cases h
  | m + 1, s, l, s', r, h => by
    rw [rowL] at h
    cases hm : mustL l with
    | none => rw [hm] at h; cases h
    | some l1 =>
      rw [hm] at h
      dsimp only at h
      have e1 := mustL_len hm
      cases ho : one s l1 with
      | none => rw [ho] at h; cases h
      | some q =>
        obtain ⟨s1, l2⟩ := q
        rw [ho] at h
        dsimp only at h
        have e2 := h1 s l1 s1 l2 ho
        cases hm2 : mustL l2 with
        | none => rw [hm2] at h; cases h
        | some l3 =>
          rw [hm2] at h
          have e3 := mustL_len hm2
          cases l3 with
          | nil => cases h
          | cons c l4 =>
            dsimp only at h
            simp only [List.length_cons] at e3
            split at h
            · cases h
              omega
            · split at h
              · have e4 := rowL_few μ close h1 m s1 l4 s' r h
                omega
              · cases h
theorem rowTop_few {σ : Type} {one : σ → Bytes → Option (σ × Bytes)} (μ : σ → Nat) (close : UInt8) (h1 : ∀ s l s' r, one s l = some (s', r) → μ s' + 24 * r.length ≤ μ s + 24 * l.length + 1)
    (s : σ) (l : Bytes) (s' : σ) (r : Bytes) (h : rowTop one close s l = some (s', r)) : μ s' + 24 * r.length + 20 ≤ μ s + 24 * l.length := by
  unfold rowTop at h
  cases hm : mustL l with
  | none => rw [hm] at h; cases h
  | some l1 =>
    rw [hm] at h
    have e1 := mustL_len hm
    cases l1 with
    | nil => cases h
    | cons c l2 =>
      dsimp only at h
      simp only [List.length_cons] at e1
      split at h
      · cases h
        omega
      · exact rowL_few μ close h1 64 s l s' r h

/-- What one thing's reader writes. -/
def OneFew (one : Bytes → Option (JV × Bytes)) : Prop := ∀ l v r, one l = some (v, r) → (printL v).length + 24 * r.length ≤ 24 * l.length

theorem itemL_few {one : Bytes → Option (JV × Bytes)} (h1 : OneFew one) (s : List JV) (l : Bytes) (s' : List JV) (r : Bytes) (h : itemL one s l = some (s', r)) : sumI s' + 24 * r.length ≤ sumI s + 24 * l.length + 1 := by
  unfold itemL at h
  obtain ⟨q, hq, he⟩ := Option.map_eq_some_iff.1 h
  cases he
  have := h1 l q.1 q.2 hq
  rw [sumI_snoc]
  omega
theorem memberL_few {one : Bytes → Option (JV × Bytes)} (h1 : OneFew one) (s : List (Bytes × JV)) (l : Bytes) (s' : List (Bytes × JV)) (r : Bytes) (h : memberL one s l = some (s', r)) : sumM s' + 24 * r.length ≤ sumM s + 24 * l.length + 1 := by
  unfold memberL at h
  split at h
  · rename_i l1
    split at h
    · cases h
    · rename_i key l2 ht
      have e1 := textF_len2 _ _ _ ht
      simp only [List.length_cons] at e1 ⊢
      split at h
      · cases h
      · split at h
        · rename_i l4 hm
          have e2 := mustL_len hm
          simp only [List.length_cons] at e2
          split at h
          · cases h
          · rename_i l5 hm2
            have e3 := mustL_len hm2
            split at h
            · cases h
            · rename_i v l6 ho
              have e4 := h1 l5 v l6 ho
              cases h
              have e5 := quoteL_len key
              rw [sumM_put]
              omega
        · cases h
  · cases h

theorem plainL_few {c : UInt8} {l : Bytes} {v : JV} {r : Bytes} (h : plainL c l = some (v, r)) : (printL v).length + 24 * r.length ≤ 24 * (l.length + 1) := by
  have hd : ∀ p : UInt8 → Bool, p c = true → ((c :: l).dropWhile p).length ≤ l.length := fun p hp => by
    rw [List.dropWhile_cons, if_pos hp]; exact dropWhile_len p l
  unfold plainL at h
  split at h
  · rename_i hc
    unfold wordL at h
    obtain ⟨q, hq, he⟩ := Option.map_eq_some_iff.1 h
    cases he
    have := hd letterB hc
    have hl : (printL v).length ≤ 5 := by
      unfold wordOfL at hq
      split at hq
      · cases hq; simp [printL, nullS]
      · split at hq
        · cases hq; simp [printL, trueS]
        · split at hq
          · cases hq; simp [printL, falseS]
          · cases hq
    omega
  · split at h
    · rename_i hc
      unfold numberL at h
      obtain ⟨q, hq, he⟩ := Option.map_eq_some_iff.1 h
      cases he
      have := hd numericB (by unfold numericB; simp only [Bool.or_eq_true] at hc ⊢; rcases hc with h | h <;> simp [h])
      have hl : (printL (.int q)).length ≤ 17 := by
        rw [numOf_eq] at hq
        split at hq
        · rename_i h3
          cases hq
          have := signed_range (t := (c :: l).takeWhile numericB) h3.2.2
          rw [printL]
          exact itoa_len this.1 this.2
        · cases hq
      omega
    · split at h
      · obtain ⟨q, hq, he⟩ := Option.map_eq_some_iff.1 h
        cases he
        have := textF_len2 _ _ _ hq
        rw [printL]
        have := quoteL_len q.1
        omega
      · cases h

theorem valueL_few : ∀ (k : Nat), OneFew (valueL k)
  | 0, l, v, r, h => by
    cases l with
    | nil => simp [valueL] at h
    | cons c l =>
      rw [valueL] at h
      split at h
      · cases h
      · simpa using plainL_few h
  | k + 1, l, v, r, h => by
    have ih := valueL_few k
    cases l with
    | nil => simp [valueL] at h
    | cons c l =>
      rw [valueL] at h
      simp only [List.length_cons]
      split at h
      · obtain ⟨q, hq, he⟩ := Option.map_eq_some_iff.1 h
        cases he
        have e := rowTop_few sumI 93 (itemL_few ih) [] l q.1 q.2 hq
        have e2 := printI_sum q.1 true
        rw [printL]
        simp only [List.length_cons, List.length_append, List.length_nil]
        simp [sumI] at e
        simp [sumI] at e2
        omega
      · split at h
        · obtain ⟨q, hq, he⟩ := Option.map_eq_some_iff.1 h
          cases he
          have e := rowTop_few sumM 125 (memberL_few ih) [] l q.1 q.2 hq
          have e2 := printM_sum q.1 true
          rw [printL]
          simp only [List.length_cons, List.length_append, List.length_nil]
          simp [sumM] at e
          simp [sumM] at e2
          omega
        · exact plainL_few h

theorem parseL_few {b : Bytes} {v : JV} (h : parseL b = some v) : (printL v).length ≤ 98304 := by
  unfold parseL at h
  split at h
  · cases h
  · rename_i hb
    cases hm : mustL b with
    | none => rw [hm] at h; cases h
    | some l =>
      rw [hm] at h
      dsimp only at h
      have := mustL_len hm
      cases hv : valueL 10 l with
      | none => rw [hv] at h; cases h
      | some p =>
        obtain ⟨x, l'⟩ := p
        rw [hv] at h
        dsimp only at h
        split at h
        · cases h
          have := valueL_few 10 l v l' hv
          omega
        · cases h

end Toc
