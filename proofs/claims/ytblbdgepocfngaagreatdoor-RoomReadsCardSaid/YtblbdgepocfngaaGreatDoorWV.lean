/-
  PrintB: What is read out of few bytes is written as few bytes. No program in sight; no condition.
  Rwrite0: The document's write: printL. Printed by tools/rwgen.py.
  Rwrite1: The document's write: a list. Printed by tools/rwgen.py.
  Rwrite2: The document's write: an object. Printed by tools/rwgen.py.
  Rwrite: The document's write: printL. Printed by tools/rwgen.py.
  Rprint: The document's Print: printL.
-/
import Derived.Test.YtblbdgepocfngaaGreatDoorWP
import Derived.Test.YtblbdgepocfngaaGreatDoorWU
namespace Toc
open Go Go.RowKit Go.Proofs

theorem nDigits_le : ∀ (k u : Nat), u < 10 ^ (k + 1) → Lib.nDigits u ≤ k + 1
  | 0, u, h => by rw [Lib.nDigits_small (by simpa using h)]; exact Nat.le_refl _
  | k + 1, u, h => by
    by_cases h1 : u < 10
    · rw [Lib.nDigits_small h1]; omega
    · rw [Lib.nDigits_big h1]
      have := nDigits_le k (u / 10) (by rw [Nat.pow_succ] at h; omega)
      omega
theorem itoa_len {n : Int} (h1 : -9007199254740991 ≤ n) (h2 : n ≤ 9007199254740991) : (Lib.itoa n).length ≤ 17 := by
  unfold Lib.itoa
  split
  · rw [List.length_cons, Lib.decDigits_length]
    have := nDigits_le 15 n.natAbs (by simp only [Nat.reduceAdd, Nat.reducePow]; omega)
    omega
  · rw [Lib.decDigits_length]
    have := nDigits_le 15 n.toNat (by simp only [Nat.reduceAdd, Nat.reducePow]; omega)
    omega

theorem quoteC_few (c : UInt8) : (quoteC c).length ≤ 6 := by
  unfold quoteC
  split
  · simp
  · split <;> simp
theorem flatMap_len (s : Bytes) : (s.flatMap quoteC).length ≤ 6 * s.length := by
  induction s with
  | nil => simp
  | cons c s ih =>
    rw [List.flatMap_cons, List.length_append, List.length_cons]
    have := quoteC_few c
    omega
theorem quoteL_len (s : Bytes) : (quoteL s).length ≤ 6 * s.length + 2 := by
  unfold quoteL
  rw [List.length_cons, List.length_append]
  have := flatMap_len s
  simp only [List.length_cons, List.length_nil]
  omega

def sumI (l : List JV) : Nat := (l.map fun x => (printL x).length + 1).sum
def sumM (l : List (Bytes × JV)) : Nat := (l.map fun m => (quoteL m.1).length + (printL m.2).length + 2).sum
theorem printI_sum : ∀ (l : List JV) (f : Bool), (printI f l).length ≤ sumI l
  | [], _ => by simp [printI]
  | x :: l, f => by
    rw [printI]
    have := printI_sum l false
    have e : sumI (x :: l) = (printL x).length + 1 + sumI l := by simp [sumI]
    rw [e, List.length_append, List.length_append]
    cases f <;> simp <;> omega
theorem printM_sum : ∀ (l : List (Bytes × JV)) (f : Bool), (printM f l).length ≤ sumM l
  | [], _ => by simp [printM]
  | (k, x) :: l, f => by
    rw [printM]
    have := printM_sum l false
    have e : sumM ((k, x) :: l) = (quoteL k).length + (printL x).length + 2 + sumM l := by simp [sumM]
    rw [e]
    simp only [List.length_append, List.length_cons]
    cases f <;> simp <;> omega
theorem sumM_put (l : List (Bytes × JV)) (i : Nat) (k : Bytes) (x : JV) : sumM (putAt l i (k, x)) = sumM l + ((quoteL k).length + (printL x).length + 2) := by
  unfold putAt sumM
  rw [List.map_append, List.map_cons, List.sum_append, List.sum_cons]
  have := congrArg List.sum (congrArg (List.map fun m : Bytes × JV => (quoteL m.1).length + (printL m.2).length + 2) (List.take_append_drop i l))
  rw [List.map_append, List.sum_append] at this
  dsimp only
  omega
theorem sumI_snoc (l : List JV) (x : JV) : sumI (l ++ [x]) = sumI l + ((printL x).length + 1) := by simp [sumI]

theorem textF_len2 : ∀ (f : Nat) (l : Bytes) (p : Bytes × Bytes), textF f l = some p → p.1.length + 2 * p.2.length + 2 ≤ 2 * l.length
  | 0, _, _, h => by cases h
  | _ + 1, [], _, h => by cases h
  | f + 1, c :: l, p, h => by
    rw [textF] at h
    split at h
    · cases h; simp; omega
    · split at h
      · cases h
      · split at h
        · split at h
          · cases h
          · rename_i r l' he
            obtain ⟨q, hq, rfl⟩ := Option.map_eq_some_iff.1 h
            have h1 := textF_len2 f l' q hq
            have h2 := escL_len he
            have h3 := encodeRune_len r
            simp only [List.length_append] at h1 ⊢
            omega
        · split at h
          · cases h
          · obtain ⟨q, hq, rfl⟩ := Option.map_eq_some_iff.1 h
            have h1 := textF_len2 f _ q hq
            have h2 := headRune_le (c :: l) (by simp)
            rw [List.length_drop] at h1
            simp only [List.length_append, List.length_take]
            omega

theorem rowL_few {σ : Type} {one : σ → Bytes → Option (σ × Bytes)} (μ : σ → Nat) (close : UInt8) (h1 : ∀ s l s' r, one s l = some (s', r) → μ s' + 24 * r.length ≤ μ s + 24 * l.length + 1) :
    ∀ (m : Nat) (s : σ) (l : Bytes) (s' : σ) (r : Bytes), rowL one close m s l = some (s', r) → μ s' + 24 * r.length + 20 ≤ μ s + 24 * l.length
  | 0, _, _, _, _, h => by cases h
  | m + 1, s, l, s', r, h => by
    rw [rowL] at h
    cases hm : mustL l with
    | none => rw [hm] at h; cases h
    | some l1 =>
      rw [hm] at h
      dsimp only at h
      have e1 := mustL_len hm
      cases ho : one s l1 with
      | none => rw [ho] at h; cases h
      | some q =>
        obtain ⟨s1, l2⟩ := q
        rw [ho] at h
        dsimp only at h
        have e2 := h1 s l1 s1 l2 ho
        cases hm2 : mustL l2 with
        | none => rw [hm2] at h; cases h
        | some l3 =>
          rw [hm2] at h
          have e3 := mustL_len hm2
          cases l3 with
          | nil => cases h
          | cons c l4 =>
            dsimp only at h
            simp only [List.length_cons] at e3
            split at h
            · cases h
              omega
            · split at h
              · have e4 := rowL_few μ close h1 m s1 l4 s' r h
                omega
              · cases h
theorem rowTop_few {σ : Type} {one : σ → Bytes → Option (σ × Bytes)} (μ : σ → Nat) (close : UInt8) (h1 : ∀ s l s' r, one s l = some (s', r) → μ s' + 24 * r.length ≤ μ s + 24 * l.length + 1)
    (s : σ) (l : Bytes) (s' : σ) (r : Bytes) (h : rowTop one close s l = some (s', r)) : μ s' + 24 * r.length + 20 ≤ μ s + 24 * l.length := by
  unfold rowTop at h
  cases hm : mustL l with
  | none => rw [hm] at h; cases h
  | some l1 =>
    rw [hm] at h
    have e1 := mustL_len hm
    cases l1 with
    | nil => cases h
    | cons c l2 =>
      dsimp only at h
      simp only [List.length_cons] at e1
      split at h
      · cases h
        omega
      · exact rowL_few μ close h1 64 s l s' r h

/-- What one thing's reader writes. -/
def OneFew (one : Bytes → Option (JV × Bytes)) : Prop := ∀ l v r, one l = some (v, r) → (printL v).length + 24 * r.length ≤ 24 * l.length

theorem itemL_few {one : Bytes → Option (JV × Bytes)} (h1 : OneFew one) (s : List JV) (l : Bytes) (s' : List JV) (r : Bytes) (h : itemL one s l = some (s', r)) : sumI s' + 24 * r.length ≤ sumI s + 24 * l.length + 1 := by
  unfold itemL at h
  obtain ⟨q, hq, he⟩ := Option.map_eq_some_iff.1 h
  cases he
  have := h1 l q.1 q.2 hq
  rw [sumI_snoc]
  omega
theorem memberL_few {one : Bytes → Option (JV × Bytes)} (h1 : OneFew one) (s : List (Bytes × JV)) (l : Bytes) (s' : List (Bytes × JV)) (r : Bytes) (h : memberL one s l = some (s', r)) : sumM s' + 24 * r.length ≤ sumM s + 24 * l.length + 1 := by
  unfold memberL at h
  split at h
  · rename_i l1
    split at h
    · cases h
    · rename_i key l2 ht
      have e1 := textF_len2 _ _ _ ht
      simp only [List.length_cons] at e1 ⊢
      split at h
      · cases h
      · split at h
        · rename_i l4 hm
          have e2 := mustL_len hm
          simp only [List.length_cons] at e2
          split at h
          · cases h
          · rename_i l5 hm2
            have e3 := mustL_len hm2
            split at h
            · cases h
            · rename_i v l6 ho
              have e4 := h1 l5 v l6 ho
              cases h
              have e5 := quoteL_len key
              rw [sumM_put]
              omega
        · cases h
  · cases h

theorem plainL_few {c : UInt8} {l : Bytes} {v : JV} {r : Bytes} (h : plainL c l = some (v, r)) : (printL v).length + 24 * r.length ≤ 24 * (l.length + 1) := by
  have hd : ∀ p : UInt8 → Bool, p c = true → ((c :: l).dropWhile p).length ≤ l.length := fun p hp => by
    rw [List.dropWhile_cons, if_pos hp]; exact dropWhile_len p l
  unfold plainL at h
  split at h
  · rename_i hc
    unfold wordL at h
    obtain ⟨q, hq, he⟩ := Option.map_eq_some_iff.1 h
    cases he
    have := hd letterB hc
    have hl : (printL v).length ≤ 5 := by
      unfold wordOfL at hq
      split at hq
      · cases hq; simp [printL, nullS]
      · split at hq
        · cases hq; simp [printL, trueS]
        · split at hq
          · cases hq; simp [printL, falseS]
          · cases hq
    omega
  · split at h
    · rename_i hc
      unfold numberL at h
      obtain ⟨q, hq, he⟩ := Option.map_eq_some_iff.1 h
      cases he
      have := hd numericB (by unfold numericB; simp only [Bool.or_eq_true] at hc ⊢; rcases hc with h | h <;> simp [h])
      have hl : (printL (.int q)).length ≤ 17 := by
        rw [numOf_eq] at hq
        split at hq
        · rename_i h3
          cases hq
          have := signed_range (t := (c :: l).takeWhile numericB) h3.2.2
          rw [printL]
          exact itoa_len this.1 this.2
        · cases hq
      omega
    · split at h
      · obtain ⟨q, hq, he⟩ := Option.map_eq_some_iff.1 h
        cases he
        have := textF_len2 _ _ _ hq
        rw [printL]
        have := quoteL_len q.1
        omega
      · cases h

theorem valueL_few : ∀ (k : Nat), OneFew (valueL k)
  | 0, l, v, r, h => by
    cases l with
    | nil => simp [valueL] at h
    | cons c l =>
      rw [valueL] at h
      split at h
      · cases h
      · simpa using plainL_few h
  | k + 1, l, v, r, h => by
    have ih := valueL_few k
    cases l with
    | nil => simp [valueL] at h
    | cons c l =>
      rw [valueL] at h
      simp only [List.length_cons]
      split at h
      · obtain ⟨q, hq, he⟩ := Option.map_eq_some_iff.1 h
        cases he
        have e := rowTop_few sumI 93 (itemL_few ih) [] l q.1 q.2 hq
        have e2 := printI_sum q.1 true
        rw [printL]
        simp only [List.length_cons, List.length_append, List.length_nil]
        simp [sumI] at e
        simp [sumI] at e2
        omega
      · split at h
        · obtain ⟨q, hq, he⟩ := Option.map_eq_some_iff.1 h
          cases he
          have e := rowTop_few sumM 125 (memberL_few ih) [] l q.1 q.2 hq
          have e2 := printM_sum q.1 true
          rw [printL]
          simp only [List.length_cons, List.length_append, List.length_nil]
          simp [sumM] at e
          simp [sumM] at e2
          omega
        · exact plainL_few h

theorem parseL_few {b : Bytes} {v : JV} (h : parseL b = some v) : (printL v).length ≤ 98304 := by
  unfold parseL at h
  split at h
  · cases h
  · rename_i hb
    cases hm : mustL b with
    | none => rw [hm] at h; cases h
    | some l =>
      rw [hm] at h
      dsimp only at h
      have := mustL_len hm
      cases hv : valueL 10 l with
      | none => rw [hv] at h; cases h
      | some p =>
        obtain ⟨x, l'⟩ := p
        rw [hv] at h
        dsimp only at h
        split at h
        · cases h
          have := valueL_few 10 l v l' hv
          omega
        · cases h

end Toc

namespace Toc
open Go Go.RowKit Go.Proofs

theorem RWr.moreS {B : Nat} {w wr w2 : World} {v v2 : Value} {acc : Bytes} {n : Nat} (h : RWr B w wr v acc) (hB : B ≤ w.heap.size) {st : ByteArray}
    (hgr : wr.grownBy w2 v.ownBlock) (hown : w2.ownsRow B 5 1 v2 n (Lib.byteCells acc ++ Lib.strCells st)) (hl : acc.length + st.size = n) : RWr B w w2 v2 (acc ++ st.data.toList) := by
  have hs : B ≤ wr.heap.size := Nat.le_trans hB h.below.size
  refine ⟨h.below.trans (((Turns.refl v.ownBlock.toList wr).grown hgr (fun k hk => .inl (by simp [hk]))).below_of hs (fun b hb => ?_)), ?_⟩
  · exact (h.own.lt b (by simpa using hb)).1
  · unfold OwnBytes
    rw [Lib.byteCells_append, List.length_append, ← Lib.size_eq st, hl]
    exact hown
theorem RWr.trans {B : Nat} {w w1 w2 : World} {v v2 : Value} {acc acc2 : Bytes} (h : RWr B w w1 v acc) (k : RWr B w1 w2 v2 acc2) : RWr B w w2 v2 acc2 := ⟨h.below.trans k.below, k.own⟩

/-- What write does of every value of a size. -/
def RWOk (n : Nat) : Prop := ∀ (v : JV), sizeOf v ≤ n → ∀ (r : Ro) (B : Nat) (w : World), Has r w → ∀ {q : Nat}, IsR r q v → JOk v → (∀ k o, r k = some o → k < B) → B ≤ w.heap.size → ∀ (vs : Value) (acc : Bytes), OwnBytes w B vs acc → acc.length + (printL v).length ≤ 140737488355328 →
    Calls Tryz.prog 116 #[ptrV q, vs] w fun e w' => ∃ v', e = .returned v' ∧ RWr B w w' v' (acc ++ printL v)

set_option maxRecDepth 100000 in
set_option maxHeartbeats 16000000 in
theorem rwrite_plain (v : JV) (hnl : ∀ l, v ≠ .list l) (hno : ∀ l, v ≠ .obj l) (r : Ro) (B : Nat) (w : World) (hh : Has r w) {q : Nat} (hv : IsR r q v) (hok : JOk v) (hrB : ∀ k o, r k = some o → k < B) (hB : B ≤ w.heap.size) (vs : Value) (acc : Bytes) (hown : OwnBytes w B vs acc) (hlen : acc.length + (printL v).length ≤ 140737488355328) :
    Calls Tryz.prog 116 #[ptrV q, vs] w fun e w' => ∃ v', e = .returned v' ∧ RWr B w w' v' (acc ++ printL v) := by
    obtain ⟨i0, hi5, hz0, hz1, hz2⟩ := info_parts (show (Tryz.prog.info? 5).map (fun i => (i.zero, i.size, i.bytes)) = some (some (.int .u8 0), 1, 1) by kernel_rfl)
    have HK := Lib.hid (fun (k : Int) (hk : ((kindO (some v) : Nat) : Int) = k) => rkind_any r w hh (pv := some ⟨q, 0, none⟩) (o := some v) ⟨q, rfl, hv⟩ hk)
    have HW0 := Lib.hid (show RWr B w w vs acc from ⟨Below.refl _ _, hown⟩)
    have HH := Lib.hid hh
    have HRB := Lib.hid hrB
    obtain ⟨na, hna⟩ : ∃ n, acc.length = n := ⟨_, rfl⟩
    rw [hna] at hlen
    have HNA := Lib.hid hna
    clear hown hh hrB
    cases hv with
    | null hq =>
      have hl : na + 4 ≤ 140737488355328 := hlen
      have HK1 := Lib.hid (HK.out 0 rfl)
      clear HK hlen hq
      go_enter Tryz.func116, Tryz.ntmps116
      go_wp2_with fail
      refine HK1.out.mono ?_
      rintro e w1 ⟨rfl, rfl⟩
      go_wp2_with (at_builtin; refine Lib.wpList_append_own_string _ rfl _ _ 34 9 rfl B 5 i0 Tryz.underlying34 Tryz.underlying9 hi5 hz0 hz1 hz2 _ _ _ rfl HW0.out.own ⟨#[110, 117, 108, 108]⟩ rfl (by show _ + 4 ≤ _; unfold maxLen; omega) (by show _ + 4 ≤ _; omega) (by have := HW0.out.below.size; omega) ?_)
      intro v2 w2 hown hgr _
      have HW2 := Lib.hid (HW0.out.moreS hB hgr hown (by have := HNA.out; first | rfl | omega | (rw [this]; rfl) | (simp only [List.length_append, List.length_singleton]; omega)))
      clear hown hgr
      go_wp2_with fail
      go_ret
      exact ⟨_, rfl, HW2.out⟩
    | @bool _ x hq =>
      have c1 : w.cell? ⟨q, 1, none⟩ = some (.bool x) := blk_cell (HH.out _ _ hq) 1
      have HK1 := Lib.hid (HK.out 1 rfl)
      clear HK hq
      cases x with
      | true =>
        have hl : na + 4 ≤ 140737488355328 := hlen
        clear hlen
        go_enter Tryz.func116, Tryz.ntmps116
        go_wp2_with fail
        refine HK1.out.mono ?_
        rintro e w1 ⟨rfl, rfl⟩
        go_wp2_with (at_builtin; refine Lib.wpList_append_own_string _ rfl _ _ 34 9 rfl B 5 i0 Tryz.underlying34 Tryz.underlying9 hi5 hz0 hz1 hz2 _ _ _ rfl HW0.out.own ⟨#[116, 114, 117, 101]⟩ rfl (by show _ + 4 ≤ _; unfold maxLen; omega) (by show _ + 4 ≤ _; omega) (by have := HW0.out.below.size; omega) ?_)
        intro v2 w2 hown hgr _
        have HW2 := Lib.hid (HW0.out.moreS hB hgr hown (by have := HNA.out; first | rfl | omega | (rw [this]; rfl) | (simp only [List.length_append, List.length_singleton]; omega)))
        clear hown hgr
        go_wp2_with fail
        go_ret
        exact ⟨_, rfl, HW2.out⟩
      | false =>
        have hl : na + 5 ≤ 140737488355328 := hlen
        clear hlen
        go_enter Tryz.func116, Tryz.ntmps116
        go_wp2_with fail
        refine HK1.out.mono ?_
        rintro e w1 ⟨rfl, rfl⟩
        go_wp2_with (at_builtin; refine Lib.wpList_append_own_string _ rfl _ _ 34 9 rfl B 5 i0 Tryz.underlying34 Tryz.underlying9 hi5 hz0 hz1 hz2 _ _ _ rfl HW0.out.own ⟨#[102, 97, 108, 115, 101]⟩ rfl (by show _ + 5 ≤ _; unfold maxLen; omega) (by show _ + 5 ≤ _; omega) (by have := HW0.out.below.size; omega) ?_)
        intro v2 w2 hown hgr _
        have HW2 := Lib.hid (HW0.out.moreS hB hgr hown (by have := HNA.out; first | rfl | omega | (rw [this]; rfl) | (simp only [List.length_append, List.length_singleton]; omega)))
        clear hown hgr
        go_wp2_with fail
        go_ret
        exact ⟨_, rfl, HW2.out⟩
    | @int _ x hq =>
      have HK1 := Lib.hid (HK.out 2 rfl)
      have c2 : w.cell? ⟨q, 2, none⟩ = some (.int .i64 x) := blk_cell (HH.out _ _ hq) 2
      have hx : -9007199254740991 ≤ x ∧ x ≤ 9007199254740991 := by cases hok; exact ⟨‹_›, ‹_›⟩
      obtain ⟨u, hu⟩ : ∃ u : Nat, x.natAbs = u := ⟨_, rfl⟩
      obtain ⟨sd, hsd⟩ : ∃ s, mkS (Lib.decDigits u) = s := ⟨_, rfl⟩
      have hsl : sd.data.toList = Lib.decDigits u := by rw [← hsd, list_mkS]
      have hss : sd.size = (Lib.decDigits u).length := by rw [← hsd, size_mkS]
      have HD := Lib.hid (fun wx => rdigits_any u (by omega) wx hsd)
      have HSL := Lib.hid hsl
      clear HK hsd
      by_cases hneg : x < 0
      · have hsub : 0 - x = (u : Int) := by omega
        have hit : Lib.itoa x = 45 :: Lib.decDigits u := by
          have := Lib.itoa_neg u (by omega)
          rw [show (-(u : Int)) = x by omega] at this; exact this
        have hwr : IntKind.i64.wrap (u : Int) = u := IntWalk.i64_in _ (by omega)
        have HQ := Lib.hid hq
        have hl : na + 1 + sd.size ≤ 140737488355328 := by
          have h1 : (printL (.int x)).length = 1 + sd.size := by rw [show printL (.int x) = Lib.itoa x by simp [printL], hit, hss]; simp; omega
          omega
        have HIT := Lib.hid hit
        have HL := Lib.hid hl
        clear hu hit hlen hss hsl hq
        go_enter Tryz.func116, Tryz.ntmps116
        go_wp2_with fail
        refine HK1.out.mono ?_
        rintro e w1 ⟨rfl, rfl⟩
        go_wp2_with (at_builtin; refine wpList_append_lies _ rfl _ _ 34 rfl B 5 i0 (.int .u8 0) 1 1 Tryz.underlying34 hi5 hz0 hz1 hz2 rfl (by decide) _ _ _ rfl (HW0.out.own.alloc _) ⟨w.heap.size, 0, none⟩ 1 1 [.int .u8 45] rfl rfl (World.news_of_block (blk_new _ _)) (by simp [Value.oneCell']) (by decide) (by unfold maxLen; omega) (by omega) (by have := HW0.out.below.size; simp; omega) _ rfl ?_)
        intro g w2c w2 hown hgr _ _
        have HW2 := Lib.hid (HW0.out.more hB hgr hown (bs := [45]) rfl (by have := HNA.out; simp; omega))
        clear hown hgr
        have e2 : w2.cell? ⟨q, 2, none⟩ = some (.int .i64 x) := blk_cell (has_belowB HH.out HW2.out.below HRB.out _ _ HQ.out) 2
        go_wp2_with fail
        generalize Value.slice (some ⟨g, 0, none⟩) (na + 1) w2c = v2 at *
        go_wp2_with fail
        refine (HD.out _).mono ?_
        rintro e w3 ⟨rfl, rfl⟩
        go_wp2_with (at_builtin; refine Lib.wpList_append_own_string _ rfl _ _ 34 9 rfl B 5 i0 Tryz.underlying34 Tryz.underlying9 hi5 hz0 hz1 hz2 _ _ _ rfl HW2.out.own sd rfl (by have := HNA.out; have := HL.out; simp only [List.length_append, List.length_singleton]; unfold maxLen; omega) (by have := HNA.out; have := HL.out; simp only [List.length_append, List.length_singleton]; omega) (by have := HW2.out.below.size; omega) ?_)
        intro v4 w4 hown hgr _
        have HW4 := Lib.hid (HW2.out.moreS hB hgr hown (by have := HNA.out; first | rfl | omega | (rw [this]; rfl) | (simp only [List.length_append, List.length_singleton]; omega)))
        clear hown hgr
        go_wp2_with fail
        go_ret
        refine ⟨_, rfl, ?_⟩
        have h1 := HW4.out
        rw [HSL.out] at h1
        rw [show printL (.int x) = Lib.itoa x by simp [printL], HIT.out]
        simpa using h1
      · have hux : x = (u : Int) := by omega
        have hit : Lib.itoa x = Lib.decDigits u := by rw [hux, Lib.itoa_nonneg]
        have hl : na + sd.size ≤ 140737488355328 := by
          have h1 : (printL (.int x)).length = sd.size := by rw [show printL (.int x) = Lib.itoa x by simp [printL], hit, hss]
          omega
        have HIT := Lib.hid (show printL (.int x) = Lib.decDigits u by rw [← hit]; simp [printL])
        have HUX := Lib.hid hux
        have hb1 : na + sd.size ≤ maxLen := by unfold maxLen; omega
        have hb2 : na + sd.size ≤ 140737488355328 := hl
        have hng : ¬ ((u : Int) < 0) := by omega
        rw [hux] at c2
        have HL := Lib.hid hl
        clear hu hit hlen hss hsl hux hx hneg hq
        go_enter Tryz.func116, Tryz.ntmps116
        go_wp2_with fail
        refine HK1.out.mono ?_
        rintro e w1 ⟨rfl, rfl⟩
        go_wp2_with fail
        refine (HD.out _).mono ?_
        rintro e w3 ⟨rfl, rfl⟩
        go_wp2_with (at_builtin; refine Lib.wpList_append_own_string _ rfl _ _ 34 9 rfl B 5 i0 Tryz.underlying34 Tryz.underlying9 hi5 hz0 hz1 hz2 _ _ _ rfl HW0.out.own sd rfl (by first | exact hb1 | (rw [HNA.out]; exact hb1)) (by first | exact hb2 | (rw [HNA.out]; exact hb2)) (by have := HW0.out.below.size; omega) ?_)
        intro v4 w4 hown hgr _
        have HW4 := Lib.hid (HW0.out.moreS hB hgr hown (by have := HNA.out; first | rfl | omega | (rw [this]; rfl) | (simp only [List.length_append, List.length_singleton]; omega)))
        clear hown hgr
        go_wp2_with fail
        go_ret
        refine ⟨_, rfl, ?_⟩
        have h1 := HW4.out
        rw [HSL.out] at h1
        rw [HIT.out]
        exact h1
    | @text _ s hq =>
      have c3 : w.cell? ⟨q, 3, none⟩ = some (.string (mkS s)) := blk_cell (HH.out _ _ hq) 3
      obtain ⟨ss, hss⟩ : ∃ x, mkS s = x := ⟨_, rfl⟩
      rw [hss] at c3
      have hsl : ss.data.toList = s := by rw [← hss, list_mkS]
      have HK1 := Lib.hid (HK.out 3 rfl)
      have HQ := Lib.hid (rquote_any B w vs acc HW0.out.own hB ss (by rw [hsl, HNA.out]; exact hlen))
      have HSL := Lib.hid hsl
      clear HK hq hss hsl
      go_enter Tryz.func116, Tryz.ntmps116
      go_wp2_with fail
      refine HK1.out.mono ?_
      rintro e w1 ⟨rfl, rfl⟩
      go_wp2_with fail
      refine HQ.out.mono ?_
      rintro e w2 ⟨v2, rfl, hw2⟩
      have HW2 := Lib.hid hw2
      clear hw2
      go_wp2_with fail
      go_ret
      refine ⟨_, rfl, ?_⟩
      have h1 := HW2.out
      rw [HSL.out] at h1
      exact h1
    | list => exact absurd rfl (hnl _)
    | obj => exact absurd rfl (hno _)
end Toc

namespace Toc
open Go Go.RowKit Go.Proofs
set_option maxRecDepth 100000 in
set_option maxHeartbeats 16000000 in
theorem rwrite_list {n : Nat} (IH : RWOk n) (l : List JV) (hn : sizeOf (JV.list l) ≤ n + 1) (r : Ro) (B : Nat) (w : World) (hh : Has r w) {q : Nat} (hv : IsR r q (.list l)) (hok : JOk (.list l)) (hrB : ∀ k o, r k = some o → k < B) (hB : B ≤ w.heap.size) (vs : Value) (acc : Bytes) (hown : OwnBytes w B vs acc) (hlen : acc.length + (printL (.list l)).length ≤ 140737488355328) :
    Calls Tryz.prog 116 #[ptrV q, vs] w fun e w' => ∃ v', e = .returned v' ∧ RWr B w w' v' (acc ++ printL (.list l)) := by
    obtain ⟨i0, hi5, hz0, hz1, hz2⟩ := info_parts (show (Tryz.prog.info? 5).map (fun i => (i.zero, i.size, i.bytes)) = some (some (.int .u8 0), 1, 1) by kernel_rfl)
    have HK := Lib.hid (fun (k : Int) (hk : ((kindO (some (.list l)) : Nat) : Int) = k) => rkind_any r w hh (pv := some ⟨q, 0, none⟩) (o := some (.list l)) ⟨q, rfl, hv⟩ hk)
    have HW0 := Lib.hid (show RWr B w w vs acc from ⟨Below.refl _ _, hown⟩)
    have HH := Lib.hid hh
    have HRB := Lib.hid hrB
    obtain ⟨na, hna⟩ : ∃ n, acc.length = n := ⟨_, rfl⟩
    rw [hna] at hlen
    have HNA := Lib.hid hna
    clear hown hh hrB
    cases hv with
    | @list _ l qs sv hq hrow hql hel =>
      have HK1 := Lib.hid (HK.out 4 rfl)
      have c4 : w.cell? ⟨q, 4, none⟩ = some sv := blk_cell (HH.out _ _ hq) 4
      have c0 : w.cell? ⟨q, 0, none⟩ = some (.int .i64 4) := blk_cell (HH.out _ _ hq) 0
      obtain ⟨oa, cap, rfl, hcap, hrow2⟩ := row_form2 hrow
      obtain ⟨m, hm⟩ : ∃ m, l.length = m := ⟨_, rfl⟩
      rw [hm] at c4 hcap hrow2 hql
      have HQ := Lib.hid hq
      have HRW := Lib.hid hrow2
      have HEL := Lib.hid hel
      have HML := Lib.hid hm
      have HQL := Lib.hid hql
      have hokl : l.length ≤ 1048576 ∧ ∀ x ∈ l, JOk x := by cases hok; exact ⟨‹_›, ‹_›⟩
      have HOK := Lib.hid hokl
      have hpl : (printL (.list l)).length = (printI true l).length + 2 := by simp [printL]
      have hmm : m ≤ 1048576 := by rw [← hm]; exact hokl.1
      have HLE := Lib.hid (fun i => printI_le l true i)
      have HSZ := Lib.hid hn
      obtain ⟨np, hnp⟩ : ∃ n, (printI true l).length = n := ⟨_, rfl⟩
      rw [hpl, hnp] at hlen
      have HNP := Lib.hid hnp
      clear HK hq hrow hrow2 hel hm hql hokl hok hn hpl hnp
      go_enter Tryz.func116, Tryz.ntmps116
      go_wp2_with fail
      refine HK1.out.mono ?_
      rintro e w1 ⟨rfl, rfl⟩
      go_wp2_with (at_builtin; refine wpList_append_lies _ rfl _ _ 34 rfl B 5 i0 (.int .u8 0) 1 1 Tryz.underlying34 hi5 hz0 hz1 hz2 rfl (by decide) _ _ _ rfl (HW0.out.own.alloc _) ⟨w.heap.size, 0, none⟩ 1 1 [.int .u8 91] rfl rfl (World.news_of_block (blk_new _ _)) (by simp [Value.oneCell']) (by decide) (by unfold maxLen; omega) (by omega) (by have := HW0.out.below.size; simp; omega) _ rfl ?_)
      intro g w2c w2 hown hgr _ _
      have HW2 := Lib.hid (HW0.out.more hB hgr hown (bs := [91]) rfl (by have := HNA.out; simp; omega))
      clear hown hgr
      skip
      go_wp2_with fail
      generalize Value.slice (some ⟨g, 0, none⟩) (na + 1) w2c = v2 at *
      go_loopw [1, 6] (fun s1 s6 wr => ∃ (i : Nat) (vr : Value), s1 = vr ∧ s6 = .int .i64 i ∧ i ≤ m ∧ RWr B w wr vr (acc ++ [91] ++ printI true (l.take i))) (fun _ s6 _ => match s6 with | .int _ k => m - k.toNat | _ => 0)
      case atStart => exact ⟨0, _, rfl, rfl, Nat.zero_le _, by simpa [printI] using HW2.out⟩
      case round =>
        obtain ⟨i, vr, hs1, rfl, hi, hW⟩ := hrel
        subst hs1
        have HW := Lib.hid hW
        have hhr := has_belowB HH.out hW.below HRB.out
        have d4 := blk_cell (hhr _ _ HQ.out) 4
        have d0 := blk_cell (hhr _ _ HQ.out) 0
        rw [HML.out] at d4
        have HHR := Lib.hid hhr
        have hle := HLE.out i
        rw [HNP.out] at hle
        obtain ⟨ni, hni⟩ : ∃ n, (printI true (l.take i)).length = n := ⟨_, rfl⟩
        rw [hni] at hle
        obtain ⟨ac, hac⟩ : ∃ x, acc ++ [91] ++ printI true (l.take i) = x := ⟨_, rfl⟩
        obtain ⟨nb, hnb⟩ : ∃ n, ac.length = n := ⟨_, rfl⟩
        have hnbv : nb = na + 1 + ni := by rw [← hnb, ← hac, List.length_append, List.length_append, HNA.out, hni]; rfl
        rw [hac] at HW
        have HNB := Lib.hid hnb
        have HAC := Lib.hid hac
        have HNI := Lib.hid hni
        have hBr : B ≤ wr.heap.size := Nat.le_trans hB HW.out.below.size
        have HNV := Lib.hid hnbv
        clear hW hhr HW2 c4 c0 hac hni hnbv
        by_cases hlt : i < m
        · obtain ⟨qi, hqi⟩ : ∃ x, qs[i]? = some x := ⟨_, List.getElem?_eq_getElem (by rw [HQL.out]; exact hlt)⟩
          obtain ⟨x, hx⟩ : ∃ x, l[i]? = some x := ⟨_, List.getElem?_eq_getElem (by rw [HML.out]; exact hlt)⟩
          obtain ⟨g, off, arr, T, fr, rfl, hg, harr⟩ := HRW.out.resolve_left (by omega)
          have HC := Lib.hid (show ∀ wx, Has r wx → wx.cell? ⟨g, off + i, none⟩ = some (ptrV qi) from fun wx hx => by
            rw [blk_cell (hx _ _ hg), harr i (by rw [List.length_map, HQL.out]; exact hlt), List.getElem_map]
            rw [List.getElem?_eq_getElem (by rw [HQL.out]; exact hlt)] at hqi
            rw [Option.some.inj hqi])
          have HD := Lib.hid (show ∀ wx, Has r wx → wx.cell? ⟨q, 4, none⟩ = some (.slice (some ⟨g, off, none⟩) m cap) ∧ wx.cell? ⟨q, 0, none⟩ = some (.int .i64 4) from fun wx hx => ⟨by have := blk_cell (hx _ _ HQ.out) 4; rw [HML.out] at this; exact this, blk_cell (hx _ _ HQ.out) 0⟩)
          have hisv : IsR r qi x := by
            have h1 := HEL.out i (by rw [HQL.out]; exact hlt) (by rw [HML.out]; exact hlt)
            rw [List.getElem?_eq_getElem (by rw [HQL.out]; exact hlt)] at hqi
            rw [List.getElem?_eq_getElem (by rw [HML.out]; exact hlt)] at hx
            rw [← Option.some.inj hqi, ← Option.some.inj hx]; exact h1
          have hxm := List.mem_of_getElem? hx
          have hxs : sizeOf x ≤ n := by
            have h1 := List.sizeOf_lt_of_mem hxm
            have h2 := HSZ.out
            skip
            simp at h2; omega
          have htk := printI_take (i := i) hx
          have hle2 := HLE.out (i + 1)
          rw [htk, HNP.out] at hle2
          simp only [List.length_append, HNI.out] at hle2
          obtain ⟨nx, hnx⟩ : ∃ k, (printL x).length = k := ⟨_, rfl⟩
          rw [hnx] at hle2
          have HTK := Lib.hid htk
          have HIS := Lib.hid hisv
          have HXS := Lib.hid hxs
          have HXO := Lib.hid (HOK.out.2 x hxm)
          have HNX := Lib.hid hnx
          clear hqi hx hg harr hisv hxm hxs htk HRW hnx d4 d0 hle
          by_cases h0 : i = 0
          · have h0' : ¬ (0 : Int) < (i : Int) := by omega
            rw [if_pos h0] at hle2 HTK
            have hbx : nb + nx ≤ 140737488355328 := by rw [HNV.out]; simp at hle2; omega
            clear hle2 h0
            obtain ⟨k4, k0⟩ := HD.out _ HHR.out
            have kc := HC.out _ HHR.out
            skip
            go_wp2_with fail
            refine (IH x HXS.out r B wr HHR.out HIS.out HXO.out HRB.out hBr u1 ac HW.out.own (by rw [HNB.out, HNX.out]; omega)).mono ?_
            rintro e w9 ⟨v9, rfl, hw9⟩
            have HW9 := Lib.hid (HW.out.trans hw9)
            clear hw9
            go_wp2_with fail
            go_roundw
            case rel => exact ⟨i + 1, v9, rfl, by simp, hlt, by rw [HTK.out, ← List.append_assoc, HAC.out]; have h1 := HW9.out; simpa using h1⟩
            case measure => simp; omega
          · have h0' : (0 : Int) < (i : Int) := by omega
            rw [if_neg h0] at hle2 HTK
            have hbx : nb + 1 + nx ≤ 140737488355328 := by rw [HNV.out]; simp at hle2; omega
            clear hle2 h0
            obtain ⟨j4, j0⟩ := HD.out _ HHR.out
            go_wp2_with (at_builtin; refine wpList_append_lies _ rfl _ _ 34 rfl B 5 i0 (.int .u8 0) 1 1 Tryz.underlying34 hi5 hz0 hz1 hz2 rfl (by decide) _ _ _ rfl (HW.out.own.alloc _) ⟨wr.heap.size, 0, none⟩ 1 1 [.int .u8 44] rfl rfl (World.news_of_block (blk_new _ _)) (by simp [Value.oneCell']) (by decide) (by unfold maxLen; omega) (by omega) (by have := HW.out.below.size; simp; omega) _ rfl ?_)
            intro g w4c w4 hown hgr _ _
            have HW4 := Lib.hid (HW.out.more hB hgr hown (bs := [44]) rfl (by have := HNB.out; simp; omega))
            clear hown hgr
            have HH4 := Lib.hid (has_belowB HH.out HW4.out.below HRB.out)
            obtain ⟨k4, k0⟩ := HD.out _ HH4.out
            have kc := HC.out _ HH4.out
            skip
            go_wp2_with fail
            generalize Value.slice (some ⟨g, 0, none⟩) (nb + 1) w4c = v4 at *
            obtain ⟨ac4, hac4⟩ : ∃ y, ac ++ [44] = y := ⟨_, rfl⟩
            rw [hac4] at HW4
            have HAC4 := Lib.hid hac4
            have hn4 : ac4.length = nb + 1 := by rw [← hac4, List.length_append, HNB.out]; rfl
            have HN4 := Lib.hid hn4
            have hB4 : B ≤ w4.heap.size := Nat.le_trans hB HW4.out.below.size
            clear hac4 hn4
            refine (IH x HXS.out r B w4 HH4.out HIS.out HXO.out HRB.out hB4 v4 ac4 HW4.out.own (by rw [HN4.out, HNX.out]; omega)).mono ?_
            rintro e w9 ⟨v9, rfl, hw9⟩
            have HW9 := Lib.hid (HW4.out.trans hw9)
            clear hw9
            go_wp2_with fail
            go_roundw
            case rel => exact ⟨i + 1, v9, rfl, by simp, hlt, by rw [HTK.out, ← List.append_assoc, HAC.out]; have h1 := HW9.out; rw [← HAC4.out] at h1; simpa using h1⟩
            case measure => simp; omega
        · have hie : i = m := by omega
          subst hie
          have hfull := HAC.out
          rw [List.take_of_length_le (by rw [HML.out]; exact Nat.le_refl _)] at hfull
          have HFU := Lib.hid (show acc ++ printL (.list l) = ac ++ [93] by rw [← hfull]; simp [printL])
          have hbx : nb + 1 ≤ 140737488355328 := by rw [HNV.out]; omega
          clear hfull hle
          go_wp2_with (at_builtin; refine wpList_append_lies _ rfl _ _ 34 rfl B 5 i0 (.int .u8 0) 1 1 Tryz.underlying34 hi5 hz0 hz1 hz2 rfl (by decide) _ _ _ rfl (HW.out.own.alloc _) ⟨wr.heap.size, 0, none⟩ 1 1 [.int .u8 93] rfl rfl (World.news_of_block (blk_new _ _)) (by simp [Value.oneCell']) (by decide) (by unfold maxLen; omega) (by omega) (by have := HW.out.below.size; simp; omega) _ rfl ?_)
          intro g w4c w4 hown hgr _ _
          have HW4 := Lib.hid (HW.out.more hB hgr hown (bs := [93]) rfl (by have := HNB.out; simp; omega))
          clear hown hgr
          skip
          go_wp2_with fail
          generalize Value.slice (some ⟨g, 0, none⟩) (nb + 1) w4c = v4 at *
          go_ret
          exact ⟨_, rfl, by rw [HFU.out]; exact HW4.out⟩
end Toc

namespace Toc
open Go Go.RowKit Go.Proofs
set_option maxRecDepth 100000 in
set_option maxHeartbeats 16000000 in
theorem rwrite_obj {n : Nat} (IH : RWOk n) (l : List (Bytes × JV)) (hn : sizeOf (JV.obj l) ≤ n + 1) (r : Ro) (B : Nat) (w : World) (hh : Has r w) {q : Nat} (hv : IsR r q (.obj l)) (hok : JOk (.obj l)) (hrB : ∀ k o, r k = some o → k < B) (hB : B ≤ w.heap.size) (vs : Value) (acc : Bytes) (hown : OwnBytes w B vs acc) (hlen : acc.length + (printL (.obj l)).length ≤ 140737488355328) :
    Calls Tryz.prog 116 #[ptrV q, vs] w fun e w' => ∃ v', e = .returned v' ∧ RWr B w w' v' (acc ++ printL (.obj l)) := by
    obtain ⟨i0, hi5, hz0, hz1, hz2⟩ := info_parts (show (Tryz.prog.info? 5).map (fun i => (i.zero, i.size, i.bytes)) = some (some (.int .u8 0), 1, 1) by kernel_rfl)
    have HK := Lib.hid (fun (k : Int) (hk : ((kindO (some (.obj l)) : Nat) : Int) = k) => rkind_any r w hh (pv := some ⟨q, 0, none⟩) (o := some (.obj l)) ⟨q, rfl, hv⟩ hk)
    have HW0 := Lib.hid (show RWr B w w vs acc from ⟨Below.refl _ _, hown⟩)
    have HH := Lib.hid hh
    have HRB := Lib.hid hrB
    obtain ⟨na, hna⟩ : ∃ n, acc.length = n := ⟨_, rfl⟩
    rw [hna] at hlen
    have HNA := Lib.hid hna
    clear hown hh hrB
    cases hv with
    | @obj _ l qs sv kv hq hrow hkrow hql hel =>
      have HK1 := Lib.hid (HK.out 5 rfl)
      have c4 : w.cell? ⟨q, 4, none⟩ = some sv := blk_cell (HH.out _ _ hq) 4
      have c0 : w.cell? ⟨q, 0, none⟩ = some (.int .i64 5) := blk_cell (HH.out _ _ hq) 0
      obtain ⟨oa, cap, rfl, hcap, hrow2⟩ := row_form2 hrow
      obtain ⟨m, hm⟩ : ∃ m, l.length = m := ⟨_, rfl⟩
      rw [hm] at c4 hcap hrow2 hql
      have HQ := Lib.hid hq
      have HRW := Lib.hid hrow2
      have HEL := Lib.hid hel
      have HML := Lib.hid hm
      have HQL := Lib.hid hql
      obtain ⟨ka, kcap, rfl, hkcap, hkrow2⟩ := row_form2 hkrow
      rw [hm] at hkcap hkrow2
      have HKR := Lib.hid hkrow2
      have hokl : l.length ≤ 1048576 ∧ ∀ x ∈ l, JOk x.2 := by cases hok; exact ⟨‹_›, ‹_›⟩
      have HOK := Lib.hid hokl
      have hpl : (printL (.obj l)).length = (printM true l).length + 2 := by simp [printL]
      have hmm : m ≤ 1048576 := by rw [← hm]; exact hokl.1
      have HLE := Lib.hid (fun i => printM_le l true i)
      have HSZ := Lib.hid hn
      obtain ⟨np, hnp⟩ : ∃ n, (printM true l).length = n := ⟨_, rfl⟩
      rw [hpl, hnp] at hlen
      have HNP := Lib.hid hnp
      clear HK hq hrow hrow2 hel hm hql hokl hok hn hpl hnp hkrow hkrow2
      go_enter Tryz.func116, Tryz.ntmps116
      go_wp2_with fail
      refine HK1.out.mono ?_
      rintro e w1 ⟨rfl, rfl⟩
      go_wp2_with (at_builtin; refine wpList_append_lies _ rfl _ _ 34 rfl B 5 i0 (.int .u8 0) 1 1 Tryz.underlying34 hi5 hz0 hz1 hz2 rfl (by decide) _ _ _ rfl (HW0.out.own.alloc _) ⟨w.heap.size, 0, none⟩ 1 1 [.int .u8 123] rfl rfl (World.news_of_block (blk_new _ _)) (by simp [Value.oneCell']) (by decide) (by unfold maxLen; omega) (by omega) (by have := HW0.out.below.size; simp; omega) _ rfl ?_)
      intro g w2c w2 hown hgr _ _
      have HW2 := Lib.hid (HW0.out.more hB hgr hown (bs := [123]) rfl (by have := HNA.out; simp; omega))
      clear hown hgr
      skip
      go_wp2_with fail
      generalize Value.slice (some ⟨g, 0, none⟩) (na + 1) w2c = v2 at *
      go_loopw [1, 6] (fun s1 s6 wr => ∃ (i : Nat) (vr : Value), s1 = vr ∧ s6 = .int .i64 i ∧ i ≤ m ∧ RWr B w wr vr (acc ++ [123] ++ printM true (l.take i))) (fun _ s6 _ => match s6 with | .int _ k => m - k.toNat | _ => 0)
      case atStart => exact ⟨0, _, rfl, rfl, Nat.zero_le _, by simpa [printM] using HW2.out⟩
      case round =>
        obtain ⟨i, vr, hs1, rfl, hi, hW⟩ := hrel
        subst hs1
        have HW := Lib.hid hW
        have hhr := has_belowB HH.out hW.below HRB.out
        have d4 := blk_cell (hhr _ _ HQ.out) 4
        have d0 := blk_cell (hhr _ _ HQ.out) 0
        rw [HML.out] at d4
        have HHR := Lib.hid hhr
        have hle := HLE.out i
        rw [HNP.out] at hle
        obtain ⟨ni, hni⟩ : ∃ n, (printM true (l.take i)).length = n := ⟨_, rfl⟩
        rw [hni] at hle
        obtain ⟨ac, hac⟩ : ∃ x, acc ++ [123] ++ printM true (l.take i) = x := ⟨_, rfl⟩
        obtain ⟨nb, hnb⟩ : ∃ n, ac.length = n := ⟨_, rfl⟩
        have hnbv : nb = na + 1 + ni := by rw [← hnb, ← hac, List.length_append, List.length_append, HNA.out, hni]; rfl
        rw [hac] at HW
        have HNB := Lib.hid hnb
        have HAC := Lib.hid hac
        have HNI := Lib.hid hni
        have hBr : B ≤ wr.heap.size := Nat.le_trans hB HW.out.below.size
        have HNV := Lib.hid hnbv
        clear hW hhr HW2 c4 c0 hac hni hnbv
        by_cases hlt : i < m
        · obtain ⟨qi, hqi⟩ : ∃ x, qs[i]? = some x := ⟨_, List.getElem?_eq_getElem (by rw [HQL.out]; exact hlt)⟩
          obtain ⟨x, hx⟩ : ∃ x, l[i]? = some x := ⟨_, List.getElem?_eq_getElem (by rw [HML.out]; exact hlt)⟩
          obtain ⟨g, off, arr, T, fr, rfl, hg, harr⟩ := HRW.out.resolve_left (by omega)
          have HC := Lib.hid (show ∀ wx, Has r wx → wx.cell? ⟨g, off + i, none⟩ = some (ptrV qi) from fun wx hx => by
            rw [blk_cell (hx _ _ hg), harr i (by rw [List.length_map, HQL.out]; exact hlt), List.getElem_map]
            rw [List.getElem?_eq_getElem (by rw [HQL.out]; exact hlt)] at hqi
            rw [Option.some.inj hqi])
          have HD := Lib.hid (show ∀ wx, Has r wx → wx.cell? ⟨q, 4, none⟩ = some (.slice (some ⟨g, off, none⟩) m cap) ∧ wx.cell? ⟨q, 0, none⟩ = some (.int .i64 5) ∧ wx.cell? ⟨q, 5, none⟩ = some (.slice ka m kcap) from fun wx hx => ⟨by have := blk_cell (hx _ _ HQ.out) 4; rw [HML.out] at this; exact this, blk_cell (hx _ _ HQ.out) 0, by have := blk_cell (hx _ _ HQ.out) 5; rw [HML.out] at this; exact this⟩)
          have hisv : IsR r qi x.2 := by
            have h1 := HEL.out i (by rw [HQL.out]; exact hlt) (by rw [HML.out]; exact hlt)
            rw [List.getElem?_eq_getElem (by rw [HQL.out]; exact hlt)] at hqi
            rw [List.getElem?_eq_getElem (by rw [HML.out]; exact hlt)] at hx
            rw [← Option.some.inj hqi, ← Option.some.inj hx]; exact h1
          have hxm := List.mem_of_getElem? hx
          have hxs : sizeOf x.2 ≤ n := by
            have h1 := List.sizeOf_lt_of_mem hxm
            have h2 := HSZ.out
            have h3 : sizeOf x.2 < sizeOf x := by cases x; simp; omega
            simp at h2; omega
          have htk := printM_take (i := i) (k := x.1) (x := x.2) hx
          have hle2 := HLE.out (i + 1)
          rw [htk, HNP.out] at hle2
          simp only [List.length_append, HNI.out, List.length_cons] at hle2
          obtain ⟨nx, hnx⟩ : ∃ k, (printL x.2).length = k := ⟨_, rfl⟩
          rw [hnx] at hle2
          obtain ⟨nk, hnk⟩ : ∃ k, (quoteL x.1).length = k := ⟨_, rfl⟩
          rw [hnk] at hle2
          have HNK := Lib.hid hnk
          obtain ⟨kg, koff, karr, kT, kfr, rfl, hkg, hkarr⟩ := HKR.out.resolve_left (by omega)
          obtain ⟨ks, hks⟩ : ∃ s, mkS x.1 = s := ⟨_, rfl⟩
          have HKS := Lib.hid (show ks.data.toList = x.1 by rw [← hks, list_mkS])
          have HKC := Lib.hid (show ∀ wx, Has r wx → wx.cell? ⟨kg, koff + i, none⟩ = some (.string ks) from fun wx hx' => by
            rw [blk_cell (hx' _ _ hkg), hkarr i (by rw [List.length_map, HML.out]; exact hlt), List.getElem_map]
            rw [List.getElem?_eq_getElem (by rw [HML.out]; exact hlt)] at hx
            rw [Option.some.inj hx, hks])
          clear hkg hkarr hks hnk
          have HTK := Lib.hid htk
          have HIS := Lib.hid hisv
          have HXS := Lib.hid hxs
          have HXO := Lib.hid (HOK.out.2 x hxm)
          have HNX := Lib.hid hnx
          clear hqi hx hg harr hisv hxm hxs htk HRW hnx d4 d0 hle
          by_cases h0 : i = 0
          · have h0' : ¬ (0 : Int) < (i : Int) := by omega
            rw [if_pos h0] at hle2 HTK
            have hbx : nb + nk + 1 + nx ≤ 140737488355328 := by rw [HNV.out]; simp at hle2; omega
            clear hle2 h0
            obtain ⟨k4, k0, k5⟩ := HD.out _ HHR.out
            have kc := HC.out _ HHR.out
            have kk := HKC.out _ HHR.out
            go_wp2_with fail
            refine (rquote_any B wr u1 ac HW.out.own hBr ks (by rw [HKS.out, HNB.out, HNK.out]; omega)).mono ?_
            rintro e w5 ⟨v5, rfl, hw5⟩
            rw [HKS.out] at hw5
            have HW5 := Lib.hid (HW.out.trans hw5)
            obtain ⟨ac5, hac5⟩ : ∃ y, ac ++ quoteL x.1 = y := ⟨_, rfl⟩
            rw [hac5] at HW5
            have HAC5 := Lib.hid hac5
            obtain ⟨n5, hn5⟩ : ∃ k, ac5.length = k := ⟨_, rfl⟩
            have hn5v : n5 = nb + nk := by rw [← hn5, ← hac5, List.length_append, HNB.out, HNK.out]
            have hb5 : n5 + 1 + nx ≤ 140737488355328 := by omega
            have HN5 := Lib.hid hn5
            clear hw5 hac5 hn5v
            go_wp2_with (at_builtin; refine wpList_append_lies _ rfl _ _ 34 rfl B 5 i0 (.int .u8 0) 1 1 Tryz.underlying34 hi5 hz0 hz1 hz2 rfl (by decide) _ _ _ rfl (HW5.out.own.alloc _) ⟨w5.heap.size, 0, none⟩ 1 1 [.int .u8 58] rfl rfl (World.news_of_block (blk_new _ _)) (by simp [Value.oneCell']) (by decide) (by unfold maxLen; omega) (by omega) (by have := HW5.out.below.size; simp; omega) _ rfl ?_)
            intro g w6c w6 hown hgr _ _
            have HW6 := Lib.hid (HW5.out.more hB hgr hown (bs := [58]) rfl (by have := HN5.out; simp; omega))
            clear hown hgr
            have HH6 := Lib.hid (has_belowB HH.out HW6.out.below HRB.out)
            obtain ⟨k4', k0', k5'⟩ := HD.out _ HH6.out
            have kc' := HC.out _ HH6.out
            go_wp2_with fail
            generalize Value.slice (some ⟨g, 0, none⟩) (n5 + 1) w6c = v6 at *
            obtain ⟨ac6, hac6⟩ : ∃ y, ac5 ++ [58] = y := ⟨_, rfl⟩
            rw [hac6] at HW6
            have HAC6 := Lib.hid hac6
            have hn6 : ac6.length = n5 + 1 := by rw [← hac6, List.length_append, HN5.out]; rfl
            have HN6 := Lib.hid hn6
            have hB6 : B ≤ w6.heap.size := Nat.le_trans hB HW6.out.below.size
            clear hac6 hn6
            refine (IH x.2 HXS.out r B w6 HH6.out HIS.out HXO.out HRB.out hB6 v6 ac6 HW6.out.own (by rw [HN6.out, HNX.out]; omega)).mono ?_
            rintro e w9 ⟨v9, rfl, hw9⟩
            have HW9 := Lib.hid (HW6.out.trans hw9)
            clear hw9
            go_wp2_with fail
            go_roundw
            case rel => exact ⟨i + 1, v9, rfl, by simp, hlt, by rw [HTK.out, ← List.append_assoc, HAC.out]; have h1 := HW9.out; rw [← HAC6.out, ← HAC5.out] at h1; simpa using h1⟩
            case measure => simp; omega
          · have h0' : (0 : Int) < (i : Int) := by omega
            rw [if_neg h0] at hle2 HTK
            have hbx : nb + 1 + nk + 1 + nx ≤ 140737488355328 := by rw [HNV.out]; simp at hle2; omega
            clear hle2 h0
            obtain ⟨j4, j0, j5⟩ := HD.out _ HHR.out
            go_wp2_with (at_builtin; refine wpList_append_lies _ rfl _ _ 34 rfl B 5 i0 (.int .u8 0) 1 1 Tryz.underlying34 hi5 hz0 hz1 hz2 rfl (by decide) _ _ _ rfl (HW.out.own.alloc _) ⟨wr.heap.size, 0, none⟩ 1 1 [.int .u8 44] rfl rfl (World.news_of_block (blk_new _ _)) (by simp [Value.oneCell']) (by decide) (by unfold maxLen; omega) (by omega) (by have := HW.out.below.size; simp; omega) _ rfl ?_)
            intro g w4c w4 hown hgr _ _
            have HW4 := Lib.hid (HW.out.more hB hgr hown (bs := [44]) rfl (by have := HNB.out; simp; omega))
            clear hown hgr
            have HH4 := Lib.hid (has_belowB HH.out HW4.out.below HRB.out)
            obtain ⟨k4, k0, k5⟩ := HD.out _ HH4.out
            have kc := HC.out _ HH4.out
            have kk := HKC.out _ HH4.out
            go_wp2_with fail
            generalize Value.slice (some ⟨g, 0, none⟩) (nb + 1) w4c = v4 at *
            obtain ⟨ac4, hac4⟩ : ∃ y, ac ++ [44] = y := ⟨_, rfl⟩
            rw [hac4] at HW4
            have HAC4 := Lib.hid hac4
            have hn4 : ac4.length = nb + 1 := by rw [← hac4, List.length_append, HNB.out]; rfl
            have HN4 := Lib.hid hn4
            have hB4 : B ≤ w4.heap.size := Nat.le_trans hB HW4.out.below.size
            clear hac4 hn4
            refine (rquote_any B w4 v4 ac4 HW4.out.own hB4 ks (by rw [HKS.out, HN4.out, HNK.out]; omega)).mono ?_
            rintro e w5 ⟨v5, rfl, hw5⟩
            rw [HKS.out] at hw5
            have HW5 := Lib.hid (HW4.out.trans hw5)
            obtain ⟨ac5, hac5⟩ : ∃ y, ac4 ++ quoteL x.1 = y := ⟨_, rfl⟩
            rw [hac5] at HW5
            have HAC5 := Lib.hid hac5
            obtain ⟨n5, hn5⟩ : ∃ k, ac5.length = k := ⟨_, rfl⟩
            have hn5v : n5 = nb + 1 + nk := by rw [← hn5, ← hac5, List.length_append, HN4.out, HNK.out]
            have hb5 : n5 + 1 + nx ≤ 140737488355328 := by omega
            have HN5 := Lib.hid hn5
            clear hw5 hac5 hn5v
            go_wp2_with (at_builtin; refine wpList_append_lies _ rfl _ _ 34 rfl B 5 i0 (.int .u8 0) 1 1 Tryz.underlying34 hi5 hz0 hz1 hz2 rfl (by decide) _ _ _ rfl (HW5.out.own.alloc _) ⟨w5.heap.size, 0, none⟩ 1 1 [.int .u8 58] rfl rfl (World.news_of_block (blk_new _ _)) (by simp [Value.oneCell']) (by decide) (by unfold maxLen; omega) (by omega) (by have := HW5.out.below.size; simp; omega) _ rfl ?_)
            intro g w6c w6 hown hgr _ _
            have HW6 := Lib.hid (HW5.out.more hB hgr hown (bs := [58]) rfl (by have := HN5.out; simp; omega))
            clear hown hgr
            have HH6 := Lib.hid (has_belowB HH.out HW6.out.below HRB.out)
            obtain ⟨k4', k0', k5'⟩ := HD.out _ HH6.out
            have kc' := HC.out _ HH6.out
            go_wp2_with fail
            generalize Value.slice (some ⟨g, 0, none⟩) (n5 + 1) w6c = v6 at *
            obtain ⟨ac6, hac6⟩ : ∃ y, ac5 ++ [58] = y := ⟨_, rfl⟩
            rw [hac6] at HW6
            have HAC6 := Lib.hid hac6
            have hn6 : ac6.length = n5 + 1 := by rw [← hac6, List.length_append, HN5.out]; rfl
            have HN6 := Lib.hid hn6
            have hB6 : B ≤ w6.heap.size := Nat.le_trans hB HW6.out.below.size
            clear hac6 hn6
            refine (IH x.2 HXS.out r B w6 HH6.out HIS.out HXO.out HRB.out hB6 v6 ac6 HW6.out.own (by rw [HN6.out, HNX.out]; omega)).mono ?_
            rintro e w9 ⟨v9, rfl, hw9⟩
            have HW9 := Lib.hid (HW6.out.trans hw9)
            clear hw9
            go_wp2_with fail
            go_roundw
            case rel => exact ⟨i + 1, v9, rfl, by simp, hlt, by rw [HTK.out, ← List.append_assoc, HAC.out]; have h1 := HW9.out; rw [← HAC6.out, ← HAC5.out] at h1; rw [← HAC4.out] at h1; simpa using h1⟩
            case measure => simp; omega
        · have hie : i = m := by omega
          subst hie
          have hfull := HAC.out
          rw [List.take_of_length_le (by rw [HML.out]; exact Nat.le_refl _)] at hfull
          have HFU := Lib.hid (show acc ++ printL (.obj l) = ac ++ [125] by rw [← hfull]; simp [printL])
          have hbx : nb + 1 ≤ 140737488355328 := by rw [HNV.out]; omega
          clear hfull hle
          go_wp2_with (at_builtin; refine wpList_append_lies _ rfl _ _ 34 rfl B 5 i0 (.int .u8 0) 1 1 Tryz.underlying34 hi5 hz0 hz1 hz2 rfl (by decide) _ _ _ rfl (HW.out.own.alloc _) ⟨wr.heap.size, 0, none⟩ 1 1 [.int .u8 125] rfl rfl (World.news_of_block (blk_new _ _)) (by simp [Value.oneCell']) (by decide) (by unfold maxLen; omega) (by omega) (by have := HW.out.below.size; simp; omega) _ rfl ?_)
          intro g w4c w4 hown hgr _ _
          have HW4 := Lib.hid (HW.out.more hB hgr hown (bs := [125]) rfl (by have := HNB.out; simp; omega))
          clear hown hgr
          skip
          go_wp2_with fail
          generalize Value.slice (some ⟨g, 0, none⟩) (nb + 1) w4c = v4 at *
          go_ret
          exact ⟨_, rfl, by rw [HFU.out]; exact HW4.out⟩
end Toc

namespace Toc
open Go Go.RowKit Go.Proofs

theorem rwrite_any : ∀ (n : Nat), RWOk n
  | 0, v, h => by cases v <;> simp at h
  | n + 1, v, hn => by
    intro r B w hh q hv hok hrB hB vs acc hown hlen
    by_cases hl : ∃ l, v = .list l
    · obtain ⟨l, rfl⟩ := hl
      exact rwrite_list (rwrite_any n) l hn r B w hh hv hok hrB hB vs acc hown hlen
    · by_cases ho : ∃ l, v = .obj l
      · obtain ⟨l, rfl⟩ := ho
        exact rwrite_obj (rwrite_any n) l hn r B w hh hv hok hrB hB vs acc hown hlen
      · exact rwrite_plain v (fun l h => hl ⟨l, h⟩) (fun l h => ho ⟨l, h⟩) r B w hh hv hok hrB hB vs acc hown hlen
end Toc

namespace Toc
open Go Go.RowKit Go.Proofs

set_option maxRecDepth 100000 in
set_option maxHeartbeats 4000000 in
theorem rprint_any (r : Ro) (w : World) (hh : Has r w) {q : Nat} {v : JV} (hv : IsR r q v) (hok : JOk v) (hlen : (printL v).length ≤ 140737488355328) {s : ByteArray} (hs : mkS (printL v) = s) :
    Calls Tryz.prog 45 #[ptrV q] w fun e w' => e = .returned (.string s) ∧ Below w.heap.size w w' := by
  have HP := Lib.hid (rwrite_any _ v (Nat.le_refl _) r w.heap.size w hh hv hok (fun k o hk => blk_lt (hh k o hk)) (Nat.le_refl _) nilS [] (World.ownsRow_nil _ _ _ _) (by simpa using hlen))
  have HS := Lib.hid hs
  clear hh hv hok hlen hs
  go_enter Tryz.func45, Tryz.ntmps45
  go_wp2_with fail
  refine HP.out.mono ?_
  rintro e w1 ⟨v1, rfl, hw1⟩
  rw [List.nil_append] at hw1
  have hcv := OwnBytes.conv (base := w.heap.size) hw1.own
  rw [show (mkS (printL v)) = s from HS.out] at hcv
  have HB1 := Lib.hid hw1.below
  clear hw1
  go_wp2_with fail
  go_ret
  exact ⟨rfl, HB1.out⟩

end Toc
