/-
  Item2: The closure that reads a list's item: the walk.
  Member: How an object lies while it is read, and what one member more leaves.
  Jok: What jsonval reads is sound: numbers within the limits, members by rising keys, sizes bounded. No program in sight; no condition.
  Member2: The walk over a member of an object.
  Member3: The closure that reads an object's member.
-/
import Derived.Test.YtblbdgepocfngaaGreatDoorW5
import Derived.Test.YtblbdgepocfngaaGreatDoorW6
namespace Toc
open Go Go.RowKit Go.Proofs

theorem Stands.of_drew {C : PC} {w w1 : World} {n j d : Nat} (s : Stands C (w.drewN n) w1 j d) : Stands C w w1 j d := ⟨s.at_, ((Only.refl [C.pb] w).drewN n).trans s.only, s.pos⟩

set_option maxRecDepth 100000 in
set_option maxHeartbeats 4000000 in
theorem item_any (C : PC) (w0 : World) (i0 d0 d : Nat) (hp0 : PW C w0 i0 d0) (hd : d ≤ 10) (one : Bytes → Option (JV × Bytes))
    (IH : ∀ w i, PW C w i d → i < C.bs.length → Calls Tryz.prog 58 #[ptrV C.pb] w fun e w' => ValOf C w d (one (C.bs.drop i)) e w')
    (b1 q b4 base : Nat) (hpl : Places C w0 b1 q b4 base) (k : Nat) (xs : List JV) (w : World) (i : Nat) (hk : k < 64) (hinv : ListInv C base b1 q b4 k xs w) (hst : Stands C w0 w i d) (hi : i < C.bs.length) {o : Option (List JV × Bytes)} (ho : itemL one xs (C.bs.drop i) = o) :
    Calls Tryz.prog 138 #[ptrV b4, ptrV b1] w fun e w' => RowRes C w0 d (ListInv C base b1 q b4 (k + 1)) o e w' := by
  have HP := Lib.hid hp0
  have HS := Lib.hid hst
  have HI := Lib.hid hinv
  have box := hinv.box
  have ptr := hinv.ptr
  obtain ⟨sv, qs, r, hq, hown, hql, hrf, hhas, hrg, hisv⟩ := hinv.row
  have HQ := Lib.hid hq
  have HW := Lib.hid hown
  have HR := Lib.hid (And.intro hrf (And.intro hhas (And.intro hrg hisv)))
  unfold vObj at hq
  have c4 := blk_cell hq 4
  have f4 := blk_free hq 4
  have HIH := Lib.hid IH
  clear hq hown hrf hhas hrg hisv hinv hst hp0 IH
  obtain ⟨i0, hi5, hz0, hz1, hz2⟩ := info_parts (show (Tryz.prog.info? 29).map (fun i => (i.zero, i.size, i.bytes)) = some (some (.pointer none), 1, 8) by kernel_rfl)
  go_enter Tryz.func138, Tryz.ntmps138
  have hne : ∀ b, w0.heap.size ≤ b → b ∉ [C.pb] := fun b hb => by have := hpl.pb; simp; omega
  have hn4 := hne b4 (by have := hpl.h0; have := hpl.h4; omega)
  have hnq := hne q hpl.h0
  have hn1 : b1 ∉ [C.pb] := by have := hpl.h1; simp; omega
  have HNE := Lib.hid hne
  clear hne
  go_region_law (first
    | (refine step_append_lies _ rfl (.tmp 6) (.tmp 9) 114 rfl base 29 i0 (.pointer none) 1 8 Tryz.underlying114 hi5 hz0 hz1 hz2 rfl (by decide) sv k (qs.map ptrV) (by simp [Act.eval]) (own_only hown1.out ((Only.refl [] w1).alloc _) (by simp)) ⟨w1.heap.size, 0, none⟩ 1 1 [ptrV qv] (by simp [Act.eval]) rfl (World.news_of_block (blk_new w1 _)) (by simp [Value.oneCell']) (by decide) (by unfold maxLen; omega) (by omega) (by have := HI.out.size; have := only1.out.size; simp; omega) _ rfl ?_
       intro g cap w2 hown2 hgr hat hlt
       have hq2 := Lib.hid (after_append (only1.out.heap HQ.out hnq) (Nat.lt_trans hpl.h4 hpl.hb) hown1.out hgr)
       have f2 := blk_free hq2.out 4
       have r4 := hgr.cell (q4 _) (show some b4 ≠ sv.ownBlock from fun e => by have := (hown1.out.lt b4 e.symm).1; have := hpl.hb; omega)
       have r1 := hgr.cell (q1 _) (show some b1 ≠ sv.ownBlock from fun e => by have := (hown1.out.lt b1 e.symm).1; have := hpl.hq; have := hpl.h4; have := hpl.hb; omega)
       have k2 : w2.cell? ⟨q, 4, none⟩ = some sv := blk_cell hq2.out 4)
    | (go_simp
       go_at_call 58
       refine (HIH.out _ i ((HS.out.drewN _).pw' HP.out hd) hi).mono ?_
       intro e w1 hv
       rcases hone : one (C.bs.drop i) with _ | ⟨v, t⟩
       · rw [hone] at hv
         obtain ⟨f, p, c, b, h1, rfl, h3, h4, h5⟩ := hv
         have hoo : o = none := by rw [← ho]; unfold itemL; rw [hone]; rfl
         subst hoo
         exact ⟨rfl, Fails.before ((HS.out.drewN 1).only) ⟨f, p, c, b, h1, rfl, h3, h4, h5⟩⟩
       rw [hone] at hv
       obtain ⟨j, qv, rfl, hst1, hj1, hm1⟩ := hv
       have HOO := Lib.hid (show o = some (xs ++ [v], t) by rw [← ho]; unfold itemL; rw [hone]; rfl)
       have only1 := Lib.hid (((Only.refl [C.pb] w).drewN 1).trans hst1.only)
       have hown1 := Lib.hid (own_only HW.out only1.out (by have := hpl.pb; have := hpl.h1; have := hpl.hq; have := hpl.h4; have := hpl.hb; intro b hb; simp at hb; omega))
       have HST1 := Lib.hid (Stands.of_drew hst1)
       have HM1 := Lib.hid hm1
       have HJ1 := Lib.hid hj1
       have p1 := only1.out.cell box hn1
       have p4 := only1.out.cell ptr hn4
       have pq := only1.out.cell c4 hnq
       have q1 := fun o => cell_alloc p1 o
       have q4 := fun o => cell_alloc p4 o
       have qq := fun o => cell_alloc pq o
       clear hst1 hm1 hj1))
  all_goals
    go_end0
    rw [HOO.out]
    exact item_end hpl HI.out HS.out HW.out hql HR.out only1.out HST1.out HJ1.out HM1.out hown2 hgr hat hq2.out r1 r4

end Toc

namespace Toc
open Go Go.RowKit Go.Proofs

theorem memC_put : ∀ (i : Nat) (ms : List (Bytes × JV)) (qs : List Nat) (m : Bytes × JV) (q : Nat), i ≤ ms.length → ms.length = qs.length →
    memC (putAt ms i m) (putAt qs i q) = (memC ms qs).take (2 * i) ++ [.string (mkS m.1), ptrV q] ++ (memC ms qs).drop (2 * i)
  | 0, ms, qs, m, q, _, _ => by simp [putAt, memC]
  | i + 1, [], _, _, _, h, _ => by simp at h
  | i + 1, _ :: _, [], _, _, _, h => by simp at h
  | i + 1, x :: ms, y :: qs, m, q, h, h' => by
    have := memC_put i ms qs m q (by simpa using h) (by simpa using h')
    unfold putAt at this ⊢
    rw [show 2 * (i + 1) = 2 * i + 1 + 1 by omega]
    simp only [List.take_succ_cons, List.drop_succ_cons, List.cons_append, memC, this]
theorem memC_one (ms : List (Bytes × JV)) (qs : List Nat) : ∀ v ∈ memC ms qs, v.oneCell' = true := by
  induction ms generalizing qs with
  | nil => intro v hv; simp [memC] at hv
  | cons m ms ih =>
    cases qs with
    | nil => intro v hv; simp [memC] at hv
    | cons q qs =>
      intro v hv
      simp only [memC, List.mem_cons] at hv
      rcases hv with rfl | rfl | hv
      · rfl
      · rfl
      · exact ih qs v hv
theorem length_put {α : Type} (l : List α) (i : Nat) (x : α) (h : i ≤ l.length) : (putAt l i x).length = l.length + 1 := by
  unfold putAt; simp only [List.length_append, List.length_take, List.length_cons, List.length_drop]; omega

structure MemInv (C : PC) (base b1 q b4 : Nat) (k : Nat) (ms : List (Bytes × JV)) (w : World) : Prop where
  len : ms.length = k
  size : base ≤ w.heap.size
  box : w.cell? ⟨b1, 0, none⟩ = some (ptrV C.pb)
  ptr : w.cell? ⟨b4, 0, none⟩ = some (ptrV q)
  rise : Rising ms
  row : ∃ (sv : Value) (qs : List Nat) (r : Ro), w.heap[q]? = some (vObj 5 false 0 emptyS nilS sv) ∧ w.ownsRow base 119 2 sv k (memC ms qs) ∧ qs.length = k ∧ r.from base ∧ Has r w ∧ (∀ g, sv.ownBlock = some g → r g = none) ∧
    ∀ (i : Nat) (m : Bytes × JV) (qx : Nat), ms[i]? = some m → qs[i]? = some qx → IsV r qx m.2

theorem MemInv.only {C : PC} {base b1 q b4 k : Nat} {ms : List (Bytes × JV)} {w w' w0 : World} (hpl : Places C w0 b1 q b4 base) (h : MemInv C base b1 q b4 k ms w) (ho : Only [C.pb] w w') : MemInv C base b1 q b4 k ms w' := by
  obtain ⟨sv, qs, r, h1, h2, h3, h4, h5, h6, h7⟩ := h.row
  have hpb := hpl.pb; have hh1 := hpl.h1; have hq := hpl.hq; have h44 := hpl.h4; have hb := hpl.hb
  refine ⟨h.len, Nat.le_trans h.size ho.size, ho.cell h.box (by simp; omega), ho.cell h.ptr (by simp; omega), h.rise, sv, qs, r, ho.heap h1 (by simp; omega), own_only h2 ho (by simp; omega), h3, h4, h5.only ho (fun b hb' => ?_), h6, h7⟩
  simp at hb'; subst hb'; exact Ro.from_ne h4 (by omega)
theorem ListInv.only {C : PC} {base b1 q b4 k : Nat} {xs : List JV} {w w' w0 : World} (hpl : Places C w0 b1 q b4 base) (h : ListInv C base b1 q b4 k xs w) (ho : Only [C.pb] w w') : ListInv C base b1 q b4 k xs w' := by
  obtain ⟨sv, qs, r, h1, h2, h3, h4, h5, h6, h7⟩ := h.row
  have hpb := hpl.pb; have hh1 := hpl.h1; have hq := hpl.hq; have h44 := hpl.h4; have hb := hpl.hb
  refine ⟨h.len, Nat.le_trans h.size ho.size, ho.cell h.box (by simp; omega), ho.cell h.ptr (by simp; omega), sv, qs, r, ho.heap h1 (by simp; omega), own_only h2 ho (by simp; omega), h3, h4, h5.only ho (fun b hb' => ?_), h6, h7⟩
  simp at hb'; subst hb'; exact Ro.from_ne h4 (by omega)

theorem mem_end {C : PC} {w0 w w1 w2 : World} {d i j : Nat} {b1 q b4 base k : Nat} {ms : List (Bytes × JV)} {qs : List Nat} {sv : Value} {r : Ro} {v : JV} {t : Bytes} {qv g cap : Nat} {ob : Obj} {key : Bytes}
    (hpl : Places C w0 b1 q b4 base) (hinv : MemInv C base b1 q b4 k ms w) (hS : Stands C w0 w i d) (hW : w.ownsRow base 119 2 sv k (memC ms qs)) (hql : qs.length = k) (hka : keyAt ms (keyPlace ms key) key = false)
    (hR : r.from base ∧ Has r w ∧ (∀ g, sv.ownBlock = some g → r g = none) ∧ ∀ (i : Nat) (m : Bytes × JV) (qx : Nat), ms[i]? = some m → qs[i]? = some qx → IsV r qx m.2)
    (only1 : Only [C.pb] w w1) (hst1 : Stands C w w1 j d) (hj : C.bs.drop j = t) (hm1 : Made w.heap.size w1 qv v)
    (hown2 : w2.ownsRow base 119 2 (.slice (some ⟨g, 0, none⟩) (k + 1) cap) (k + 1) ((memC ms qs).take (2 * keyPlace ms key) ++ [.string (mkS key), ptrV qv] ++ (memC ms qs).drop (2 * keyPlace ms key))) (hgr : (w1.alloc ob).grownBy w2 sv.ownBlock)
    (hat : sv.ownBlock = some g ∨ (w1.alloc ob).heap.size ≤ g) (hq2 : w2.heap[q]? = some (vObj 5 false 0 emptyS nilS sv)) :
    RowRes C w0 d (MemInv C base b1 q b4 (k + 1)) (some (putAt ms (keyPlace ms key) (key, v), t)) (.returned (.tuple #[])) (w2.setCell ⟨q, 5, none⟩ (.slice (some ⟨g, 0, none⟩) (k + 1) cap)) := by
  have hpb := hpl.pb
  have h0 := hpl.h0
  have h1 := hpl.h1
  have hq := hpl.hq
  have h4 := hpl.h4
  have hb := hpl.hb
  obtain ⟨hrf, hhas, hrg, hisv⟩ := hR
  obtain ⟨r1, hr1f, hr1h, hr1v⟩ := hm1
  have hsz := hinv.size
  have hownlt := hW.lt
  have hkp : keyPlace ms key ≤ ms.length := keyPlace_le ms key
  have hr1g : ∀ g, sv.ownBlock = some g → r1 g = none := fun g hg => Ro.from_ne hr1f (hownlt g hg).2
  have hr1 : Has r w1 := hhas.only only1 (fun b hb => by simp at hb; subst hb; exact Ro.from_ne hrf (by omega))
  have hrq : r q = none := Ro.from_ne hrf (by omega)
  have hr1q : r1 q = none := Ro.from_ne hr1f (by omega)
  have ha : Has r (w2.setCell ⟨q, 5, none⟩ (.slice (some ⟨g, 0, none⟩) (k + 1) cap)) := ((hr1.alloc ob).grown hgr hrg).setCell hrq _
  have hb' : Has r1 (w2.setCell ⟨q, 5, none⟩ (.slice (some ⟨g, 0, none⟩) (k + 1) cap)) := ((hr1h.alloc ob).grown hgr hr1g).setCell hr1q _
  have hnone : ∀ (r : Ro), Has r w1 → (∀ g, sv.ownBlock = some g → r g = none) → r g = none := fun r hr hrg => by
    rcases hat with h | h
    · exact hrg g h
    · cases hx : r g with
      | none => rfl
      | some o => have := blk_lt (hr g o hx); simp at h; omega
  have hs3 : Stands C w0 (w2.setCell ⟨q, 5, none⟩ (.slice (some ⟨g, 0, none⟩) (k + 1) cap)) j d :=
    ((((hS.trans hst1).more ((Only.refl [] w1).alloc ob)).grown hpb hgr (fun k hk => by have := (hownlt k hk).1; omega)).setNew (by show w0.heap.size ≤ q; omega) hpb _)
  have hcell : ∀ b v, b < base → b ≠ q → b ∉ [C.pb] → w.cell? ⟨b, 0, none⟩ = some v → (w2.setCell ⟨q, 5, none⟩ (.slice (some ⟨g, 0, none⟩) (k + 1) cap)).cell? ⟨b, 0, none⟩ = some v := fun b v hbb hbq hbn hc => by
    rw [cell_set_other _ (by show b ≠ q; exact hbq)]
    exact hgr.cell (cell_alloc (only1.cell hc hbn) ob) (fun e => by have := (hownlt b e.symm).1; omega)
  refine ⟨j, rfl, hs3, hj, ?_⟩
  refine ⟨by rw [length_put _ _ _ hkp, hinv.len], ?_, hcell b1 _ (by omega) (by omega) (by simp; omega) hinv.box, hcell b4 _ (by omega) (by omega) (by simp; omega) hinv.ptr, rising_put hinv.rise hka, .slice (some ⟨g, 0, none⟩) (k + 1) cap, putAt qs (keyPlace ms key) qv, r.or r1, ?_, ?_, by rw [length_put _ _ _ (by rw [hql, ← hinv.len]; exact hkp), hql], Ro.from_or hrf (Ro.from_mono hr1f hsz), ha.or hb', ?_, ?_⟩
  · have := only1.size; have := hgr.size; simp [World.setCell] at *; omega
  · have := blk_set (v := .slice (some ⟨g, 0, none⟩) (k + 1) cap) hq2 5
    simpa [vObj] using this
  · rw [memC_put _ _ _ _ _ hkp (by rw [hinv.len, hql])]
    exact own_set hown2 (p := ⟨q, 5, none⟩) (by show q < base; omega) (.slice (some ⟨g, 0, none⟩) (k + 1) cap)
  · intro g' hg'
    cases hg'
    unfold Ro.or
    rw [hnone r hr1 hrg, hnone r1 hr1h hr1g]; rfl
  · intro i m qx hm hqx
    rw [putAt_get _ _ _ hkp] at hm
    rw [putAt_get _ _ _ (by rw [hql, ← hinv.len]; exact hkp)] at hqx
    split at hm
    · rename_i h; rw [if_pos h] at hqx
      exact (hisv _ _ _ hm hqx).mono (Ro.le_left r r1)
    · rename_i h; rw [if_neg h] at hqx
      split at hm
      · rename_i h'; rw [if_pos h'] at hqx
        cases hm; cases hqx
        exact hr1v.mono (Ro.le_right ha hb')
      · rename_i h'; rw [if_neg h'] at hqx
        exact (hisv _ _ _ hm hqx).mono (Ro.le_left r r1)

end Toc

namespace Toc
open Go Go.RowKit Go.Proofs

inductive JOk : JV → Prop
  | null : JOk .null
  | bool (b : Bool) : JOk (.bool b)
  | int {n : Int} : -9007199254740991 ≤ n → n ≤ 9007199254740991 → JOk (.int n)
  | text {s : Bytes} : s.length ≤ 1073741824 → JOk (.text s)
  | list {l : List JV} : l.length ≤ 1048576 → (∀ x ∈ l, JOk x) → JOk (.list l)
  | obj {l : List (Bytes × JV)} : l.length ≤ 1048576 → Rising l → (∀ m ∈ l, m.1.length ≤ 1073741824) → (∀ m ∈ l, JOk m.2) → JOk (.obj l)

theorem encodeRune_len (r : Int) : (Lib.encodeRune r).length ≤ 4 := by
  unfold Lib.encodeRune Lib.encodeRuneZ
  rw [List.length_map]
  repeat' split
  all_goals simp

theorem textF_len : ∀ (f : Nat) (l : Bytes) (p : Bytes × Bytes), textF f l = some p → p.1.length + 2 * p.2.length ≤ 2 * l.length
  | 0, _, _, h => by cases h
  | _ + 1, [], _, h => by cases h
  | f + 1, c :: l, p, h => by
    rw [textF] at h
    split at h
    · cases h; simp; omega
    · split at h
      · cases h
      · split at h
        · split at h
          · cases h
          · rename_i r l' he
            obtain ⟨q, hq, rfl⟩ := Option.map_eq_some_iff.1 h
            have h1 := textF_len f l' q hq
            have h2 := escL_len he
            have h3 := encodeRune_len r
            simp only [List.length_append] at h1 ⊢
            omega
        · split at h
          · cases h
          · obtain ⟨q, hq, rfl⟩ := Option.map_eq_some_iff.1 h
            have h1 := textF_len f _ q hq
            have h2 := headRune_le (c :: l) (by simp)
            rw [List.length_drop] at h1
            simp only [List.length_append, List.length_take]
            omega
theorem textL_len {l : Bytes} {p : Bytes × Bytes} (h : textL l = some p) : p.1.length + 2 * p.2.length ≤ 2 * l.length := textF_len _ _ _ h

theorem dropWhile_len (p : UInt8 → Bool) (l : Bytes) : (l.dropWhile p).length ≤ l.length := (List.dropWhile_sublist p).length_le
theorem mustL_len {l r : Bytes} (h : mustL l = some r) : r.length ≤ l.length := by
  obtain ⟨c, t, rfl, hs⟩ := mustL_some h
  rw [← hs]; exact dropWhile_len _ _

/-- What one thing's reader keeps. -/
def OneOk (n : Nat) (one : Bytes → Option (JV × Bytes)) : Prop := ∀ l v r, l.length ≤ n → one l = some (v, r) → JOk v ∧ r.length ≤ l.length

theorem rowL_ok {σ : Type} {n : Nat} {one : σ → Bytes → Option (σ × Bytes)} (I : Nat → σ → Prop) (close : UInt8) (h1 : ∀ k s l s' r, l.length ≤ n → I k s → one s l = some (s', r) → I (k + 1) s' ∧ r.length ≤ l.length) :
    ∀ (m k : Nat) (s : σ) (l : Bytes) (s' : σ) (r : Bytes), l.length ≤ n → I k s → rowL one close m s l = some (s', r) → (∃ j, j ≤ m ∧ I (k + j) s') ∧ r.length ≤ l.length
  | 0, _, _, _, _, _, _, _, h => by cases h
  | m + 1, k, s, l, s', r, hl, hi, h => by
    rw [rowL] at h
    cases hm : mustL l with
    | none => rw [hm] at h; cases h
    | some l1 =>
      rw [hm] at h
      dsimp only at h
      have e1 := mustL_len hm
      cases ho : one s l1 with
      | none => rw [ho] at h; cases h
      | some q =>
        obtain ⟨s1, l2⟩ := q
        rw [ho] at h
        dsimp only at h
        obtain ⟨i1, e2⟩ := h1 k s l1 s1 l2 (by omega) hi ho
        cases hm2 : mustL l2 with
        | none => rw [hm2] at h; cases h
        | some l3 =>
          rw [hm2] at h
          have e3 := mustL_len hm2
          cases l3 with
          | nil => cases h
          | cons c l4 =>
            dsimp only at h
            simp only [List.length_cons] at e3
            split at h
            · cases h
              exact ⟨⟨1, by omega, i1⟩, by omega⟩
            · split at h
              · obtain ⟨⟨j, hj, ij⟩, e4⟩ := rowL_ok I close h1 m (k + 1) s1 l4 s' r (by omega) i1 h
                exact ⟨⟨1 + j, by omega, by rw [← Nat.add_assoc]; exact ij⟩, by omega⟩
              · cases h
theorem rowTop_ok {σ : Type} {n : Nat} {one : σ → Bytes → Option (σ × Bytes)} (I : Nat → σ → Prop) (close : UInt8) (h1 : ∀ k s l s' r, l.length ≤ n → I k s → one s l = some (s', r) → I (k + 1) s' ∧ r.length ≤ l.length)
    (s : σ) (l : Bytes) (s' : σ) (r : Bytes) (hl : l.length ≤ n) (hi : I 0 s) (h : rowTop one close s l = some (s', r)) : (∃ j, j ≤ 64 ∧ I j s') ∧ r.length ≤ l.length := by
  unfold rowTop at h
  cases hm : mustL l with
  | none => rw [hm] at h; cases h
  | some l1 =>
    rw [hm] at h
    have e1 := mustL_len hm
    cases l1 with
    | nil => cases h
    | cons c l2 =>
      dsimp only at h
      simp only [List.length_cons] at e1
      split at h
      · cases h
        exact ⟨⟨0, by omega, hi⟩, by omega⟩
      · obtain ⟨⟨j, hj, ij⟩, e2⟩ := rowL_ok I close h1 64 0 s l s' r hl hi h
        exact ⟨⟨j, hj, by simpa using ij⟩, e2⟩

theorem itemL_ok {n : Nat} {one : Bytes → Option (JV × Bytes)} (h1 : OneOk n one) (k : Nat) (s : List JV) (l : Bytes) (s' : List JV) (r : Bytes) (hl : l.length ≤ n) (hi : s.length = k ∧ ∀ x ∈ s, JOk x) (h : itemL one s l = some (s', r)) :
    (s'.length = k + 1 ∧ ∀ x ∈ s', JOk x) ∧ r.length ≤ l.length := by
  unfold itemL at h
  obtain ⟨q, hq, he⟩ := Option.map_eq_some_iff.1 h
  cases he
  obtain ⟨a, b⟩ := h1 l q.1 q.2 hl hq
  refine ⟨⟨by simp [hi.1], fun x hx => ?_⟩, b⟩
  rcases List.mem_append.1 hx with hx | hx
  · exact hi.2 x hx
  · rw [List.mem_singleton.1 hx]; exact a
theorem memberL_ok {n : Nat} {one : Bytes → Option (JV × Bytes)} (hn : n ≤ 4096) (h1 : OneOk n one) (k : Nat) (s : List (Bytes × JV)) (l : Bytes) (s' : List (Bytes × JV)) (r : Bytes) (hl : l.length ≤ n)
    (hi : s.length = k ∧ Rising s ∧ ∀ m ∈ s, m.1.length ≤ 1073741824 ∧ JOk m.2) (h : memberL one s l = some (s', r)) :
    (s'.length = k + 1 ∧ Rising s' ∧ ∀ m ∈ s', m.1.length ≤ 1073741824 ∧ JOk m.2) ∧ r.length ≤ l.length := by
  unfold memberL at h
  split at h
  · rename_i l1
    split at h
    · cases h
    · rename_i key l2 ht
      have e1 := textL_len ht
      simp only [List.length_cons] at hl ⊢ e1
      split at h
      · cases h
      · rename_i hka
        split at h
        · rename_i l4 hm
          have e2 := mustL_len hm
          simp only [List.length_cons] at e2
          split at h
          · cases h
          · rename_i l5 hm2
            have e3 := mustL_len hm2
            split at h
            · cases h
            · rename_i v l6 ho
              obtain ⟨a, b⟩ := h1 l5 v l6 (by omega) ho
              cases h
              have hkp := keyPlace_le s key
              refine ⟨⟨by rw [length_put _ _ _ hkp, hi.1], rising_put hi.2.1 (by simpa using hka), fun m hm => ?_⟩, by omega⟩
              unfold putAt at hm
              rcases List.mem_append.1 hm with hm | hm
              · exact hi.2.2 m (List.mem_of_mem_take hm)
              · rcases List.mem_cons.1 hm with rfl | hm
                · exact ⟨by dsimp only; omega, a⟩
                · exact hi.2.2 m (List.mem_of_mem_drop hm)
        · cases h
  · cases h

theorem plainL_ok {c : UInt8} {l : Bytes} {v : JV} {r : Bytes} (hl : l.length ≤ 4096) (h : plainL c l = some (v, r)) : JOk v ∧ r.length ≤ l.length + 1 := by
  unfold plainL at h
  split at h
  · unfold wordL at h
    obtain ⟨q, hq, he⟩ := Option.map_eq_some_iff.1 h
    cases he
    refine ⟨?_, by have := dropWhile_len letterB (c :: l); simpa using this⟩
    unfold wordOfL at hq
    split at hq
    · cases hq; exact .null
    · split at hq
      · cases hq; exact .bool _
      · split at hq
        · cases hq; exact .bool _
        · cases hq
  · split at h
    · unfold numberL at h
      obtain ⟨q, hq, he⟩ := Option.map_eq_some_iff.1 h
      cases he
      refine ⟨?_, by have := dropWhile_len numericB (c :: l); simpa using this⟩
      rw [numOf_eq] at hq
      split at hq
      · rename_i h3
        cases hq
        have := signed_range (t := (c :: l).takeWhile numericB) h3.2.2
        exact .int this.1 this.2
      · cases hq
    · split at h
      · obtain ⟨q, hq, he⟩ := Option.map_eq_some_iff.1 h
        cases he
        have := textL_len hq
        exact ⟨.text (by omega), by omega⟩
      · cases h

theorem valueL_ok : ∀ (k : Nat), OneOk 4096 (valueL k)
  | 0, l, v, r, hl, h => by
    cases l with
    | nil => simp [valueL] at h
    | cons c l =>
      rw [valueL] at h
      simp only [List.length_cons] at hl
      split at h
      · cases h
      · obtain ⟨a, b⟩ := plainL_ok (by omega) h
        exact ⟨a, by simpa using b⟩
  | k + 1, l, v, r, hl, h => by
    have ih := valueL_ok k
    cases l with
    | nil => simp [valueL] at h
    | cons c l =>
      rw [valueL] at h
      simp only [List.length_cons] at hl ⊢
      split at h
      · obtain ⟨q, hq, he⟩ := Option.map_eq_some_iff.1 h
        cases he
        obtain ⟨⟨j, hj, i1, i2⟩, e⟩ := rowTop_ok (fun k s => s.length = k ∧ ∀ x ∈ s, JOk x) 93 (itemL_ok ih) [] l q.1 q.2 (by omega) ⟨rfl, by simp⟩ hq
        exact ⟨.list (by omega) i2, by omega⟩
      · split at h
        · obtain ⟨q, hq, he⟩ := Option.map_eq_some_iff.1 h
          cases he
          obtain ⟨⟨j, hj, i1, i2, i3⟩, e⟩ := rowTop_ok (fun k s => s.length = k ∧ Rising s ∧ ∀ m ∈ s, m.1.length ≤ 1073741824 ∧ JOk m.2) 125 (memberL_ok (Nat.le_refl _) ih) [] l q.1 q.2 (by omega) ⟨rfl, rising_nil, by simp⟩ hq
          exact ⟨.obj (by omega) i2 (fun m hm => (i3 m hm).1) (fun m hm => (i3 m hm).2), by omega⟩
        · obtain ⟨a, b⟩ := plainL_ok (by omega) h
          exact ⟨a, b⟩

theorem parseL_ok {b : Bytes} {v : JV} (h : parseL b = some v) : JOk v := by
  unfold parseL at h
  split at h
  · cases h
  · rename_i hb
    cases hm : mustL b with
    | none => rw [hm] at h; cases h
    | some l =>
      rw [hm] at h
      dsimp only at h
      have := mustL_len hm
      cases hv : valueL 10 l with
      | none => rw [hv] at h; cases h
      | some p =>
        obtain ⟨x, l'⟩ := p
        rw [hv] at h
        dsimp only at h
        split at h
        · cases h
          exact (valueL_ok 10 l v l' (by omega) hv).1
        · cases h

end Toc

namespace Toc
open Go Go.RowKit Go.Proofs

def memL4 (one : Bytes → Option (JV × Bytes)) (ms : List (Bytes × JV)) (key : Bytes) (r : Option Bytes) : Option (List (Bytes × JV) × Bytes) :=
  match r with
  | none => none
  | some l5 => match one l5 with
    | none => none
    | some (v, l6) => some (putAt ms (keyPlace ms key) (key, v), l6)
def memL3 (one : Bytes → Option (JV × Bytes)) (ms : List (Bytes × JV)) (key : Bytes) (r : Option Bytes) : Option (List (Bytes × JV) × Bytes) :=
  match r with
  | some (58 :: l4) => memL4 one ms key (mustL l4)
  | _ => none
def memL2 (one : Bytes → Option (JV × Bytes)) (ms : List (Bytes × JV)) (key l2 : Bytes) : Option (List (Bytes × JV) × Bytes) :=
  if keyAt ms (keyPlace ms key) key then none else memL3 one ms key (mustL l2)
theorem memberL_34 (one : Bytes → Option (JV × Bytes)) (ms : List (Bytes × JV)) (l : Bytes) : memberL one ms (34 :: l) = match textL l with | none => none | some p => memL2 one ms p.1 p.2 := by
  cases h : textL l with
  | none => simp [memberL, h]
  | some p => obtain ⟨a, b⟩ := p; simp only [memberL, h]; rfl
theorem memL3_58 (one : Bytes → Option (JV × Bytes)) (ms : List (Bytes × JV)) (key l4 : Bytes) : memL3 one ms key (some (58 :: l4)) = memL4 one ms key (mustL l4) := rfl
theorem memL3_no (one : Bytes → Option (JV × Bytes)) (ms : List (Bytes × JV)) (key : Bytes) {c : UInt8} {l4 : Bytes} (h : c ≠ 58) : memL3 one ms key (some (c :: l4)) = none := by
  unfold memL3
  split
  · rename_i h1; cases h1; exact absurd rfl h
  · rfl

theorem RowRes.fails {σ : Type} {C : PC} {w0 w : World} {d : Nat} {Inv : σ → World → Prop} {o : Option (σ × Bytes)} {e : Ending} {w' : World} (ho : o = none) (h : Only [C.pb] w0 w) (k : Fails C w e w') : RowRes C w0 d Inv o e w' := by
  subst ho; exact Fails.before h k

theorem after_append2 {w1 w2 : World} {o x : Obj} {q base : Nat} {sv : Value} {e : TypeId} {s n : Nat} {xs : List Value} (hq : w1.heap[q]? = some x) (hb : q < base) (hown : w1.ownsRow base e s sv n xs) (hgr : (w1.alloc o).grownBy w2 sv.ownBlock) : w2.heap[q]? = some x := by
  refine (hgr.block q ?_ ?_).trans (blk_old hq o)
  · have := blk_lt hq; simp; omega
  · intro e; have := (hown.lt q e.symm).1; omega

set_option maxRecDepth 100000 in
set_option maxHeartbeats 8000000 in
theorem member_any (C : PC) (w0 : World) (i0 d0 d : Nat) (hp0 : PW C w0 i0 d0) (hd : d ≤ 10) (one : Bytes → Option (JV × Bytes))
    (IH : ∀ w i, PW C w i d → i < C.bs.length → Calls Tryz.prog 58 #[ptrV C.pb] w fun e w' => ValOf C w d (one (C.bs.drop i)) e w')
    (b1 q b4 base : Nat) (hpl : Places C w0 b1 q b4 base) (k : Nat) (ms : List (Bytes × JV)) (w : World) (i : Nat) (hk : k < 64) (hinv : MemInv C base b1 q b4 k ms w) (hst : Stands C w0 w i d) (hi : i < C.bs.length) {o : Option (List (Bytes × JV) × Bytes)} (ho : memberL one ms (C.bs.drop i) = o) :
    Calls Tryz.prog 140 #[ptrV C.pb, ptrV q] w fun e w' => RowRes C w0 d (MemInv C base b1 q b4 (k + 1)) o e w' := by
  have hsm := hp0.small
  have hdk := List.drop_eq_getElem_cons hi
  have hcell := (hst.pw' hp0 hd).bytes.cell i hi
  generalize C.bs[i]'hi = c at hdk hcell
  have i0' : (0 : Int) ≤ i := by omega
  have i1 : (i : Int) < C.bs.length := by omega
  obtain ⟨c0, c1, c2, z1, z2⟩ := (hst.pw' hp0 hd).cells
  have HP := Lib.hid hp0
  have HS := Lib.hid hst
  have HI := Lib.hid hinv
  have HIH := Lib.hid IH
  have HD := Lib.hid hdk
  rw [hdk] at ho
  clear hp0 hst hinv IH hdk
  by_cases h34 : c = 34
  · subst h34
    have HT := Lib.hid (fun oo ho => text_any C w i d (HS.out.pw' HP.out hd) hi (o := oo) ho)
    go_enter Tryz.func140, Tryz.ntmps140
    go_wp2_with fail
    rcases htx : textL (C.bs.drop (i + 1)) with _ | ⟨key, l2⟩
    · have hon : o = none := by rw [← ho, memberL_34, htx]
      refine (HT.out _ htx).mono ?_
      rintro e w1 ⟨f, p, c, b, h1, rfl, h3, h4, h5⟩
      go_wp2
      exact ⟨rfl, RowRes.fails hon HS.out.only ⟨f, p, c, b, h1, rfl, h3, h4, h5⟩⟩
    · have ho2 : o = memL2 one ms key l2 := by rw [← ho, memberL_34, htx]
      clear ho
      refine (HT.out _ htx).mono ?_
      rintro e w1 ⟨j1, rfl, hst1, hj1⟩
      dsimp only at hj1
      have HO := Lib.hid ho2
      clear ho2 HT htx
      have HS1 := Lib.hid (HS.out.trans hst1)
      have HI1 := Lib.hid (HI.out.only hpl hst1.only)
      have HJ1 := Lib.hid hj1
      obtain ⟨sv, qs, r, hq, hown, hql, hrf, hhas, hrg, hisv⟩ := HI1.out.row
      have HQ := Lib.hid hq
      have HW := Lib.hid hown
      have HR := Lib.hid (And.intro hrf (And.intro hhas (And.intro hrg hisv)))
      unfold vObj at hq
      have c4 : w1.cell? ⟨q, 5, none⟩ = some sv := blk_cell hq 5
      have hsr := search_any w1 base sv k ms qs (mkS key) (by omega) hown HI1.out.len hql HI1.out.rise
      rw [list_mkS] at hsr
      obtain ⟨kp, hkp⟩ : ∃ kp, keyPlace ms key = kp := ⟨_, rfl⟩
      have hkple := keyPlace_le ms key
      rw [hkp] at hsr hkple
      obtain ⟨kd, hkd⟩ : ∃ kd, keyAt ms kp key = kd := ⟨_, rfl⟩
      rw [hkd] at hsr
      have hml := HI1.out.len
      have HKP := Lib.hid hkp
      have HKD := Lib.hid hkd
      clear hkp hkd
      have HSR := Lib.hid hsr
      clear hq hown hrf hhas hrg hisv hst1 hj1 hsr c0 c1 c2 z1 z2
      go_wp2_with fail
      refine HSR.out.mono ?_
      rintro e w2 ⟨rfl, hb2⟩
      have HS2 := Lib.hid (HS1.out.more (Only.of_below hb2 []))
      have HI2 := Lib.hid (HI1.out.only hpl (Only.of_below hb2 _))
      have HB2 := Lib.hid hb2
      clear hb2 HSR
      cases kd with
      | true =>
        have hon : o = none := by rw [HO.out]; unfold memL2; rw [HKP.out, HKD.out]; rfl
        go_wp2_with fail
        refine (wrong_any C _ _ _ _).mono ?_
        rintro e w3 ⟨f, p, c, b, h1, rfl, h3, h4, h5⟩
        go_wp2
        exact ⟨rfl, RowRes.fails hon HS2.out.only ⟨f, p, c, b, h1, rfl, h3, h4, h5⟩⟩
      | false =>
        have ho3 : o = memL3 one ms key (mustL l2) := by rw [HO.out]; unfold memL2; rw [HKP.out, HKD.out]; rfl
        rcases hm2 : mustL l2 with _ | r2
        · have hon : o = none := by rw [ho3, hm2]; rfl
          clear ho3
          go_wp2_with fail
          refine (must_no C w2 j1 d (HS2.out.pw' HP.out hd) (by rw [HJ1.out]; exact hm2)).mono ?_
          rintro e w3 ⟨f, p, c, b, h1, rfl, h3, h4, h5⟩
          go_wp2
          exact ⟨rfl, RowRes.fails hon HS2.out.only ⟨f, p, c, b, h1, rfl, h3, h4, h5⟩⟩
        · obtain ⟨c3, l4, rfl, _⟩ := mustL_some hm2
          rw [hm2] at ho3
          have HM2 := Lib.hid (must_ok C w2 j1 d (HS2.out.pw' HP.out hd) (by rw [HJ1.out]; exact hm2))
          have HO3 := Lib.hid ho3
          clear ho3 hm2
          go_wp2_with fail
          refine HM2.out.mono ?_
          rintro e w3 ⟨j3, rfl, hst3, hj3⟩
          have HS3 := Lib.hid (HS2.out.trans hst3)
          have HO13 := Lib.hid ((Only.of_below HB2.out [C.pb]).trans hst3.only)
          have hlt3 := drop_lt hj3
          have HJ3 := Lib.hid hj3
          obtain ⟨c0, c1, c2, z1, z2⟩ := (HS3.out.pw' HP.out hd).cells
          clear hst3 hj3 HM2
          by_cases h58 : c3 = 58
          · subst h58
            have ho4 : o = memL4 one ms key (mustL l4) := by rw [HO3.out, memL3_58]
            have HO4 := Lib.hid ho4
            have HS4 := Lib.hid (HS3.out.step0 (j3 + 1) (by omega))
            have HO14 := Lib.hid (HO13.out.setCell (p := ⟨C.pb, 1, none⟩) (by simp) (.int .i64 ((j3 + 1 : Nat) : Int)))
            clear ho4
            have hj4 : C.bs.drop (j3 + 1) = l4 := drop_next HJ3.out
            go_wp2_with fail
            clear c0 c1 c2 z1 z2
            rcases hm4 : mustL l4 with _ | r4
            · have hon : o = none := by rw [HO4.out, hm4]; rfl
              refine (must_no C _ (j3 + 1) d (HS4.out.pw' HP.out hd) (by rw [hj4]; exact hm4)).mono ?_
              rintro e w5 ⟨f, p, c, b, h1, rfl, h3, h4, h5⟩
              go_wp2
              exact ⟨rfl, RowRes.fails hon HS4.out.only ⟨f, p, c, b, h1, rfl, h3, h4, h5⟩⟩
            · obtain ⟨c5, l5, rfl, _⟩ := mustL_some hm4
              have HM4 := Lib.hid (must_ok C _ (j3 + 1) d (HS4.out.pw' HP.out hd) (by rw [hj4]; exact hm4))
              have ho5 : o = match one (c5 :: l5) with | none => none | some (v, l6) => some (putAt ms (keyPlace ms key) (key, v), l6) := by rw [HO4.out, hm4]; rfl
              have HO5 := Lib.hid ho5
              clear ho5 hm4
              refine HM4.out.mono ?_
              rintro e w5 ⟨j5, rfl, hst5, hj5⟩
              have HS5 := Lib.hid (HS4.out.trans hst5)
              have HO15 := Lib.hid (HO14.out.trans hst5.only)
              have HJ5 := Lib.hid hj5
              have hlt5 := drop_lt hj5
              have HQ5 := Lib.hid (HO15.out.heap HQ.out (by have := hpl.pb; have := hpl.h1; have := hpl.hq; simp; omega))
              have HW5 := Lib.hid (own_only HW.out HO15.out (by have := hpl.pb; have := hpl.h1; have := hpl.hq; have := hpl.h4; have := hpl.hb; simp; omega))
              have HR5 := Lib.hid (And.intro HR.out.1 (And.intro (HR.out.2.1.only HO15.out (fun b hb => by have := hpl.pb; have := hpl.h1; have := hpl.hq; have := hpl.h4; have := hpl.hb; simp at hb; subst hb; exact Ro.from_ne HR.out.1 (by omega))) HR.out.2.2))
              have HI5 := Lib.hid (HI1.out.only hpl HO15.out)
              have cq5 : w5.cell? ⟨q, 5, none⟩ = some sv := blk_cell HQ5.out 5
              clear hst5 hj5 HM4 hj4 c4
              have hqb : q ∉ [C.pb] := by have := hpl.pb; have := hpl.h1; have := hpl.hq; simp; omega
              have hqbase : q < base := by have := hpl.h4; have := hpl.hb; omega
              have hkp2 : kp ≤ k := by omega
              have f5 := blk_free (w := w5) HQ5.out 5
              go_wp2_with fail
              go_region_law (first
                | (go_simp
                   go_at_call 58
                   refine (HIH.out _ j5 ((HS5.out.drewN _).pw' HP.out hd) hlt5).mono ?_
                   intro e w6 hv
                   rw [HJ5.out] at hv
                   rcases hone : one (c5 :: l5) with _ | ⟨v, t⟩
                   · rw [hone] at hv
                     obtain ⟨f, p, c, b, h1, rfl, h3, h4, h5⟩ := hv
                     have hoo : o = none := by rw [HO5.out, hone]
                     exact ⟨rfl, RowRes.fails hoo ((HS5.out.drewN 1).only) ⟨f, p, c, b, h1, rfl, h3, h4, h5⟩⟩
                   rw [hone] at hv
                   obtain ⟨j, qv, rfl, hst6, hj6, hm6⟩ := hv
                   have HOO := Lib.hid (show o = some (putAt ms (keyPlace ms key) (key, v), t) by rw [HO5.out, hone])
                   have only6 := Lib.hid (((Only.refl [C.pb] w5).drewN 1).trans hst6.only)
                   have hown6 := Lib.hid (own_only HW5.out only6.out (by have := hpl.pb; have := hpl.h1; have := hpl.hq; have := hpl.h4; have := hpl.hb; intro b hb; simp at hb; omega))
                   have HST6 := Lib.hid (Stands.of_drew hst6)
                   have HM6 := Lib.hid hm6
                   have HJ6 := Lib.hid hj6
                   have k6 := only6.out.cell cq5 hqb
                   have k6' := fun o => cell_alloc k6 o
                   clear hst6 hj6 hm6)
                | (go_simp
                   go_at_call 209
                   refine (insert_any (w6.alloc _) base w6.heap.size sv k kp (memC ms qs) (mkS key) qv (by omega) hkp2 (own_only hown6.out ((Only.refl [] w6).alloc _) (by simp)) (by have := HI5.out.size; have := only6.out.size; simp; omega) (memC_one _ _) (blk_new w6 _) (fun e => by have := (hown6.out.lt _ e).2; omega)).mono ?_
                   rintro e w7 ⟨g, cap, rfl, hown7, hgr7, hat7⟩
                   have hq7 := Lib.hid (after_append2 (only6.out.heap HQ5.out hqb) hqbase hown6.out hgr7)
                   have f7 := blk_free hq7.out 5
                   have k7 : w7.cell? ⟨q, 5, none⟩ = some sv := blk_cell hq7.out 5))
              all_goals
                go_wp2
                go_end0
                rw [HOO.out]
                have hka : keyAt ms (keyPlace ms key) key = false := by rw [HKP.out]; exact HKD.out
                rw [← HKP.out] at hown7
                exact mem_end hpl HI5.out HS5.out HW5.out hql hka HR5.out only6.out HST6.out HJ6.out HM6.out hown7 hgr7 hat7 hq7.out
          · have h58' : ((c3.toNat : Int) != 58) = true := by
              rw [bne_iff_ne]; intro e; exact h58 (UInt8.toNat_inj.1 (by show c3.toNat = 58; omega))
            have hon : o = none := by rw [HO3.out, memL3_no _ _ _ h58]
            go_wp2_with fail
            refine (wrong_any C _ _ _ _).mono ?_
            rintro e w4 ⟨f, p, c, b, h1, rfl, h3, h4, h5⟩
            go_wp2
            exact ⟨rfl, RowRes.fails hon HS3.out.only ⟨f, p, c, b, h1, rfl, h3, h4, h5⟩⟩
  · have h34' : ((c.toNat : Int) != 34) = true := by
      rw [bne_iff_ne]; intro e; exact h34 (UInt8.toNat_inj.1 (by show c.toNat = 34; omega))
    have hon : o = none := by
      rw [← ho]; unfold memberL; split
      · rename_i h; cases h; exact absurd rfl h34
      · rfl
    go_enter Tryz.func140, Tryz.ntmps140
    go_wp2_with fail
    refine (wrong_any C _ _ _ _).mono ?_
    rintro e w2 ⟨f, p, c, b, h1, rfl, h3, h4, h5⟩
    go_wp2
    exact ⟨rfl, RowRes.fails hon HS.out.only ⟨f, p, c, b, h1, rfl, h3, h4, h5⟩⟩

end Toc

namespace Toc
open Go Go.RowKit Go.Proofs

set_option maxRecDepth 100000 in
set_option maxHeartbeats 4000000 in
theorem memberClosure_any (C : PC) (w0 : World) (i0 d0 d : Nat) (hp0 : PW C w0 i0 d0) (hd : d ≤ 10) (one : Bytes → Option (JV × Bytes))
    (IH : ∀ w i, PW C w i d → i < C.bs.length → Calls Tryz.prog 58 #[ptrV C.pb] w fun e w' => ValOf C w d (one (C.bs.drop i)) e w')
    (b1 q b4 base : Nat) (hpl : Places C w0 b1 q b4 base) (k : Nat) (ms : List (Bytes × JV)) (w : World) (i : Nat) (hk : k < 64) (hinv : MemInv C base b1 q b4 k ms w) (hst : Stands C w0 w i d) (hi : i < C.bs.length) {o : Option (List (Bytes × JV) × Bytes)} (ho : memberL one ms (C.bs.drop i) = o) :
    Calls Tryz.prog 139 #[ptrV b1, ptrV b4] w fun e w' => RowRes C w0 d (MemInv C base b1 q b4 (k + 1)) o e w' := by
  have h1 := Lib.hid (member_any C w0 i0 d0 d hp0 hd one IH b1 q b4 base hpl k ms w i hk hinv hst hi ho)
  have box := hinv.box
  have ptr := hinv.ptr
  clear hinv hst IH ho hp0
  go_enter Tryz.func139, Tryz.ntmps139
  go_wp2_with fail
  refine h1.out.mono ?_
  intro e w1 hr
  cases o with
  | none =>
    obtain ⟨f, p, c, b, h1, rfl, h3, h4, h5⟩ := hr
    go_wp2
    exact ⟨rfl, ⟨f, p, c, b, h1, rfl, h3, h4, h5⟩⟩
  | some p =>
    obtain ⟨j, rfl, h2, h3, h4⟩ := hr
    go_wp2_with fail
    go_end0
    exact ⟨j, rfl, h2, h3, h4⟩

end Toc
