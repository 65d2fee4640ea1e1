/-
  Lit: A drawn region that lays a map of values by calls: what each of its operations keeps.
  Object: room's object: a map of numbers as a value.
  PrintRm: room.Print: the room as a value. Printed by tools/prgen.py.
-/
import Derived.Test.YtblbdgepocfngaaGreatDoorWM
import Derived.Test.YtblbdgepocfngaaGreatDoorWF
namespace Toc
open Go Go.RowKit Go.Proofs

theorem step_enter {P : Program} {Q : Exit → Act → World → Prop} {o : Oper} {a : Act} {w w1 : World} {K : Act → World → Prop} {f : FuncId} {args : Array Value} (h : (execOp a.eval o).run P w = .ok (.enter f args) w1)
    (hc : Calls P f args w1 fun e w' => ∃ v, e = .returned v ∧ K (a.put o.dst v) w') : o.wp P a w K Q := by
  unfold Oper.wp
  rw [h, Oper.upon_enter]
  refine hc.mono ?_
  rintro e w' ⟨v, rfl, hk⟩
  exact hk

/-! ### which entries are in -/
def entJ (L : List (Bytes × Nat × JV)) (done : Nat → Bool) : List (Bytes × JV) := L.filterMap fun p => if done p.2.1 then some (p.1, p.2.2) else none
theorem mem_entJ {L : List (Bytes × Nat × JV)} {done : Nat → Bool} {x : Bytes} {y : JV} : (x, y) ∈ entJ L done ↔ ∃ j, (x, j, y) ∈ L ∧ done j = true := by
  unfold entJ
  rw [List.mem_filterMap]
  constructor
  · rintro ⟨⟨a, j, b⟩, hm, h⟩
    dsimp only at h
    split at h
    · rename_i hd; cases h; exact ⟨j, hm, hd⟩
    · cases h
  · rintro ⟨j, hm, hd⟩
    exact ⟨_, hm, by simp [hd]⟩
theorem rising_entJ {L : List (Bytes × Nat × JV)} (hr : Rising L) (done : Nat → Bool) : Rising (entJ L done) := by
  rw [rising_iff] at hr ⊢
  unfold entJ
  rw [List.pairwise_filterMap]
  refine hr.imp fun {x y} h a ha b hb => ?_
  split at ha
  · split at hb
    · cases ha; cases hb; exact h
    · cases hb
  · cases ha
theorem entJ_put {L : List (Bytes × Nat × JV)} (hr : Rising L) (hi : (L.map (·.2.1)).Nodup) {done : Nat → Bool} {k : Bytes} {i : Nat} {v : JV} (hm : (k, i, v) ∈ L) : putK (entJ L done) k v = entJ L (also done i) := by
  have hr1 := rising_entJ hr done
  have hr2 := rising_entJ hr (also done i)
  refine rising_ext (putK_rising hr1 k v) hr2 fun x => ?_
  rw [getK_putK hr1]
  have hk := rising_keys hr
  split
  · rename_i e; subst e
    symm
    rw [getK_iff (rising_keys hr2), mem_entJ]
    exact ⟨i, hm, by simp [also]⟩
  · rename_i hne
    apply Option.ext
    intro y
    rw [getK_iff (rising_keys hr1), getK_iff (rising_keys hr2), mem_entJ, mem_entJ]
    constructor
    · rintro ⟨j, h1, h2⟩
      exact ⟨j, h1, by simp [also, h2]⟩
    · rintro ⟨j, h1, h2⟩
      refine ⟨j, h1, ?_⟩
      have hji : j ≠ i := by
        intro e; subst e
        have h3 : (x, j, y) = (k, j, v) := Classical.byContradiction fun hc => nodup_map_ne hi h1 hm hc rfl
        cases h3; exact hne rfl
      simpa [also, hji] using h2
theorem entJ_same {L : List (Bytes × Nat × JV)} {d d' : Nat → Bool} (h : ∀ p ∈ L, d p.2.1 = d' p.2.1) : entJ L d = entJ L d' := by
  unfold entJ
  exact filterMap_cong fun p hp => by rw [h p hp]
theorem entJ_none {L : List (Bytes × Nat × JV)} {d : Nat → Bool} (h : ∀ p ∈ L, d p.2.1 = false) : entJ L d = [] := by
  unfold entJ
  rw [List.filterMap_eq_nil_iff]
  exact fun p hp => by rw [h p hp]; rfl
theorem entJ_all {L : List (Bytes × Nat × JV)} {d : Nat → Bool} (h : ∀ p ∈ L, d p.2.1 = true) : entJ L d = L.map fun p => (p.1, p.2.2) := by
  unfold entJ
  rw [← List.filterMap_eq_map]
  exact filterMap_cong fun p hp => by rw [h p hp]; rfl

/-- What the operations so far have left: their values (K), the map's entries. -/
structure LJ (w0 : World) (r0 : Ro) (mi : Nat) (ins : List (Bytes × Nat × JV)) (K : Nat → Ro → Value → Prop) (done : Nat → Bool) (val : Nat → Value) (w : World) : Prop where
  below : Below w0.heap.size w0 w
  nomap : done mi = false → ∀ p ∈ ins, done p.2.1 = false
  st : ∃ r : Ro, r0.le r ∧ Has r w ∧ (∀ k, r0 k = none → k < w0.heap.size → r k = none) ∧ (∀ i, done i = true → K i r (val i)) ∧
    (done mi = true → ∃ mb L, val mi = .map (some mb) ∧ w0.heap.size ≤ mb ∧ MapV w r mb L ∧ (L.map fun p => (p.1, p.2.2)) = entJ ins done)

section
variable {w0 : World} {r0 : Ro} {mi : Nat} {ins : List (Bytes × Nat × JV)} {K : Nat → Ro → Value → Prop} {done : Nat → Bool} {val : Nat → Value} {w : World}

theorem LJ.start (h : Has r0 w0) : LJ w0 r0 mi ins K (fun _ => false) (fun _ => undef) w0.drew :=
  ⟨(Below.refl _ _).drew, fun _ _ _ => rfl, r0, Ro.le_refl _, h.heapEq rfl, fun _ h _ => h, fun _ h => (by cases h), fun h => (by cases h)⟩

theorem LJ.has (h : LJ w0 r0 mi ins K done val w) {w' : World} (hb : Below w.heap.size w w') : LJ w0 r0 mi ins K done val w' := by
  obtain ⟨r, h1, h2, h3, h4, h5⟩ := h.st
  refine ⟨below_trans h.below hb, h.nomap, r, h1, h2.below hb, h3, h4, fun hd => ?_⟩
  obtain ⟨mb, L, e1, e2, e3, e4⟩ := h5 hd
  exact ⟨mb, L, e1, e2, e3.below hb, e4⟩

/-- An operation that is neither the map's making nor an entry. -/
theorem LJ.pure (h : LJ w0 r0 mi ins K done val w) (i : Nat) (v : Value) (hi : (i == mi || ins.any fun p => p.2.1 == i) = false) (hv : ∀ r, K i r v) : LJ w0 r0 mi ins K (also done i) (withVal val i v) w := by
  simp only [Bool.or_eq_false_iff, beq_eq_false_iff_ne, List.any_eq_false, beq_iff_eq] at hi
  obtain ⟨hm, hins⟩ := hi
  obtain ⟨r, h1, h2, h3, h4, h5⟩ := h.st
  have e : ∀ j, j ≠ i → also done i j = done j := fun j hj => by simp [also, hj]
  have eL : entJ ins (also done i) = entJ ins done := entJ_same fun p hp => e _ (hins p hp)
  refine ⟨h.below, fun hd p hp => ?_, r, h1, h2, h3, fun j hj => ?_, fun hd => ?_⟩
  · rw [e _ (Ne.symm hm)] at hd
    rw [e _ (hins p hp)]; exact h.nomap hd p hp
  · by_cases hji : j = i
    · subst hji; simpa [withVal] using hv r
    · rw [e j hji] at hj
      simpa [withVal, hji] using h4 j hj
  · rw [e _ (Ne.symm hm)] at hd
    rw [eL]
    simpa [withVal, Ne.symm hm] using h5 hd

/-- A call that makes a value, or leaves the values as they are. -/
theorem LJ.call {P : Program} {f : FuncId} {args : Array Value} (h : LJ w0 r0 mi ins K done val w) (i : Nat) (hi : (i == mi || ins.any fun p => p.2.1 == i) = false) (hK : ∀ j r r' v, r.le r' → K j r v → K j r' v)
    (hc : ∀ r, r0.le r → Has r w → (∀ k, r0 k = none → k < w0.heap.size → r k = none) → (∀ j, done j = true → K j r (val j)) →
      (done mi = true → ∃ mb L, val mi = .map (some mb) ∧ w0.heap.size ≤ mb ∧ MapV w r mb L ∧ (L.map fun p => (p.1, p.2.2)) = entJ ins done) →
      Calls P f args w fun e w' => ∃ v r', e = .returned v ∧ r.le r' ∧ Has r' w' ∧ (∀ k, r k = none → k < w.heap.size → r' k = none) ∧ K i r' v ∧ Below w.heap.size w w') :
    Calls P f args w fun e w' => ∃ v, e = .returned v ∧ LJ w0 r0 mi ins K (also done i) (withVal val i v) w' := by
  have hi' := hi
  simp only [Bool.or_eq_false_iff, beq_eq_false_iff_ne, List.any_eq_false, beq_iff_eq] at hi
  obtain ⟨hm, hins⟩ := hi
  obtain ⟨r, h1, h2, h3, h4, h5⟩ := h.st
  refine (hc r h1 h2 h3 h4 h5).mono ?_
  rintro e w' ⟨v, r', rfl, l1, l2, l3, l4, l5⟩
  have e : ∀ j, j ≠ i → also done i j = done j := fun j hj => by simp [also, hj]
  have eL : entJ ins (also done i) = entJ ins done := entJ_same fun p hp => e _ (hins p hp)
  refine ⟨v, rfl, below_trans h.below l5, fun hd p hp => ?_, r', Ro.le_trans h1 l1, l2, fun k hk hkl => l3 k (h3 k hk hkl) (Nat.lt_of_lt_of_le hkl h.below.size), fun j hj => ?_, fun hd => ?_⟩
  · rw [e _ (Ne.symm hm)] at hd
    rw [e _ (hins p hp)]; exact h.nomap hd p hp
  · by_cases hji : j = i
    · subst hji; simpa [withVal] using l4
    · rw [e j hji] at hj
      simpa [withVal, hji] using hK j r r' _ l1 (h4 j hj)
  · rw [e _ (Ne.symm hm)] at hd
    obtain ⟨mb, L, e1, e2, e3, e4⟩ := h5 hd
    rw [eL]
    exact ⟨mb, L, by simpa [withVal, Ne.symm hm] using e1, e2, e3.grow l5 l2 l1 (l3 _ e3.off e3.map.lt), e4⟩

theorem LJ.make (h : LJ w0 r0 mi ins K done val w) (h0 : done mi = false) (hins : (ins.any fun p => p.2.1 == mi) = false) (hv : ∀ r, K mi r (.map (some w.heap.size))) :
    LJ w0 r0 mi ins K (also done mi) (withVal val mi (.map (some w.heap.size))) (w.alloc (.map #[] 0)) := by
  obtain ⟨r, h1, h2, h3, h4, h5⟩ := h.st
  simp only [List.any_eq_false, beq_iff_eq] at hins
  have e : ∀ j, j ≠ mi → also done mi j = done j := fun j hj => by simp [also, hj]
  refine ⟨h.below.alloc h.below.size _, fun hd => ?_, r, h1, h2.alloc _, h3, fun j hj => ?_, fun _ => ?_⟩
  · simp [also] at hd
  · by_cases hji : j = mi
    · subst hji; simpa [withVal] using hv r
    · rw [e j hji] at hj
      simpa [withVal, hji] using h4 j hj
  · refine ⟨w.heap.size, [], by simp [withVal], h.below.size, MapV.new h2, ?_⟩
    rw [entJ_none fun p hp => by rw [e _ (hins p hp)]; exact h.nomap h0 p hp]
    rfl

theorem LJ.insert (h : LJ w0 r0 mi ins K done val w) (hr : Rising ins) (hn : (ins.map (·.2.1)).Nodup) {i j : Nat} {k : Bytes} {v : JV} (him : i ≠ mi) (h0 : done mi = true) (hm : (k, i, v) ∈ ins) (hj : done j = true) (hKi : ∀ r, K i r undef)
    (hKj : ∀ r x, K j r x → ∃ q, x = ptrV q ∧ IsV r q v) :
    ∃ mb q w', val mi = .map (some mb) ∧ val j = ptrV q ∧ (Instr.mapUpdate 39 (.map (some mb)) (.string (mkS k)) (ptrV q)).run Tryz.prog w = .ok () w' ∧ LJ w0 r0 mi ins K (also done i) (withVal val i undef) w' := by
  obtain ⟨r, h1, h2, h3, h4, h5⟩ := h.st
  obtain ⟨mb, L, e1, e2, e3, e4⟩ := h5 h0
  obtain ⟨q, hq, hv⟩ := hKj r _ (h4 j hj)
  obtain ⟨w', hrun, hM, ht⟩ := e3.put k hv
  have e : ∀ j, j ≠ i → also done i j = done j := fun j hj => by simp [also, hj]
  refine ⟨mb, q, w', e1, hq, hrun, ((Turns.below (S := []) h.below).extend ht (by simpa using e2)).toBelow (by simp), fun hd => ?_, r, h1, hM.has, h3, fun l hl => ?_, fun _ => ⟨mb, _, by simpa [withVal, Ne.symm him] using e1, e2, hM, ?_⟩⟩
  · rw [e _ (Ne.symm him), h0] at hd; cases hd
  · by_cases hli : l = i
    · subst hli; simpa [withVal] using hKi r
    · rw [e l hli] at hl
      simpa [withVal, hli] using h4 l hl
  · rw [← putK_map (fun x : Nat × JV => x.2) L k (q, v), e4, entJ_put hr hn hm]

/-- OfMap of the whole map. -/
theorem LJ.ofMap (h : LJ w0 r0 mi ins K done val w) (i : Nat) (hi : (i == mi || ins.any fun p => p.2.1 == i) = false) (hK : ∀ j r r' v, r.le r' → K j r v → K j r' v) (h0 : done mi = true) (hall : ∀ p ∈ ins, done p.2.1 = true)
    (hl : ins.length ≤ 1000) (hk : ∀ p ∈ ins, KeyB p.1) (hKi : ∀ r q, w0.heap.size ≤ q → IsV r q (.obj (ins.map fun p => (p.1, p.2.2))) → K i r (ptrV q)) {mv : Value} (hmv : val mi = mv) :
    Calls Tryz.prog 22 #[mv] w fun e w' => ∃ v, e = .returned v ∧ LJ w0 r0 mi ins K (also done i) (withVal val i v) w' := by
  subst hmv
  refine h.call i hi hK fun r h1 h2 h3 h4 h5 => ?_
  obtain ⟨mb, L, e1, e2, e3, e4⟩ := h5 h0
  rw [e1]
  rw [entJ_all hall] at e4
  have hlen : L.length ≤ 1000 := by have := congrArg List.length e4; simp at this; omega
  refine (e3.ofMap hlen fun p hp => ?_).mono ?_
  · have : (p.1, p.2.2) ∈ ins.map fun p => (p.1, p.2.2) := by rw [← e4]; exact List.mem_map.2 ⟨p, hp, rfl⟩
    obtain ⟨x, hx, he⟩ := List.mem_map.1 this
    have := hk x hx
    rw [(Prod.mk.inj he).1] at this
    exact this
  · rintro e w' ⟨q, R, rfl, g1, g2, g3, g4, g5, g6⟩
    exact ⟨ptrV q, R, rfl, g4, g2, g5, hKi R q (Nat.le_trans h.below.size g1) (by rw [e4] at g3; exact g3), g6⟩
/-- A value that is handed on. -/
theorem LJ.copy (h : LJ w0 r0 mi ins K done val w) (i j : Nat) (hi : (i == mi || ins.any fun p => p.2.1 == i) = false) (hj : done j = true) (hK : ∀ r v, K j r v → K i r v) : LJ w0 r0 mi ins K (also done i) (withVal val i (val j)) w := by
  simp only [Bool.or_eq_false_iff, beq_eq_false_iff_ne, List.any_eq_false, beq_iff_eq] at hi
  obtain ⟨hm, hins⟩ := hi
  obtain ⟨r, h1, h2, h3, h4, h5⟩ := h.st
  have e : ∀ j, j ≠ i → also done i j = done j := fun j hj => by simp [also, hj]
  have eL : entJ ins (also done i) = entJ ins done := entJ_same fun p hp => e _ (hins p hp)
  refine ⟨h.below, fun hd p hp => ?_, r, h1, h2, h3, fun l hl => ?_, fun hd => ?_⟩
  · rw [e _ (Ne.symm hm)] at hd
    rw [e _ (hins p hp)]; exact h.nomap hd p hp
  · by_cases hli : l = i
    · subst hli; simpa [withVal] using hK r _ (h4 j hj)
    · rw [e l hli] at hl
      simpa [withVal, hli] using h4 l hl
  · rw [e _ (Ne.symm hm)] at hd
    rw [eL]
    simpa [withVal, Ne.symm hm] using h5 hd

/-- With the map handed on at m, behind all entries. -/
def LM (w0 : World) (r0 : Ro) (mi m : Nat) (ins : List (Bytes × Nat × JV)) (K : Nat → Ro → Value → Prop) (done : Nat → Bool) (val : Nat → Value) (w : World) : Prop :=
  LJ w0 r0 mi ins K done val w ∧ (done m = true → val m = val mi ∧ done mi = true ∧ ∀ p ∈ ins, done p.2.1 = true)
theorem mv_keep {m i : Nat} {v : Value} (h : done m = true → val m = val mi ∧ done mi = true ∧ ∀ p ∈ ins, done p.2.1 = true) (hi : done i = false) (hne : i ≠ m) :
    also done i m = true → withVal val i v m = withVal val i v mi ∧ also done i mi = true ∧ ∀ p ∈ ins, also done i p.2.1 = true := by
  intro hd
  have hd' : done m = true := by simpa [also, Ne.symm hne] using hd
  obtain ⟨h1, h2, h3⟩ := h hd'
  have hmi : mi ≠ i := fun e => by subst e; rw [hi] at h2; cases h2
  exact ⟨by simp [withVal, Ne.symm hne, hmi, h1], by simp [also, h2], fun p hp => by simp [also, h3 p hp]⟩
variable {m : Nat}
theorem LM.start (h : Has r0 w0) : LM w0 r0 mi m ins K (fun _ => false) (fun _ => undef) w0.drew := ⟨LJ.start h, fun h => by cases h⟩
theorem LM.at (h : LM w0 r0 mi m ins K done val w) {i : Nat} (hi : done i = true) : ∃ r, K i r (val i) := by
  obtain ⟨r, _, _, _, h4, _⟩ := h.1.st
  exact ⟨r, h4 i hi⟩
theorem LM.pure (h : LM w0 r0 mi m ins K done val w) {i : Nat} (hd : done i = false) (v : Value) (hi : (i == mi || ins.any fun p => p.2.1 == i) = false) (hne : i ≠ m) (hv : ∀ r, K i r v) : LM w0 r0 mi m ins K (also done i) (withVal val i v) w :=
  ⟨h.1.pure i v hi hv, mv_keep h.2 hd hne⟩
theorem LM.copy (h : LM w0 r0 mi m ins K done val w) {i : Nat} (hd : done i = false) (j : Nat) (hi : (i == mi || ins.any fun p => p.2.1 == i) = false) (hne : i ≠ m) (hj : done j = true) (hK : ∀ r v, K j r v → K i r v) : LM w0 r0 mi m ins K (also done i) (withVal val i (val j)) w :=
  ⟨h.1.copy i j hi hj hK, mv_keep h.2 hd hne⟩
theorem LM.make (h : LM w0 r0 mi m ins K done val w) (h0 : done mi = false) (hins : (ins.any fun p => p.2.1 == mi) = false) (hne : mi ≠ m) (hv : ∀ r, K mi r (.map (some w.heap.size))) :
    LM w0 r0 mi m ins K (also done mi) (withVal val mi (.map (some w.heap.size))) (w.alloc (.map #[] 0)) := ⟨h.1.make h0 hins hv, mv_keep h.2 h0 hne⟩
theorem LM.move (h : LM w0 r0 mi m ins K done val w) (_hd : done m = false) (hi : (m == mi || ins.any fun p => p.2.1 == m) = false) (h0 : done mi = true) (hall : ∀ p ∈ ins, done p.2.1 = true) (hv : ∀ r, K m r (val mi)) : LM w0 r0 mi m ins K (also done m) (withVal val m (val mi)) w := by
  refine ⟨h.1.pure m _ hi hv, fun _ => ?_⟩
  simp only [Bool.or_eq_false_iff, beq_eq_false_iff_ne, List.any_eq_false, beq_iff_eq] at hi
  exact ⟨by simp [withVal, Ne.symm hi.1], by simp [also, h0], fun p hp => by simp [also, hall p hp]⟩
theorem LM.insert (h : LM w0 r0 mi m ins K done val w) (hr : Rising ins) (hn : (ins.map (·.2.1)).Nodup) {i j : Nat} {k : Bytes} {v : JV} (hd : done i = false) (hne : i ≠ m) (him : i ≠ mi) (h0 : done mi = true) (hm : (k, i, v) ∈ ins) (hj : done j = true) (hKi : ∀ r, K i r undef)
    (hKj : ∀ r x, K j r x → ∃ q, x = ptrV q ∧ IsV r q v) :
    ∃ mb q w', val mi = .map (some mb) ∧ val j = ptrV q ∧ (Instr.mapUpdate 39 (.map (some mb)) (.string (mkS k)) (ptrV q)).run Tryz.prog w = .ok () w' ∧ LM w0 r0 mi m ins K (also done i) (withVal val i undef) w' := by
  obtain ⟨mb, q, w', e1, e2, e3, e4⟩ := h.1.insert hr hn him h0 hm hj hKi hKj
  exact ⟨mb, q, w', e1, e2, e3, e4, mv_keep h.2 hd hne⟩
theorem LM.call {P : Program} {f : FuncId} {args : Array Value} (h : LM w0 r0 mi m ins K done val w) {i : Nat} (hd : done i = false) (hi : (i == mi || ins.any fun p => p.2.1 == i) = false) (hne : i ≠ m) (hK : ∀ j r r' v, r.le r' → K j r v → K j r' v)
    (hc : ∀ r, r0.le r → Has r w → (∀ k, r0 k = none → k < w0.heap.size → r k = none) → Below w0.heap.size w0 w →
      Calls P f args w fun e w' => ∃ v r', e = .returned v ∧ r.le r' ∧ Has r' w' ∧ (∀ k, r k = none → k < w.heap.size → r' k = none) ∧ K i r' v ∧ Below w.heap.size w w') :
    Calls P f args w fun e w' => ∃ v, e = .returned v ∧ LM w0 r0 mi m ins K (also done i) (withVal val i v) w' := by
  refine (h.1.call i hi hK fun r h1 h2 h3 _ _ => hc r h1 h2 h3 h.1.below).mono ?_
  rintro e w' ⟨v, rfl, hl⟩
  exact ⟨v, rfl, hl, mv_keep h.2 hd hne⟩
/-- A call that makes a value. -/
theorem LM.made {P : Program} {f : FuncId} {args : Array Value} (h : LM w0 r0 mi m ins K done val w) {i : Nat} (hd : done i = false) (hi : (i == mi || ins.any fun p => p.2.1 == i) = false) (hne : i ≠ m) (hK : ∀ j r r' v, r.le r' → K j r v → K j r' v) (x : JV)
    (hKi : ∀ r q, w0.heap.size ≤ q → IsV r q x → K i r (ptrV q))
    (hc : ∀ r, r0.le r → Has r w → (∀ k, r0 k = none → k < w0.heap.size → r k = none) → Below w0.heap.size w0 w → Calls P f args w fun e w' => MadeV r x w e w') :
    Calls P f args w fun e w' => ∃ v, e = .returned v ∧ LM w0 r0 mi m ins K (also done i) (withVal val i v) w' := by
  refine h.call hd hi hne hK fun r h1 h2 h3 h4 => (hc r h1 h2 h3 h4).mono ?_
  rintro e w' ⟨q, R, rfl, g1, g2, g3, g4, g5, g6⟩
  exact ⟨_, R, rfl, g4, g2, g5, hKi R q (Nat.le_trans h.1.below.size g1) g3, g6⟩
/-- A call that only lays memory. -/
theorem LM.plain {P : Program} {f : FuncId} {args : Array Value} (h : LM w0 r0 mi m ins K done val w) {i : Nat} (hd : done i = false) (hi : (i == mi || ins.any fun p => p.2.1 == i) = false) (hne : i ≠ m) (hK : ∀ j r r' v, r.le r' → K j r v → K j r' v)
    (hc : Calls P f args w fun e w' => ∃ v, e = .returned v ∧ (∀ r, K i r v) ∧ Below w.heap.size w w') :
    Calls P f args w fun e w' => ∃ v, e = .returned v ∧ LM w0 r0 mi m ins K (also done i) (withVal val i v) w' := by
  refine h.call hd hi hne hK fun r h1 h2 h3 h4 => hc.mono ?_
  rintro e w' ⟨v, rfl, hv, hb⟩
  exact ⟨v, r, rfl, Ro.le_refl r, h2.below hb, fun _ h _ => h, hv r, hb⟩
theorem LM.ofMap (h : LM w0 r0 mi m ins K done val w) {i : Nat} (hd : done i = false) (hi : (i == mi || ins.any fun p => p.2.1 == i) = false) (hne : i ≠ m) (hK : ∀ j r r' v, r.le r' → K j r v → K j r' v) (hm : done m = true)
    (hl : ins.length ≤ 1000) (hk : ∀ p ∈ ins, KeyB p.1) (hKi : ∀ r q, w0.heap.size ≤ q → IsV r q (.obj (ins.map fun p => (p.1, p.2.2))) → K i r (ptrV q)) {mv : Value} (hmv : val m = mv) :
    Calls Tryz.prog 22 #[mv] w fun e w' => ∃ v, e = .returned v ∧ LM w0 r0 mi m ins K (also done i) (withVal val i v) w' := by
  obtain ⟨h1, h2, h3⟩ := h.2 hm
  refine (h.1.ofMap i hi hK h2 h3 hl hk hKi (by rw [← hmv, h1])).mono ?_
  rintro e w' ⟨v, rfl, hl⟩
  exact ⟨v, rfl, hl, mv_keep h.2 hd hne⟩
end

theorem step_enterJ {P : Program} {Q : Exit → Act → World → Prop} {o : Oper} {a : Act} {w w1 : World} {J : Value → World → Prop} {f : FuncId} {args : Array Value} (h : (execOp a.eval o).run P w = .ok (.enter f args) w1)
    (hc : Calls P f args w1 fun e w' => ∃ v, e = .returned v ∧ J v w') : o.wp P a w (fun a' w' => ∃ v, a' = a.put o.dst v ∧ J v w') Q := by
  refine step_enter h (hc.mono ?_)
  rintro e w' ⟨v, rfl, hj⟩
  exact ⟨v, rfl, v, rfl, hj⟩

end Toc

namespace Toc
open Go Go.RowKit Go.Proofs

/-! ### a map that is gone over, and one that is made of it -/
def Mir {α : Type} (enc : α → Value) (f : α → JV) (done : List (Bytes × Value)) (L : List (Bytes × JV)) : Prop := ∀ k x, getK L k = some x ↔ ∃ a, x = f a ∧ (k, enc a) ∈ done
theorem Mir.nil {α : Type} (enc : α → Value) (f : α → JV) : Mir enc f [] [] := fun k x => by simp [getK]
theorem Mir.snoc {α : Type} {enc : α → Value} {f : α → JV} {done : List (Bytes × Value)} {L : List (Bytes × JV)} (h : Mir enc f done L) (hr : Rising L) (hi : ∀ a b, enc a = enc b → a = b) {k : Bytes} (hk : ∀ p ∈ done, p.1 ≠ k) (a : α) : Mir enc f (done ++ [(k, enc a)]) (putK L k (f a)) := by
  intro k' x
  rw [getK_putK hr]
  split
  · rename_i e; subst e
    constructor
    · intro e; cases e
      exact ⟨a, rfl, by simp⟩
    · rintro ⟨b, rfl, hm⟩
      rcases List.mem_append.1 hm with hm | hm
      · exact absurd rfl (hk _ hm)
      · have := (Prod.mk.inj (List.mem_singleton.1 hm)).2
        rw [hi _ _ this]
  · rename_i hne
    rw [h k' x]
    constructor
    · rintro ⟨b, rfl, hm⟩
      exact ⟨b, rfl, List.mem_append_left _ hm⟩
    · rintro ⟨b, rfl, hm⟩
      rcases List.mem_append.1 hm with hm | hm
      · exact ⟨b, rfl, hm⟩
      · exact absurd (Prod.mk.inj (List.mem_singleton.1 hm)).1 hne
theorem Mir.full {α : Type} {enc : α → Value} {f : α → JV} {done : List (Bytes × Value)} {L : List (Bytes × JV)} {l : List (Bytes × α)} (h : Mir enc f done L) (hr : Rising L) (hl : Rising l) (hi : ∀ a b, enc a = enc b → a = b) (hp : done.Perm (mapE enc l)) : L = l.map fun p => (p.1, f p.2) := by
  refine rising_ext hr (rising_map f hl) fun k => ?_
  rw [getK_map]
  apply Option.ext
  intro x
  rw [h k x, Option.map_eq_some_iff]
  constructor
  · rintro ⟨a, rfl, hm⟩
    have := hp.mem_iff.1 hm
    obtain ⟨p, hpm, he⟩ := List.mem_map.1 this
    obtain ⟨e1, e2⟩ := Prod.mk.inj he
    refine ⟨a, ?_, rfl⟩
    rw [getK_iff (rising_keys hl), ← e1, ← hi _ _ e2]
    exact hpm
  · rintro ⟨a, ha, rfl⟩
    exact ⟨a, rfl, hp.mem_iff.2 (List.mem_map.2 ⟨(k, a), (getK_iff (rising_keys hl)).1 ha, rfl⟩)⟩
theorem new_key {l done left left' : List (Bytes × Value)} {k : Bytes} {v : Value} (hr : Rising l) (hp : (done ++ left).Perm l) (hl : left.Perm ((k, v) :: left')) : ∀ p ∈ done, p.1 ≠ k := by
  intro p hpd e
  have h1 : (done ++ (k, v) :: left').Perm l := (hl.symm.append_left done).trans hp
  have h2 := (h1.map (·.1)).nodup_iff.2 (rising_keys hr)
  rw [List.map_append, List.map_cons, List.nodup_append] at h2
  exact h2.2.2 _ (List.mem_map.2 ⟨p, hpd, rfl⟩) _ (.head _) e
theorem rise_jv {α : Type} {L : List (Bytes × (Nat × JV))} (f : Nat × JV → α) (h : Rising (L.map fun p => (p.1, ptrV p.2.1))) : Rising (L.map fun p => (p.1, f p.2)) := by
  rw [rising_iff] at h ⊢
  rw [List.pairwise_map] at h ⊢
  exact h
theorem encInt_inj (a b : Int) (h : encInt a = encInt b) : a = b := by injection h
theorem encMem_inj (a b : Nat × Bytes) (h : encMem a = encMem b) : a = b := by
  unfold encMem at h
  injection h with h
  have h1 := congrArg Array.toList h
  simp only [List.cons.injEq, Value.int.injEq, Value.string.injEq, and_true, true_and] at h1
  exact Prod.ext (by omega) (mkS_inj h1.2)

/-- A map under way at the block behind the world's end, a range at the next one. -/
structure LR (w0 : World) (r0 : Ro) (w : World) (r : Ro) (L : List (Bytes × (Nat × JV))) : Prop where
  below : Below w0.heap.size w0 w
  size : w0.heap.size + 2 ≤ w.heap.size
  mv : MapV w r w0.heap.size L
  le : r0.le r
  no : ∀ k, r0 k = none → k < w0.heap.size + 2 → r k = none
theorem LR.start {w : World} {r : Ro} (h : Has r w) (o : Obj) : LR w r ((w.alloc (.map #[] 0)).alloc o) r [] :=
  ⟨((Below.refl _ _).alloc (Nat.le_refl _) _).alloc (by simp) _, by simp, (MapV.new h).below ((Below.refl _ _).alloc (Nat.le_refl _) _), Ro.le_refl r, fun _ h _ => h⟩
theorem LR.made {w0 w w' : World} {r0 r r' : Ro} {L : List (Bytes × (Nat × JV))} (h : LR w0 r0 w r L) (hb : Below w.heap.size w w') (hh : Has r' w') (hle : r.le r') (hno : ∀ k, r k = none → k < w.heap.size → r' k = none) : LR w0 r0 w' r' L :=
  ⟨below_trans h.below hb, Nat.le_trans h.size hb.size, h.mv.grow hb hh hle (hno _ h.mv.off h.mv.map.lt), Ro.le_trans h.le hle, fun k hk hl => hno k (h.no k hk hl) (Nat.lt_of_lt_of_le hl h.size)⟩
theorem LR.grown {w0 w w' : World} {r0 r : Ro} {L : List (Bytes × (Nat × JV))} (h : LR w0 r0 w r L) (hb : Below w.heap.size w w') : LR w0 r0 w' r L :=
  h.made hb (h.mv.has.below hb) (Ro.le_refl _) (fun _ h _ => h)
theorem LR.next {w0 w w' : World} {r0 r : Ro} {L : List (Bytes × (Nat × JV))} (h : LR w0 r0 w r L) (h0 : Has r0 w0) (ht : Turns [w0.heap.size + 1] w w') : LR w0 r0 w' r L :=
  ⟨((Turns.below (S := []) h.below).extend ht (by simp)).toBelow (by simp), Nat.le_trans h.size ht.size, h.mv.turns ht (by simp) (by simpa using h.no _ (has_none h0 (by omega)) (by omega)), h.le, h.no⟩
theorem LR.put {w0 w : World} {r0 r : Ro} {L : List (Bytes × (Nat × JV))} (h : LR w0 r0 w r L) (k : Bytes) {q : Nat} {v : JV} (hv : IsV r q v) :
    ∃ w', (Instr.mapUpdate 39 (.map (some w0.heap.size)) (.string (mkS k)) (ptrV q)).run Tryz.prog w = .ok () w' ∧ LR w0 r0 w' r (putK L k (q, v)) ∧ Turns [w0.heap.size] w w' := by
  obtain ⟨w', h1, h2, h3⟩ := h.mv.put k hv
  exact ⟨w', h1, ⟨((Turns.below (S := []) h.below).extend h3 (by simp)).toBelow (by simp), Nat.le_trans h.size h3.size, h2, h.le, h.no⟩, h3⟩
theorem LR.rise {w0 w : World} {r0 r : Ro} {L : List (Bytes × (Nat × JV))} (h : LR w0 r0 w r L) : Rising (L.map fun p => (p.1, p.2.2)) := rise_jv (fun x : Nat × JV => x.2) h.mv.map.rise
theorem putL (L : List (Bytes × (Nat × JV))) (k : Bytes) (q : Nat) (v : JV) : (putK L k (q, v)).map (fun p => (p.1, p.2.2)) = putK (L.map fun p => (p.1, p.2.2)) k v := (putK_map (fun x : Nat × JV => x.2) L k (q, v)).symm

def numsJ (l : List (Bytes × Int)) : List (Bytes × JV) := l.map fun p => (p.1, .int p.2)

set_option maxRecDepth 100000 in
set_option maxHeartbeats 4000000 in
theorem object_any (r : Ro) (w : World) (hh : Has r w) {b : Nat} {l : List (Bytes × Int)} (hm : MapAt w b (mapE encInt l)) (hl : l.length ≤ 1000) (hk : ∀ p ∈ l, KeyB p.1 ∧ -9007199254740991 ≤ p.2 ∧ p.2 ≤ 9007199254740991) :
    Calls Tryz.prog 77 #[.map (some b)] w fun e w' => MadeV r (.obj (numsJ l)) w e w' := by
  have hmm := @run_makeMap Tryz.prog
  have hm1 := hm.turns ((Turns.refl [] w).alloc (.map #[] 0)) (by simp)
  obtain ⟨o, hro, hRA⟩ := run_range_new (P := Tryz.prog) Tryz.underlying59 hm1
  rw [show (w.alloc (.map #[] 0)).heap.size = w.heap.size + 1 by simp] at hro hRA
  have HRA := Lib.hid hRA
  have HL0 := Lib.hid (LR.start hh o)
  have HRI := Lib.hid (show Rising l by
    have := hm.rise
    rw [rising_iff] at this ⊢
    unfold mapE at this
    rw [List.pairwise_map] at this
    exact this)
  have HK := Lib.hid hk
  have HLEN := Lib.hid hl
  have HH := Lib.hid hh
  have hbl : b < w.heap.size := hm.lt
  clear hm hm1 hRA hk hl hh
  go_enter Tryz.func77, Tryz.ntmps77
  go_wp2_with fail
  go_loopw [] (fun wr => ∃ done left r1 L, RangeAt wr (w.heap.size + 1) b (mapE encInt l) done left ∧ LR w r wr r1 L ∧ Mir encInt JV.int done (L.map fun p => (p.1, p.2.2))) (fun wr => rangeLeft wr (w.heap.size + 1) b)
  case atStart => exact ⟨[], _, _, _, HRA.out, HL0.out, Mir.nil _ _⟩
  case round =>
    obtain ⟨done, left, r1, L, hR, hL, hM⟩ := hrel
    have HR1 := Lib.hid hR
    have HL := Lib.hid hL
    have HM := Lib.hid hM
    have hst := range_step (P := Tryz.prog) 0 hR
    clear hR hL hM
    rcases hst with ⟨rfl, hrun⟩ | ⟨k, pv, left', w', hperm, hrun, hR', hent, ht'⟩
    · have hp := HR1.out.perm
      rw [List.append_nil] at hp
      have hfull := HM.out.full HL.out.rise HRI.out encInt_inj hp
      have hlen : L.length ≤ 1000 := by have := congrArg List.length hfull; have := HLEN.out; simp at *; omega
      have HC := Lib.hid (HL.out.mv.ofMap hlen (fun p hp => by
        have : (p.1, p.2.2) ∈ L.map fun p => (p.1, p.2.2) := List.mem_map.2 ⟨p, hp, rfl⟩
        rw [hfull] at this
        obtain ⟨x, hx, he⟩ := List.mem_map.1 this
        have := (HK.out x hx).1
        rw [(Prod.mk.inj he).1] at this
        exact this))
      rw [hfull] at HC
      clear hp hfull hlen
      go_wp2_with fail
      refine HC.out.mono ?_
      rintro e w3 ⟨q, R, rfl, hq, hR, hv, hle, hno, hb⟩
      have HF : Hid (MadeV r (.obj (numsJ l)) w (.returned (ptrV q)) w3) := Lib.hid ⟨q, R, rfl, Nat.le_trans HL.out.below.size hq, hR, hv, Ro.le_trans HL.out.le hle, fun k hk hkl => hno k (HL.out.no k hk (by omega)) (by have := HL.out.below.size; omega), below_trans HL.out.below hb⟩
      clear hq hR hv hle hno hb
      go_wp2_with fail
      go_ret
      exact HF.out
    · have hm : (k, pv) ∈ mapE encInt l := HR1.out.perm.mem_iff.1 (List.mem_append_right _ (hperm.mem_iff.2 (.head _)))
      obtain ⟨⟨k2, n⟩, hkm, he⟩ := List.mem_map.1 hm
      cases he
      have hkn := HK.out _ hkm
      have HNK := Lib.hid (new_key (HR1.out.map.rise) HR1.out.perm hperm)
      have HP := Lib.hid hperm
      have HL1 := Lib.hid (HL.out.next HH.out ht')
      have HR2 := Lib.hid hR'
      have HOI := Lib.hid (ofInt_V HL1.out.mv.has n hkn.2.1 hkn.2.2)
      unfold encInt at hrun hent
      clear hkm hm hperm ht' hR' hkn
      go_wp2_with fail
      refine HOI.out.mono ?_
      rintro e w3 ⟨q, R, rfl, hq, hRh, hv, hle, hno, hb⟩
      have hL3 := HL1.out.made hb hRh hle hno
      obtain ⟨w4, hput, hL4, ht4⟩ := hL3.put k2 hv
      have HL4 := Lib.hid hL4
      have HR4 := Lib.hid ((HR2.out.turns (Turns.below (S := []) hb) (by simp) (by simp)).turns ht4 (by simp) (by simp; omega))
      have HM4 := Lib.hid (show Mir encInt JV.int (done ++ [(k2, encInt n)]) ((putK L k2 (q, JV.int n)).map fun p => (p.1, p.2.2)) by
        rw [putL]; exact HM.out.snoc HL.out.rise encInt_inj HNK.out n)
      clear hq hRh hv hle hno hb hL3 hL4 ht4
      go_wp2_with fail
      refine ⟨⟨done ++ [(k2, encInt n)], left', R, _, HR4.out, HL4.out, HM4.out⟩, ?_⟩
      rw [HR4.out.left_eq, HR1.out.left_eq]
      have := HP.out.length_eq
      simp at this; omega

end Toc

namespace Toc
open Go Go.RowKit Go.Proofs

def sDisplay : Bytes := [100, 105, 115, 112, 108, 97, 121]
def sCreator : Bytes := [99, 114, 101, 97, 116, 111, 114]
def sDefault : Bytes := [100, 101, 102, 97, 117, 108, 116]
def sId : Bytes := [105, 100]
def sJoined : Bytes := [106, 111, 105, 110, 101, 100]
def sLeveled : Bytes := [108, 101, 118, 101, 108, 101, 100]
def sLevels : Bytes := [108, 101, 118, 101, 108, 115]
def sNeeds : Bytes := [110, 101, 101, 100, 115]
def wordOfN (n : Nat) : Bytes := if n = 1 then sJoin else if n = 2 then sInvite else if n = 3 then sBan else sLeave
def userJ (m : Nat × Bytes) : JV := .obj [(sDisplay, .text m.2), (sMembership, .text (wordOfN m.1))]
def usersJ (l : List (Bytes × (Nat × Bytes))) : List (Bytes × JV) := l.map fun p => (p.1, userJ p.2)
/-- The room as a value. -/
def roomJ (R : RoomSt) : JV :=
  .obj [(sCreator, .text R.creator), (sDefault, .int R.other), (sId, .text R.id), (sJoined, .int (joinedL R).length), (sLeveled, .bool R.leveled), (sLevels, .obj (numsJ R.levels)), (sNeeds, .obj (numsJ R.needs)), (sUsers, .obj (usersJ R.known))]

def NumFit (n : Int) : Prop := -9007199254740991 ≤ n ∧ n ≤ 9007199254740991
/-- A room that can be written. -/
structure RoomFit (R : RoomSt) : Prop where
  known : R.known.length ≤ 60
  users : ∀ p ∈ R.known, KeyB p.1 ∧ p.2.1 ≤ 3 ∧ KeyB p.2.2
  id : KeyB R.id
  creator : KeyB R.creator
  levels : R.levels.length ≤ 1000 ∧ ∀ p ∈ R.levels, KeyB p.1 ∧ -9007199254740991 ≤ p.2 ∧ p.2 ≤ 9007199254740991
  needs : R.needs.length ≤ 1000 ∧ ∀ p ∈ R.needs, KeyB p.1 ∧ -9007199254740991 ≤ p.2 ∧ p.2 ≤ 9007199254740991
  other : -9007199254740991 ≤ R.other ∧ R.other ≤ 9007199254740991

theorem LM.isMap {w0 : World} {r0 : Ro} {mi m : Nat} {ins : List (Bytes × Nat × JV)} {K : Nat → Ro → Value → Prop} {done : Nat → Bool} {val : Nat → Value} {w : World} (h : LM w0 r0 mi m ins K done val w) (hd : done mi = true) : ∃ mb, val mi = .map (some mb) := by
  obtain ⟨r, _, _, _, _, h5⟩ := h.1.st
  obtain ⟨mb, _, e, _⟩ := h5 hd
  exact ⟨mb, e⟩

set_option maxRecDepth 100000 in
set_option maxHeartbeats 1000000 in
theorem ofBool_V {r : Ro} {w : World} (hh : Has r w) (b : Bool) : Calls Tryz.prog 76 #[.bool b] w fun e w' => MadeV r (.bool b) w e w' := by
  have HF := Lib.hid (made_of_new hh (Nat.le_refl _) ((Below.refl _ w).alloc (Nat.le_refl _) (vObj 1 b 0 emptyS nilS nilS)) (blk_new w _) (fun R h => IsV.bool h))
  clear hh
  go_enter Tryz.func76, Tryz.ntmps76
  go_wp2_with fail
  go_ret
  exact HF.out

theorem index_words (n : Nat) (hn : n ≤ 3) (w : World) : (Instr.index 139 wordsV (.int .i64 n)).run Tryz.prog w = .ok (.string (mkS (wordOfN n))) w := by
  rcases (show n = 0 ∨ n = 1 ∨ n = 2 ∨ n = 3 by omega) with rfl | rfl | rfl | rfl <;> kernel_rfl
theorem word_key (n : Nat) : KeyB (wordOfN n) := by
  unfold wordOfN
  repeat' split
  all_goals exact key_ascii (by decide) (by decide)
/-! ### the whole room's literal -/
def ins6 (R : RoomSt) : List (Bytes × Nat × JV) :=
  [(sCreator, 6, .text R.creator), (sDefault, 12, .int R.other), (sId, 18, .text R.id), (sJoined, 23, .int (joinedL R).length), (sLeveled, 29, .bool R.leveled), (sLevels, 35, .obj (numsJ R.levels)), (sNeeds, 41, .obj (numsJ R.needs)), (sUsers, 44, .obj (usersJ R.known))]
theorem rise6 (R : RoomSt) : Rising (ins6 R) := rising_of_keys (ks := [sCreator, sDefault, sId, sJoined, sLeveled, sLevels, sNeeds, sUsers]) rfl (by decide)
theorem keys6 (R : RoomSt) : ∀ p ∈ ins6 R, KeyB p.1 := by
  intro p hp
  simp only [ins6, List.mem_cons, List.not_mem_nil, or_false] at hp
  rcases hp with rfl | rfl | rfl | rfl | rfl | rfl | rfl | rfl <;> (dsimp only; exact key_ascii (by decide) (by decide))
def K6 (R : RoomSt) (B rb lb nb ub : Nat) (i : Nat) (r : Ro) (v : Value) : Prop :=
  match i with
  | 1 => v = ptrV rb
  | 2 => v = ptrV rb
  | 3 => v = fieldP rb 2
  | 4 => v = .string (mkS R.creator)
  | 5 => ∃ q, v = ptrV q ∧ IsV r q (.text R.creator)
  | 7 => v = ptrV rb
  | 8 => v = ptrV rb
  | 9 => v = fieldP rb 4
  | 10 => v = .int .i64 R.other
  | 11 => ∃ q, v = ptrV q ∧ IsV r q (.int R.other)
  | 13 => v = ptrV rb
  | 14 => v = ptrV rb
  | 15 => v = fieldP rb 0
  | 16 => v = .string (mkS R.id)
  | 17 => ∃ q, v = ptrV q ∧ IsV r q (.text R.id)
  | 19 => v = ptrV rb
  | 20 => ∃ a c, v = .slice a (joinedL R).length c
  | 21 => v = .int .i64 (joinedL R).length
  | 22 => ∃ q, v = ptrV q ∧ IsV r q (.int (joinedL R).length)
  | 24 => v = ptrV rb
  | 25 => v = ptrV rb
  | 26 => v = fieldP rb 3
  | 27 => v = .bool R.leveled
  | 28 => ∃ q, v = ptrV q ∧ IsV r q (.bool R.leveled)
  | 30 => v = ptrV rb
  | 31 => v = ptrV rb
  | 32 => v = fieldP rb 5
  | 33 => v = .map (some lb)
  | 34 => ∃ q, v = ptrV q ∧ IsV r q (.obj (numsJ R.levels))
  | 36 => v = ptrV rb
  | 37 => v = ptrV rb
  | 38 => v = fieldP rb 6
  | 39 => v = .map (some nb)
  | 40 => ∃ q, v = ptrV q ∧ IsV r q (.obj (numsJ R.needs))
  | 42 => v = .map (some ub)
  | 43 => ∃ q, v = ptrV q ∧ IsV r q (.obj (usersJ R.known))
  | 46 => ∃ q, v = ptrV q ∧ IsV r q (roomJ R) ∧ B ≤ q
  | 47 => ∃ q, v = ptrV q ∧ IsV r q (roomJ R) ∧ B ≤ q
  | _ => True
theorem K6.mono {R : RoomSt} {B rb lb nb ub : Nat} : ∀ j r r' v, r.le r' → K6 R B rb lb nb ub j r v → K6 R B rb lb nb ub j r' v := by
  intro j r r' v hr h
  unfold K6 at h ⊢
  split at h
  all_goals first | exact h | (obtain ⟨q, h1, h2⟩ := h; exact ⟨q, h1, h2.mono hr⟩) | (obtain ⟨q, h1, h2, h3⟩ := h; exact ⟨q, h1, h2.mono hr, h3⟩)
/-! ### a user's literal -/
def ins5 (m : Nat × Bytes) : List (Bytes × Nat × JV) := [(sDisplay, 6, .text m.2), (sMembership, 12, .text (wordOfN m.1))]
theorem rise5 (m : Nat × Bytes) : Rising (ins5 m) := rising_of_keys (ks := [sDisplay, sMembership]) rfl (by decide)
theorem keys5 (m : Nat × Bytes) : ∀ p ∈ ins5 m, KeyB p.1 := by
  intro p hp
  simp only [ins5, List.mem_cons, List.not_mem_nil, or_false] at hp
  rcases hp with rfl | rfl <;> (dsimp only; exact key_ascii (by decide) (by decide))
def K5 (m : Nat × Bytes) (k : Bytes) (ub bx : Nat) (i : Nat) (r : Ro) (v : Value) : Prop :=
  match i with
  | 0 => v = .map (some ub)
  | 1 => v = .string (mkS k)
  | 3 => v = fieldP bx 1
  | 4 => v = .string (mkS m.2)
  | 5 => ∃ q, v = ptrV q ∧ IsV r q (.text m.2)
  | 7 => v = wordsV
  | 8 => v = fieldP bx 0
  | 9 => v = .int .i64 m.1
  | 10 => v = .string (mkS (wordOfN m.1))
  | 11 => ∃ q, v = ptrV q ∧ IsV r q (.text (wordOfN m.1))
  | 14 => ∃ q, v = ptrV q ∧ IsV r q (userJ m)
  | _ => True
theorem K5.mono {m : Nat × Bytes} {k : Bytes} {ub bx : Nat} : ∀ j r r' v, r.le r' → K5 m k ub bx j r v → K5 m k ub bx j r' v := by
  intro j r r' v hr h
  unfold K5 at h ⊢
  split at h
  all_goals first | exact h | (obtain ⟨q, h1, h2⟩ := h; exact ⟨q, h1, h2.mono hr⟩)

set_option maxRecDepth 100000 in
set_option maxHeartbeats 8000000 in
theorem roomPrint_any (r : Ro) (w : World) (hh : Has r w) {rb kb lb nb : Nat} {R : RoomSt} (hR : RoomAt w rb kb lb nb R) (hf : RoomFit R) :
    Calls Tryz.prog 30 #[ptrV rb] w fun e w' => MadeV r (roomJ R) w e w' := by
  have hmm := @run_makeMap Tryz.prog
  have c1 : (w.alloc (.map #[] 0)).cell? ⟨rb, 1, none⟩ = some (.map (some kb)) := blk_cell (blk_old hR.blk _) 1
  have hm1 := hR.known.turns ((Turns.refl [] w).alloc (.map #[] 0)) (by simp)
  obtain ⟨o, hro, hRA⟩ := run_range_new (P := Tryz.prog) Tryz.underlying96 hm1
  rw [show (w.alloc (.map #[] 0)).heap.size = w.heap.size + 1 by simp] at hro hRA
  have HRA := Lib.hid hRA
  have HL0 := Lib.hid (LR.start hh o)
  have HF := Lib.hid hf
  have HR0 := Lib.hid hR
  have HH := Lib.hid hh
  have hbl : kb < w.heap.size := hR.known.lt
  have hjl : (joinedL R).length ≤ 60 := by unfold joinedL; rw [List.length_map]; exact Nat.le_trans (List.length_filter_le _ _) hf.known
  have HJL := Lib.hid hjl
  clear hm1 hRA hf hh hR hjl
  go_enter Tryz.func30, Tryz.ntmps30
  go_wp2_with fail
  go_loopw [] (fun wr => ∃ done left r1 L, RangeAt wr (w.heap.size + 1) kb (mapE encMem R.known) done left ∧ LR w r wr r1 L ∧ Mir encMem userJ done (L.map fun p => (p.1, p.2.2))) (fun wr => rangeLeft wr (w.heap.size + 1) kb)
  case atStart => exact ⟨[], _, _, _, HRA.out, HL0.out, Mir.nil _ _⟩
  case round =>
    obtain ⟨done_, left, r1, L, hR, hL, hM⟩ := hrel
    have HR1 := Lib.hid hR
    have HL := Lib.hid hL
    have HM := Lib.hid hM
    have hst := range_step (P := Tryz.prog) 0 hR
    clear hR hL hM
    rcases hst with ⟨rfl, hrun⟩ | ⟨k, pv, left', w', hperm, hrun, hR', hent, ht'⟩
    · have hp := HR1.out.perm
      rw [List.append_nil] at hp
      have hfull : (L.map fun p => (p.1, p.2.2)) = usersJ R.known := HM.out.full HL.out.rise HR0.out.rise.1 encMem_inj hp
      have hlen : L.length ≤ 1000 := by have := congrArg List.length hfull; have := HF.out.known; simp [usersJ] at *; omega
      have HR := Lib.hid (HR0.out.below HL.out.below)
      have HU := Lib.hid (show ∀ (r' : Ro) (wx : World), r1.le r' → Has r' wx → (∀ k, r1 k = none → k < wr.heap.size → r' k = none) → Below wr.heap.size wr wx → Calls Tryz.prog 22 #[.map (some w.heap.size)] wx fun e w' => MadeV r' (.obj (usersJ R.known)) wx e w' from fun r' wx g1 g2 g3 g4 => by
        have hmv := HL.out.mv.grow g4 g2 g1 (g3 _ HL.out.mv.off HL.out.mv.map.lt)
        have := hmv.ofMap hlen (fun p hp => by
          have : (p.1, p.2.2) ∈ L.map fun p => (p.1, p.2.2) := List.mem_map.2 ⟨p, hp, rfl⟩
          rw [hfull] at this
          obtain ⟨x, hx, he⟩ := List.mem_map.1 this
          have := (HF.out.users x hx).1
          rw [(Prod.mk.inj he).1] at this
          exact this)
        rw [hfull] at this
        exact this)
      clear hp hfull hlen HM HRA
      go_wp2_with fail
      refine wp_region_parts_lit (by kernel_rfl) (by kernel_rfl) (by kernel_rfl) (by decide) (by simp) (LM wr r1 0 45 (ins6 R) (K6 R wr.heap.size rb lb nb w.heap.size)) (LM.start HL.out.mv.has) ?_ ?_
      · generalize hA : ({ tmps := _, defers := [] } : Act) = a0
        have o0 : a0.tmps[0]? = some (ptrV rb) := by rw [← hA]; rfl
        have o3 : a0.tmps[3]? = some (.map (some w.heap.size)) := by rw [← hA]; rfl
        clear hA
        repeat' (first | with_reducible exact stepsOk_nil | with_reducible refine stepsOk_cons ?_ ?_)
        · -- 0
          intro done val a wx hi hdeps hs hJ0
          have hJ := hJ0
          exact step_value (v := .map (some wx.heap.size)) (w' := wx.alloc (.map #[] 0)) (by simp [execOp, run_makeMap, Result.andThen]) ⟨_, rfl, (hJ.make hi rfl (by decide) (fun _ => trivial))⟩
        · -- 1
          intro done val a wx hi hdeps hs hJ0
          have hJ := hJ0
          have e1 := hs.oldV 0 (by kernel_rfl) o0
          exact step_value (v := ptrV rb) (w' := wx) (by simp [execOp, e1, go_sem]) ⟨_, rfl, (hJ.pure hi _ rfl (by decide) (fun _ => rfl))⟩
        · -- 2
          intro done val a wx hi hdeps hs hJ0
          have hJ := hJ0
          have d1 := hdeps ⟨1, .data⟩ (by simp) rfl
          obtain ⟨r1, k1⟩ := hJ.at d1
          have e1 := hs.newV 1 31 rfl rfl d1 (show val 1 = _ from k1)
          exact step_value (v := ptrV rb) (w' := wx) (by simp [execOp, e1, go_sem]) ⟨_, rfl, (hJ.pure hi _ rfl (by decide) (fun _ => rfl))⟩
        · -- 3
          intro done val a wx hi hdeps hs hJ0
          have hJ := hJ0
          have d1 := hdeps ⟨2, .data⟩ (by simp) rfl
          obtain ⟨r1, k1⟩ := hJ.at d1
          have e1 := hs.newV 2 32 rfl rfl d1 (show val 2 = _ from k1)
          exact step_value (v := fieldP rb 2) (w' := wx) (by simp [execOp, e1, go_sem]) ⟨_, rfl, (hJ.pure hi _ rfl (by decide) (fun _ => rfl))⟩
        · -- 4
          intro done val a wx hi hdeps hs hJ0
          have hJ := hJ0
          have d1 := hdeps ⟨3, .data⟩ (by simp) rfl
          obtain ⟨r1, k1⟩ := hJ.at d1
          have e1 := hs.newV 3 33 rfl rfl d1 (show val 3 = _ from k1)
          have HRx := HR.out.below hJ.1.below
          have hc := blk_cell (HRx.blk) 2
          exact step_value (v := .string (mkS R.creator)) (w' := wx) (by simp [execOp, e1, go_sem, hc]) ⟨_, rfl, (hJ.pure hi _ rfl (by decide) (fun _ => rfl))⟩
        · -- 5
          intro done val a wx hi hdeps hs hJ0
          have hJ := hJ0
          have d1 := hdeps ⟨4, .data⟩ (by simp) rfl
          obtain ⟨r1, k1⟩ := hJ.at d1
          have e1 := hs.newV 4 34 rfl rfl d1 (show val 4 = _ from k1)
          exact step_enterJ (f := 23) (args := #[.string (mkS R.creator)]) (w1 := wx) (by simp [e1, go_sem, Act.eval]) (hJ.made hi rfl (by decide) K6.mono (.text R.creator) (fun r q _ h => ⟨q, rfl, h⟩) (fun r h1 h2 h3 h4 => ofText_F h2 R.creator rfl (by have := HF.out.creator.1; omega) HF.out.creator.2))
        · -- 6
          intro done val a wx hi hdeps hs hJ0
          have hJ := hJ0
          have d0 := hdeps ⟨0, .data⟩ (by simp) rfl
          have d1 := hdeps ⟨5, .data⟩ (by simp) rfl
          obtain ⟨mb, q, w', h0, h1, h2, h3⟩ := hJ.insert (rise6 _) (by simp [ins6]) (i := 6) (j := 5) (k := sCreator) (v := .text R.creator) hi (by decide) (by decide) d0 (by simp [ins6]) d1 (fun _ => trivial) (fun _ _ h => h)
          have e1 := hs.newV 0 30 rfl rfl d0 h0
          have e2 := hs.newV 5 35 rfl rfl d1 h1
          dsimp only [mkS, sCreator] at h2
          exact step_skip (w' := w') (by simp [execOp, e1, e2, Act.eval, h2, Result.andThen]) ⟨_, rfl, (h3)⟩
        · -- 7
          intro done val a wx hi hdeps hs hJ0
          have hJ := hJ0
          have e1 := hs.oldV 0 (by kernel_rfl) o0
          exact step_value (v := ptrV rb) (w' := wx) (by simp [execOp, e1, go_sem]) ⟨_, rfl, (hJ.pure hi _ rfl (by decide) (fun _ => rfl))⟩
        · -- 8
          intro done val a wx hi hdeps hs hJ0
          have hJ := hJ0
          have d1 := hdeps ⟨7, .data⟩ (by simp) rfl
          obtain ⟨r1, k1⟩ := hJ.at d1
          have e1 := hs.newV 7 36 rfl rfl d1 (show val 7 = _ from k1)
          exact step_value (v := ptrV rb) (w' := wx) (by simp [execOp, e1, go_sem]) ⟨_, rfl, (hJ.pure hi _ rfl (by decide) (fun _ => rfl))⟩
        · -- 9
          intro done val a wx hi hdeps hs hJ0
          have hJ := hJ0
          have d1 := hdeps ⟨8, .data⟩ (by simp) rfl
          obtain ⟨r1, k1⟩ := hJ.at d1
          have e1 := hs.newV 8 37 rfl rfl d1 (show val 8 = _ from k1)
          exact step_value (v := fieldP rb 4) (w' := wx) (by simp [execOp, e1, go_sem]) ⟨_, rfl, (hJ.pure hi _ rfl (by decide) (fun _ => rfl))⟩
        · -- 10
          intro done val a wx hi hdeps hs hJ0
          have hJ := hJ0
          have d1 := hdeps ⟨9, .data⟩ (by simp) rfl
          obtain ⟨r1, k1⟩ := hJ.at d1
          have e1 := hs.newV 9 38 rfl rfl d1 (show val 9 = _ from k1)
          have HRx := HR.out.below hJ.1.below
          have hc := blk_cell (HRx.blk) 4
          exact step_value (v := .int .i64 R.other) (w' := wx) (by simp [execOp, e1, go_sem, hc]) ⟨_, rfl, (hJ.pure hi _ rfl (by decide) (fun _ => rfl))⟩
        · -- 11
          intro done val a wx hi hdeps hs hJ0
          have hJ := hJ0
          have d1 := hdeps ⟨10, .data⟩ (by simp) rfl
          obtain ⟨r1, k1⟩ := hJ.at d1
          have e1 := hs.newV 10 39 rfl rfl d1 (show val 10 = _ from k1)
          exact step_enterJ (f := 24) (args := #[.int .i64 R.other]) (w1 := wx) (by simp [e1, go_sem, Act.eval]) (hJ.made hi rfl (by decide) K6.mono (.int R.other) (fun r q _ h => ⟨q, rfl, h⟩) (fun r h1 h2 h3 h4 => ofInt_V h2 R.other HF.out.other.1 HF.out.other.2))
        · -- 12
          intro done val a wx hi hdeps hs hJ0
          have hJ := hJ0
          have d0 := hdeps ⟨0, .data⟩ (by simp) rfl
          have d1 := hdeps ⟨11, .data⟩ (by simp) rfl
          obtain ⟨mb, q, w', h0, h1, h2, h3⟩ := hJ.insert (rise6 _) (by simp [ins6]) (i := 12) (j := 11) (k := sDefault) (v := .int R.other) hi (by decide) (by decide) d0 (by simp [ins6]) d1 (fun _ => trivial) (fun _ _ h => h)
          have e1 := hs.newV 0 30 rfl rfl d0 h0
          have e2 := hs.newV 11 40 rfl rfl d1 h1
          dsimp only [mkS, sDefault] at h2
          exact step_skip (w' := w') (by simp [execOp, e1, e2, Act.eval, h2, Result.andThen]) ⟨_, rfl, (h3)⟩
        · -- 13
          intro done val a wx hi hdeps hs hJ0
          have hJ := hJ0
          have e1 := hs.oldV 0 (by kernel_rfl) o0
          exact step_value (v := ptrV rb) (w' := wx) (by simp [execOp, e1, go_sem]) ⟨_, rfl, (hJ.pure hi _ rfl (by decide) (fun _ => rfl))⟩
        · -- 14
          intro done val a wx hi hdeps hs hJ0
          have hJ := hJ0
          have d1 := hdeps ⟨13, .data⟩ (by simp) rfl
          obtain ⟨r1, k1⟩ := hJ.at d1
          have e1 := hs.newV 13 41 rfl rfl d1 (show val 13 = _ from k1)
          exact step_value (v := ptrV rb) (w' := wx) (by simp [execOp, e1, go_sem]) ⟨_, rfl, (hJ.pure hi _ rfl (by decide) (fun _ => rfl))⟩
        · -- 15
          intro done val a wx hi hdeps hs hJ0
          have hJ := hJ0
          have d1 := hdeps ⟨14, .data⟩ (by simp) rfl
          obtain ⟨r1, k1⟩ := hJ.at d1
          have e1 := hs.newV 14 42 rfl rfl d1 (show val 14 = _ from k1)
          exact step_value (v := fieldP rb 0) (w' := wx) (by simp [execOp, e1, go_sem]) ⟨_, rfl, (hJ.pure hi _ rfl (by decide) (fun _ => rfl))⟩
        · -- 16
          intro done val a wx hi hdeps hs hJ0
          have hJ := hJ0
          have d1 := hdeps ⟨15, .data⟩ (by simp) rfl
          obtain ⟨r1, k1⟩ := hJ.at d1
          have e1 := hs.newV 15 43 rfl rfl d1 (show val 15 = _ from k1)
          have HRx := HR.out.below hJ.1.below
          have hc := blk_cell (HRx.blk) 0
          exact step_value (v := .string (mkS R.id)) (w' := wx) (by simp [execOp, e1, go_sem, hc]) ⟨_, rfl, (hJ.pure hi _ rfl (by decide) (fun _ => rfl))⟩
        · -- 17
          intro done val a wx hi hdeps hs hJ0
          have hJ := hJ0
          have d1 := hdeps ⟨16, .data⟩ (by simp) rfl
          obtain ⟨r1, k1⟩ := hJ.at d1
          have e1 := hs.newV 16 44 rfl rfl d1 (show val 16 = _ from k1)
          exact step_enterJ (f := 23) (args := #[.string (mkS R.id)]) (w1 := wx) (by simp [e1, go_sem, Act.eval]) (hJ.made hi rfl (by decide) K6.mono (.text R.id) (fun r q _ h => ⟨q, rfl, h⟩) (fun r h1 h2 h3 h4 => ofText_F h2 R.id rfl (by have := HF.out.id.1; omega) HF.out.id.2))
        · -- 18
          intro done val a wx hi hdeps hs hJ0
          have hJ := hJ0
          have d0 := hdeps ⟨0, .data⟩ (by simp) rfl
          have d1 := hdeps ⟨17, .data⟩ (by simp) rfl
          obtain ⟨mb, q, w', h0, h1, h2, h3⟩ := hJ.insert (rise6 _) (by simp [ins6]) (i := 18) (j := 17) (k := sId) (v := .text R.id) hi (by decide) (by decide) d0 (by simp [ins6]) d1 (fun _ => trivial) (fun _ _ h => h)
          have e1 := hs.newV 0 30 rfl rfl d0 h0
          have e2 := hs.newV 17 45 rfl rfl d1 h1
          dsimp only [mkS, sId] at h2
          exact step_skip (w' := w') (by simp [execOp, e1, e2, Act.eval, h2, Result.andThen]) ⟨_, rfl, (h3)⟩
        · -- 19
          intro done val a wx hi hdeps hs hJ0
          have hJ := hJ0
          have e1 := hs.oldV 0 (by kernel_rfl) o0
          exact step_value (v := ptrV rb) (w' := wx) (by simp [execOp, e1, go_sem]) ⟨_, rfl, (hJ.pure hi _ rfl (by decide) (fun _ => rfl))⟩
        · -- 20
          intro done val a wx hi hdeps hs hJ0
          have hJ := hJ0
          have d1 := hdeps ⟨19, .data⟩ (by simp) rfl
          obtain ⟨r1, k1⟩ := hJ.at d1
          have e1 := hs.newV 19 46 rfl rfl d1 (show val 19 = _ from k1)
          have HRx := HR.out.below hJ.1.below
          exact step_enterJ (f := 33) (args := #[ptrV rb]) (w1 := wx) (by simp [e1, go_sem, Act.eval]) (hJ.plain hi rfl (by decide) K6.mono ((joined_len wx HRx HF.out.known).mono fun e w' ⟨a, c, he, hb⟩ => ⟨_, he, fun _ => ⟨a, c, rfl⟩, hb⟩))
        · -- 21
          intro done val a wx hi hdeps hs hJ0
          have hJ := hJ0
          have d1 := hdeps ⟨20, .data⟩ (by simp) rfl
          obtain ⟨r1, aa, cc, k1⟩ := hJ.at d1
          have e1 := hs.newV 20 47 rfl rfl d1 (show val 20 = _ from k1)
          exact step_value (v := .int .i64 (joinedL R).length) (w' := wx) (by simp [e1, go_sem, Act.eval]) ⟨_, rfl, (hJ.pure hi _ rfl (by decide) (fun _ => rfl))⟩
        · -- 22
          intro done val a wx hi hdeps hs hJ0
          have hJ := hJ0
          have d1 := hdeps ⟨21, .data⟩ (by simp) rfl
          obtain ⟨r1, k1⟩ := hJ.at d1
          have e1 := hs.newV 21 48 rfl rfl d1 (show val 21 = _ from k1)
          exact step_enterJ (f := 24) (args := #[.int .i64 (joinedL R).length]) (w1 := wx) (by simp [e1, go_sem, Act.eval]) (hJ.made hi rfl (by decide) K6.mono (.int (joinedL R).length) (fun r q _ h => ⟨q, rfl, h⟩) (fun r h1 h2 h3 h4 => ofInt_V h2 (joinedL R).length (by omega) (by have := HJL.out; omega)))
        · -- 23
          intro done val a wx hi hdeps hs hJ0
          have hJ := hJ0
          have d0 := hdeps ⟨0, .data⟩ (by simp) rfl
          have d1 := hdeps ⟨22, .data⟩ (by simp) rfl
          obtain ⟨mb, q, w', h0, h1, h2, h3⟩ := hJ.insert (rise6 _) (by simp [ins6]) (i := 23) (j := 22) (k := sJoined) (v := .int (joinedL R).length) hi (by decide) (by decide) d0 (by simp [ins6]) d1 (fun _ => trivial) (fun _ _ h => h)
          have e1 := hs.newV 0 30 rfl rfl d0 h0
          have e2 := hs.newV 22 49 rfl rfl d1 h1
          dsimp only [mkS, sJoined] at h2
          exact step_skip (w' := w') (by simp [execOp, e1, e2, Act.eval, h2, Result.andThen]) ⟨_, rfl, (h3)⟩
        · -- 24
          intro done val a wx hi hdeps hs hJ0
          have hJ := hJ0
          have e1 := hs.oldV 0 (by kernel_rfl) o0
          exact step_value (v := ptrV rb) (w' := wx) (by simp [execOp, e1, go_sem]) ⟨_, rfl, (hJ.pure hi _ rfl (by decide) (fun _ => rfl))⟩
        · -- 25
          intro done val a wx hi hdeps hs hJ0
          have hJ := hJ0
          have d1 := hdeps ⟨24, .data⟩ (by simp) rfl
          obtain ⟨r1, k1⟩ := hJ.at d1
          have e1 := hs.newV 24 50 rfl rfl d1 (show val 24 = _ from k1)
          exact step_value (v := ptrV rb) (w' := wx) (by simp [execOp, e1, go_sem]) ⟨_, rfl, (hJ.pure hi _ rfl (by decide) (fun _ => rfl))⟩
        · -- 26
          intro done val a wx hi hdeps hs hJ0
          have hJ := hJ0
          have d1 := hdeps ⟨25, .data⟩ (by simp) rfl
          obtain ⟨r1, k1⟩ := hJ.at d1
          have e1 := hs.newV 25 51 rfl rfl d1 (show val 25 = _ from k1)
          exact step_value (v := fieldP rb 3) (w' := wx) (by simp [execOp, e1, go_sem]) ⟨_, rfl, (hJ.pure hi _ rfl (by decide) (fun _ => rfl))⟩
        · -- 27
          intro done val a wx hi hdeps hs hJ0
          have hJ := hJ0
          have d1 := hdeps ⟨26, .data⟩ (by simp) rfl
          obtain ⟨r1, k1⟩ := hJ.at d1
          have e1 := hs.newV 26 52 rfl rfl d1 (show val 26 = _ from k1)
          have HRx := HR.out.below hJ.1.below
          have hc := blk_cell (HRx.blk) 3
          exact step_value (v := .bool R.leveled) (w' := wx) (by simp [execOp, e1, go_sem, hc]) ⟨_, rfl, (hJ.pure hi _ rfl (by decide) (fun _ => rfl))⟩
        · -- 28
          intro done val a wx hi hdeps hs hJ0
          have hJ := hJ0
          have d1 := hdeps ⟨27, .data⟩ (by simp) rfl
          obtain ⟨r1, k1⟩ := hJ.at d1
          have e1 := hs.newV 27 53 rfl rfl d1 (show val 27 = _ from k1)
          exact step_enterJ (f := 76) (args := #[.bool R.leveled]) (w1 := wx) (by simp [e1, go_sem, Act.eval]) (hJ.made hi rfl (by decide) K6.mono (.bool R.leveled) (fun r q _ h => ⟨q, rfl, h⟩) (fun r h1 h2 h3 h4 => ofBool_V h2 R.leveled))
        · -- 29
          intro done val a wx hi hdeps hs hJ0
          have hJ := hJ0
          have d0 := hdeps ⟨0, .data⟩ (by simp) rfl
          have d1 := hdeps ⟨28, .data⟩ (by simp) rfl
          obtain ⟨mb, q, w', h0, h1, h2, h3⟩ := hJ.insert (rise6 _) (by simp [ins6]) (i := 29) (j := 28) (k := sLeveled) (v := .bool R.leveled) hi (by decide) (by decide) d0 (by simp [ins6]) d1 (fun _ => trivial) (fun _ _ h => h)
          have e1 := hs.newV 0 30 rfl rfl d0 h0
          have e2 := hs.newV 28 54 rfl rfl d1 h1
          dsimp only [mkS, sLeveled] at h2
          exact step_skip (w' := w') (by simp [execOp, e1, e2, Act.eval, h2, Result.andThen]) ⟨_, rfl, (h3)⟩
        · -- 30
          intro done val a wx hi hdeps hs hJ0
          have hJ := hJ0
          have e1 := hs.oldV 0 (by kernel_rfl) o0
          exact step_value (v := ptrV rb) (w' := wx) (by simp [execOp, e1, go_sem]) ⟨_, rfl, (hJ.pure hi _ rfl (by decide) (fun _ => rfl))⟩
        · -- 31
          intro done val a wx hi hdeps hs hJ0
          have hJ := hJ0
          have d1 := hdeps ⟨30, .data⟩ (by simp) rfl
          obtain ⟨r1, k1⟩ := hJ.at d1
          have e1 := hs.newV 30 55 rfl rfl d1 (show val 30 = _ from k1)
          exact step_value (v := ptrV rb) (w' := wx) (by simp [execOp, e1, go_sem]) ⟨_, rfl, (hJ.pure hi _ rfl (by decide) (fun _ => rfl))⟩
        · -- 32
          intro done val a wx hi hdeps hs hJ0
          have hJ := hJ0
          have d1 := hdeps ⟨31, .data⟩ (by simp) rfl
          obtain ⟨r1, k1⟩ := hJ.at d1
          have e1 := hs.newV 31 56 rfl rfl d1 (show val 31 = _ from k1)
          exact step_value (v := fieldP rb 5) (w' := wx) (by simp [execOp, e1, go_sem]) ⟨_, rfl, (hJ.pure hi _ rfl (by decide) (fun _ => rfl))⟩
        · -- 33
          intro done val a wx hi hdeps hs hJ0
          have hJ := hJ0
          have d1 := hdeps ⟨32, .data⟩ (by simp) rfl
          obtain ⟨r1, k1⟩ := hJ.at d1
          have e1 := hs.newV 32 57 rfl rfl d1 (show val 32 = _ from k1)
          have HRx := HR.out.below hJ.1.below
          have hc := blk_cell (HRx.blk) 5
          exact step_value (v := .map (some lb)) (w' := wx) (by simp [execOp, e1, go_sem, hc]) ⟨_, rfl, (hJ.pure hi _ rfl (by decide) (fun _ => rfl))⟩
        · -- 34
          intro done val a wx hi hdeps hs hJ0
          have hJ := hJ0
          have d1 := hdeps ⟨33, .data⟩ (by simp) rfl
          obtain ⟨r1, k1⟩ := hJ.at d1
          have e1 := hs.newV 33 58 rfl rfl d1 (show val 33 = _ from k1)
          exact step_enterJ (f := 77) (args := #[.map (some lb)]) (w1 := wx) (by simp [e1, go_sem, Act.eval]) (hJ.made hi rfl (by decide) K6.mono (.obj (numsJ R.levels)) (fun r q _ h => ⟨q, rfl, h⟩) (fun r h1 h2 h3 h4 => object_any r wx h2 (HR.out.below h4).levels HF.out.levels.1 HF.out.levels.2))
        · -- 35
          intro done val a wx hi hdeps hs hJ0
          have hJ := hJ0
          have d0 := hdeps ⟨0, .data⟩ (by simp) rfl
          have d1 := hdeps ⟨34, .data⟩ (by simp) rfl
          obtain ⟨mb, q, w', h0, h1, h2, h3⟩ := hJ.insert (rise6 _) (by simp [ins6]) (i := 35) (j := 34) (k := sLevels) (v := .obj (numsJ R.levels)) hi (by decide) (by decide) d0 (by simp [ins6]) d1 (fun _ => trivial) (fun _ _ h => h)
          have e1 := hs.newV 0 30 rfl rfl d0 h0
          have e2 := hs.newV 34 59 rfl rfl d1 h1
          dsimp only [mkS, sLevels] at h2
          exact step_skip (w' := w') (by simp [execOp, e1, e2, Act.eval, h2, Result.andThen]) ⟨_, rfl, (h3)⟩
        · -- 36
          intro done val a wx hi hdeps hs hJ0
          have hJ := hJ0
          have e1 := hs.oldV 0 (by kernel_rfl) o0
          exact step_value (v := ptrV rb) (w' := wx) (by simp [execOp, e1, go_sem]) ⟨_, rfl, (hJ.pure hi _ rfl (by decide) (fun _ => rfl))⟩
        · -- 37
          intro done val a wx hi hdeps hs hJ0
          have hJ := hJ0
          have d1 := hdeps ⟨36, .data⟩ (by simp) rfl
          obtain ⟨r1, k1⟩ := hJ.at d1
          have e1 := hs.newV 36 60 rfl rfl d1 (show val 36 = _ from k1)
          exact step_value (v := ptrV rb) (w' := wx) (by simp [execOp, e1, go_sem]) ⟨_, rfl, (hJ.pure hi _ rfl (by decide) (fun _ => rfl))⟩
        · -- 38
          intro done val a wx hi hdeps hs hJ0
          have hJ := hJ0
          have d1 := hdeps ⟨37, .data⟩ (by simp) rfl
          obtain ⟨r1, k1⟩ := hJ.at d1
          have e1 := hs.newV 37 61 rfl rfl d1 (show val 37 = _ from k1)
          exact step_value (v := fieldP rb 6) (w' := wx) (by simp [execOp, e1, go_sem]) ⟨_, rfl, (hJ.pure hi _ rfl (by decide) (fun _ => rfl))⟩
        · -- 39
          intro done val a wx hi hdeps hs hJ0
          have hJ := hJ0
          have d1 := hdeps ⟨38, .data⟩ (by simp) rfl
          obtain ⟨r1, k1⟩ := hJ.at d1
          have e1 := hs.newV 38 62 rfl rfl d1 (show val 38 = _ from k1)
          have HRx := HR.out.below hJ.1.below
          have hc := blk_cell (HRx.blk) 6
          exact step_value (v := .map (some nb)) (w' := wx) (by simp [execOp, e1, go_sem, hc]) ⟨_, rfl, (hJ.pure hi _ rfl (by decide) (fun _ => rfl))⟩
        · -- 40
          intro done val a wx hi hdeps hs hJ0
          have hJ := hJ0
          have d1 := hdeps ⟨39, .data⟩ (by simp) rfl
          obtain ⟨r1, k1⟩ := hJ.at d1
          have e1 := hs.newV 39 63 rfl rfl d1 (show val 39 = _ from k1)
          exact step_enterJ (f := 77) (args := #[.map (some nb)]) (w1 := wx) (by simp [e1, go_sem, Act.eval]) (hJ.made hi rfl (by decide) K6.mono (.obj (numsJ R.needs)) (fun r q _ h => ⟨q, rfl, h⟩) (fun r h1 h2 h3 h4 => object_any r wx h2 (HR.out.below h4).needs HF.out.needs.1 HF.out.needs.2))
        · -- 41
          intro done val a wx hi hdeps hs hJ0
          have hJ := hJ0
          have d0 := hdeps ⟨0, .data⟩ (by simp) rfl
          have d1 := hdeps ⟨40, .data⟩ (by simp) rfl
          obtain ⟨mb, q, w', h0, h1, h2, h3⟩ := hJ.insert (rise6 _) (by simp [ins6]) (i := 41) (j := 40) (k := sNeeds) (v := .obj (numsJ R.needs)) hi (by decide) (by decide) d0 (by simp [ins6]) d1 (fun _ => trivial) (fun _ _ h => h)
          have e1 := hs.newV 0 30 rfl rfl d0 h0
          have e2 := hs.newV 40 64 rfl rfl d1 h1
          dsimp only [mkS, sNeeds] at h2
          exact step_skip (w' := w') (by simp [execOp, e1, e2, Act.eval, h2, Result.andThen]) ⟨_, rfl, (h3)⟩
        · -- 42
          intro done val a wx hi hdeps hs hJ0
          have hJ := hJ0
          have e1 := hs.oldV 3 (by kernel_rfl) o3
          exact step_value (v := .map (some w.heap.size)) (w' := wx) (by simp [execOp, e1, go_sem]) ⟨_, rfl, (hJ.pure hi _ rfl (by decide) (fun _ => rfl))⟩
        · -- 43
          intro done val a wx hi hdeps hs hJ0
          have hJ := hJ0
          have d1 := hdeps ⟨42, .data⟩ (by simp) rfl
          obtain ⟨r1, k1⟩ := hJ.at d1
          have e1 := hs.newV 42 65 rfl rfl d1 (show val 42 = _ from k1)
          exact step_enterJ (f := 22) (args := #[.map (some w.heap.size)]) (w1 := wx) (by simp [e1, go_sem, Act.eval]) (hJ.made hi rfl (by decide) K6.mono (.obj (usersJ R.known)) (fun r q _ h => ⟨q, rfl, h⟩) (fun r h1 h2 h3 h4 => HU.out r wx h1 h2 h3 h4))
        · -- 44
          intro done val a wx hi hdeps hs hJ0
          have hJ := hJ0
          have d0 := hdeps ⟨0, .data⟩ (by simp) rfl
          have d1 := hdeps ⟨43, .data⟩ (by simp) rfl
          obtain ⟨mb, q, w', h0, h1, h2, h3⟩ := hJ.insert (rise6 _) (by simp [ins6]) (i := 44) (j := 43) (k := sUsers) (v := .obj (usersJ R.known)) hi (by decide) (by decide) d0 (by simp [ins6]) d1 (fun _ => trivial) (fun _ _ h => h)
          have e1 := hs.newV 0 30 rfl rfl d0 h0
          have e2 := hs.newV 43 66 rfl rfl d1 h1
          dsimp only [mkS, sUsers] at h2
          exact step_skip (w' := w') (by simp [execOp, e1, e2, Act.eval, h2, Result.andThen]) ⟨_, rfl, (h3)⟩
        · -- 45
          intro done val a wx hi hdeps hs hJ0
          have hJ := hJ0
          have d0 := hdeps ⟨0, .data⟩ (by simp) rfl
          obtain ⟨mb, hmb⟩ := hJ.isMap d0
          have e0 := hs.newV 0 30 rfl rfl d0 hmb
          have hall : ∀ p ∈ ins6 R, done p.2.1 = true := by
            intro p hp
            simp only [ins6, List.mem_cons, List.not_mem_nil, or_false] at hp
            rcases hp with rfl | rfl | rfl | rfl | rfl | rfl | rfl | rfl
            · exact hdeps ⟨6, .data⟩ (by simp) rfl
            · exact hdeps ⟨12, .data⟩ (by simp) rfl
            · exact hdeps ⟨18, .data⟩ (by simp) rfl
            · exact hdeps ⟨23, .data⟩ (by simp) rfl
            · exact hdeps ⟨29, .data⟩ (by simp) rfl
            · exact hdeps ⟨35, .data⟩ (by simp) rfl
            · exact hdeps ⟨41, .data⟩ (by simp) rfl
            · exact hdeps ⟨44, .data⟩ (by simp) rfl
          exact step_value (v := val 0) (w' := wx) (by rw [hmb]; simp [execOp, e0, go_sem]) ⟨_, rfl, (hJ.move hi rfl d0 hall (fun _ => trivial))⟩
        · -- 46
          intro done val a wx hi hdeps hs hJ0
          have hJ := hJ0
          have d1 := hdeps ⟨45, .data⟩ (by simp) rfl
          obtain ⟨g1, g2, g3⟩ := hJ.2 d1
          obtain ⟨mb, hmb⟩ := hJ.isMap g2
          have e1 := hs.newV 45 67 rfl rfl d1 (g1.trans hmb)
          exact step_enterJ (f := 22) (args := #[.map (some mb)]) (w1 := wx) (by simp [e1, go_sem, Act.eval]) (hJ.ofMap hi rfl (by decide) K6.mono d1 (by simp [ins6]) (keys6 R) (fun r q hb h => ⟨q, rfl, h, hb⟩) (g1.trans hmb))
        · -- 47
          intro done val a wx hi hdeps hs hJ0
          have hJ := hJ0
          have d1 := hdeps ⟨46, .data⟩ (by simp) rfl
          obtain ⟨r1, q1, k1, _⟩ := hJ.at d1
          have e1 := hs.newV 46 68 rfl rfl d1 (show val 46 = _ from k1)
          exact step_value (v := val 46) (w' := wx) (by rw [show val 46 = _ from k1]; simp [execOp, e1, go_sem]) ⟨_, rfl, (hJ.copy hi 46 rfl (by decide) d1 (fun _ _ h => h))⟩
      · intro done val wR hdone hJ
        obtain ⟨r2, g1, g2, g3, g4, _⟩ := hJ.1.st
        obtain ⟨q, hq, hv, hbq⟩ := g4 47 (hdone 47 (by simp))
        have HFIN : Hid (MadeV r (roomJ R) w (.returned (ptrV q)) wR) := Lib.hid ⟨q, r2, rfl, Nat.le_trans HL.out.below.size hbq, g2, hv, Ro.le_trans HL.out.le g1, fun k hk hkl => g3 k (HL.out.no k hk (by omega)) (by have := HL.out.below.size; omega), below_trans HL.out.below hJ.1.below⟩
        clear g1 g2 g3 g4 hv hbq hdone hJ
        show Exit.then _ _ _ (putAll _ _ [val 0, val 1, val 2, val 3, val 4, val 5, val 6, val 7, val 8, val 9, val 10, val 11, val 12, val 13, val 14, val 15, val 16, val 17, val 18, val 19, val 20, val 21, val 22, val 23, val 24, val 25, val 26, val 27, val 28, val 29, val 30, val 31, val 32, val 33, val 34, val 35, val 36, val 37, val 38, val 39, val 40, val 41, val 42, val 43, val 44, val 45, val 46, val 47]) wR
        rw [hq]
        clear hq
        simp only [putAll, Act.put]
        go_simp
        go_wp2_with fail
        go_ret
        exact HFIN.out
    · have hm : (k, pv) ∈ mapE encMem R.known := HR1.out.perm.mem_iff.1 (List.mem_append_right _ (hperm.mem_iff.2 (.head _)))
      obtain ⟨⟨ku, m⟩, hkm, he⟩ := List.mem_map.1 hm
      cases he
      have HFM := Lib.hid (HF.out.users _ hkm)
      have HNK := Lib.hid (new_key (HR1.out.map.rise) HR1.out.perm hperm)
      have HP := Lib.hid hperm
      have HLB := Lib.hid ((HL.out.next HH.out ht').grown ((Below.refl _ w').alloc (Nat.le_refl _) (.cells #[.int .i64 m.1, .string (mkS m.2)] 130)))
      have HRB := Lib.hid (hR'.turns ((Turns.refl [] w').alloc (.cells #[.int .i64 m.1, .string (mkS m.2)] 130)) (by simp) (by simp))
      have HBX := Lib.hid (blk_new w' (.cells #[.int .i64 m.1, .string (mkS m.2)] 130))
      unfold encMem at hrun hent
      clear hkm hm hperm ht' hR' HRA
      go_wp2_with fail
      generalize hwB : w'.alloc (.cells #[.int .i64 m.1, .string (mkS m.2)] 130) = wB at *
      clear hwB
      obtain ⟨FIN, hFIN⟩ : ∃ F : World → Prop, F = fun wx => ∃ R2 L2, RangeAt wx (w.heap.size + 1) kb (mapE encMem R.known) (done_ ++ [(ku, encMem m)]) left' ∧ LR w r wx R2 L2 ∧ Mir encMem userJ (done_ ++ [(ku, encMem m)]) (L2.map fun p => (p.1, p.2.2)) := ⟨_, rfl⟩
      refine wp_region_parts_lit (by kernel_rfl) (by kernel_rfl) (by kernel_rfl) (by decide) (by simp) (fun dn val wx => (dn 15 = false ∧ LM wB r1 2 13 (ins5 m) (K5 m ku w.heap.size w'.heap.size) dn val wx) ∨ ((∀ j, j < 16 → dn j = true) ∧ FIN wx)) (.inl ⟨rfl, LM.start HLB.out.mv.has⟩) ?_ ?_
      · generalize hA : ({ tmps := _, defers := [] } : Act) = a0
        have o3 : a0.tmps[3]? = some (.map (some w.heap.size)) := by rw [← hA]; rfl
        have o4 : a0.tmps[4]? = some (.string (mkS ku)) := by rw [← hA]; rfl
        have o5 : a0.tmps[5]? = some (ptrV w'.heap.size) := by rw [← hA]; rfl
        clear hA
        repeat' (first | with_reducible exact stepsOk_nil | with_reducible refine stepsOk_cons ?_ ?_)
        · -- 0
          intro done val a wx hi hdeps hs hJ0
          obtain ⟨h15a, hJ⟩ : done 15 = false ∧ LM wB r1 2 13 (ins5 m) (K5 m ku w.heap.size w'.heap.size) done val wx := by
            rcases hJ0 with h | h
            · exact h
            · exact absurd (h.1 0 (by decide)) (by rw [hi]; decide)
          have h15 : also done 0 15 = false := by simpa [also] using h15a
          have e1 := hs.oldV 3 (by kernel_rfl) o3
          exact step_value (v := .map (some w.heap.size)) (w' := wx) (by simp [execOp, e1, go_sem]) ⟨_, rfl, .inl ⟨h15, (hJ.pure hi _ rfl (by decide) (fun _ => rfl))⟩⟩
        · -- 1
          intro done val a wx hi hdeps hs hJ0
          obtain ⟨h15a, hJ⟩ : done 15 = false ∧ LM wB r1 2 13 (ins5 m) (K5 m ku w.heap.size w'.heap.size) done val wx := by
            rcases hJ0 with h | h
            · exact h
            · exact absurd (h.1 1 (by decide)) (by rw [hi]; decide)
          have h15 : also done 1 15 = false := by simpa [also] using h15a
          have e1 := hs.oldV 4 (by kernel_rfl) o4
          exact step_value (v := .string (mkS ku)) (w' := wx) (by simp [execOp, e1, go_sem]) ⟨_, rfl, .inl ⟨h15, (hJ.pure hi _ rfl (by decide) (fun _ => rfl))⟩⟩
        · -- 2
          intro done val a wx hi hdeps hs hJ0
          obtain ⟨h15a, hJ⟩ : done 15 = false ∧ LM wB r1 2 13 (ins5 m) (K5 m ku w.heap.size w'.heap.size) done val wx := by
            rcases hJ0 with h | h
            · exact h
            · exact absurd (h.1 2 (by decide)) (by rw [hi]; decide)
          have h15 : also done 2 15 = false := by simpa [also] using h15a
          exact step_value (v := .map (some wx.heap.size)) (w' := wx.alloc (.map #[] 0)) (by simp [execOp, run_makeMap, Result.andThen]) ⟨_, rfl, .inl ⟨h15, (hJ.make hi rfl (by decide) (fun _ => trivial))⟩⟩
        · -- 3
          intro done val a wx hi hdeps hs hJ0
          obtain ⟨h15a, hJ⟩ : done 15 = false ∧ LM wB r1 2 13 (ins5 m) (K5 m ku w.heap.size w'.heap.size) done val wx := by
            rcases hJ0 with h | h
            · exact h
            · exact absurd (h.1 3 (by decide)) (by rw [hi]; decide)
          have h15 : also done 3 15 = false := by simpa [also] using h15a
          have e1 := hs.oldV 5 (by kernel_rfl) o5
          exact step_value (v := fieldP w'.heap.size 1) (w' := wx) (by simp [execOp, e1, go_sem]) ⟨_, rfl, .inl ⟨h15, (hJ.pure hi _ rfl (by decide) (fun _ => rfl))⟩⟩
        · -- 4
          intro done val a wx hi hdeps hs hJ0
          obtain ⟨h15a, hJ⟩ : done 15 = false ∧ LM wB r1 2 13 (ins5 m) (K5 m ku w.heap.size w'.heap.size) done val wx := by
            rcases hJ0 with h | h
            · exact h
            · exact absurd (h.1 4 (by decide)) (by rw [hi]; decide)
          have h15 : also done 4 15 = false := by simpa [also] using h15a
          have d1 := hdeps ⟨3, .data⟩ (by simp) rfl
          obtain ⟨r1, k1⟩ := hJ.at d1
          have e1 := hs.newV 3 20 rfl rfl d1 (show val 3 = _ from k1)
          have hc := blk_cell (hJ.1.below.block _ (blk_lt HBX.out) |>.trans HBX.out) 1
          exact step_value (v := .string (mkS m.2)) (w' := wx) (by simp [execOp, e1, go_sem, hc]) ⟨_, rfl, .inl ⟨h15, (hJ.pure hi _ rfl (by decide) (fun _ => rfl))⟩⟩
        · -- 5
          intro done val a wx hi hdeps hs hJ0
          obtain ⟨h15a, hJ⟩ : done 15 = false ∧ LM wB r1 2 13 (ins5 m) (K5 m ku w.heap.size w'.heap.size) done val wx := by
            rcases hJ0 with h | h
            · exact h
            · exact absurd (h.1 5 (by decide)) (by rw [hi]; decide)
          have h15 : also done 5 15 = false := by simpa [also] using h15a
          have d1 := hdeps ⟨4, .data⟩ (by simp) rfl
          obtain ⟨r1, k1⟩ := hJ.at d1
          have e1 := hs.newV 4 21 rfl rfl d1 (show val 4 = _ from k1)
          exact step_enterJ (f := 23) (args := #[.string (mkS m.2)]) (w1 := wx) (by simp [e1, go_sem, Act.eval]) ((hJ.made hi rfl (by decide) K5.mono (.text m.2) (fun r q _ h => ⟨q, rfl, h⟩) (fun r h1 h2 h3 h4 => ofText_F h2 m.2 rfl (by have := HFM.out.2.2.1; omega) HFM.out.2.2.2)).mono fun e w' ⟨v, he, h⟩ => ⟨v, he, .inl ⟨h15, h⟩⟩)
        · -- 6
          intro done val a wx hi hdeps hs hJ0
          obtain ⟨h15a, hJ⟩ : done 15 = false ∧ LM wB r1 2 13 (ins5 m) (K5 m ku w.heap.size w'.heap.size) done val wx := by
            rcases hJ0 with h | h
            · exact h
            · exact absurd (h.1 6 (by decide)) (by rw [hi]; decide)
          have h15 : also done 6 15 = false := by simpa [also] using h15a
          have d0 := hdeps ⟨2, .data⟩ (by simp) rfl
          have d1 := hdeps ⟨5, .data⟩ (by simp) rfl
          obtain ⟨mb, q, w', h0, h1, h2, h3⟩ := hJ.insert (rise5 _) (by simp [ins5]) (i := 6) (j := 5) (k := sDisplay) (v := .text m.2) hi (by decide) (by decide) d0 (by simp [ins5]) d1 (fun _ => trivial) (fun _ _ h => h)
          have e1 := hs.newV 2 19 rfl rfl d0 h0
          have e2 := hs.newV 5 22 rfl rfl d1 h1
          dsimp only [mkS, sDisplay] at h2
          exact step_skip (w' := w') (by simp [execOp, e1, e2, Act.eval, h2, Result.andThen]) ⟨_, rfl, .inl ⟨h15, (h3)⟩⟩
        · -- 7
          intro done val a wx hi hdeps hs hJ0
          obtain ⟨h15a, hJ⟩ : done 15 = false ∧ LM wB r1 2 13 (ins5 m) (K5 m ku w.heap.size w'.heap.size) done val wx := by
            rcases hJ0 with h | h
            · exact h
            · exact absurd (h.1 7 (by decide)) (by rw [hi]; decide)
          have h15 : also done 7 15 = false := by simpa [also] using h15a
          exact step_enterJ (f := 75) (args := #[]) (w1 := wx) (by simp [go_sem]) ((hJ.plain hi rfl (by decide) K5.mono ((words_any wx).mono fun e w' ⟨he, hb⟩ => ⟨_, he, fun _ => rfl, hb⟩)).mono fun e w' ⟨v, he, h⟩ => ⟨v, he, .inl ⟨h15, h⟩⟩)
        · -- 8
          intro done val a wx hi hdeps hs hJ0
          obtain ⟨h15a, hJ⟩ : done 15 = false ∧ LM wB r1 2 13 (ins5 m) (K5 m ku w.heap.size w'.heap.size) done val wx := by
            rcases hJ0 with h | h
            · exact h
            · exact absurd (h.1 8 (by decide)) (by rw [hi]; decide)
          have h15 : also done 8 15 = false := by simpa [also] using h15a
          have e1 := hs.oldV 5 (by kernel_rfl) o5
          exact step_value (v := fieldP w'.heap.size 0) (w' := wx) (by simp [execOp, e1, go_sem]) ⟨_, rfl, .inl ⟨h15, (hJ.pure hi _ rfl (by decide) (fun _ => rfl))⟩⟩
        · -- 9
          intro done val a wx hi hdeps hs hJ0
          obtain ⟨h15a, hJ⟩ : done 15 = false ∧ LM wB r1 2 13 (ins5 m) (K5 m ku w.heap.size w'.heap.size) done val wx := by
            rcases hJ0 with h | h
            · exact h
            · exact absurd (h.1 9 (by decide)) (by rw [hi]; decide)
          have h15 : also done 9 15 = false := by simpa [also] using h15a
          have d1 := hdeps ⟨8, .data⟩ (by simp) rfl
          obtain ⟨r1, k1⟩ := hJ.at d1
          have e1 := hs.newV 8 24 rfl rfl d1 (show val 8 = _ from k1)
          have hc := blk_cell (hJ.1.below.block _ (blk_lt HBX.out) |>.trans HBX.out) 0
          exact step_value (v := .int .i64 m.1) (w' := wx) (by simp [execOp, e1, go_sem, hc]) ⟨_, rfl, .inl ⟨h15, (hJ.pure hi _ rfl (by decide) (fun _ => rfl))⟩⟩
        · -- 10
          intro done val a wx hi hdeps hs hJ0
          obtain ⟨h15a, hJ⟩ : done 15 = false ∧ LM wB r1 2 13 (ins5 m) (K5 m ku w.heap.size w'.heap.size) done val wx := by
            rcases hJ0 with h | h
            · exact h
            · exact absurd (h.1 10 (by decide)) (by rw [hi]; decide)
          have h15 : also done 10 15 = false := by simpa [also] using h15a
          have d1 := hdeps ⟨7, .data⟩ (by simp) rfl
          obtain ⟨r1, k1⟩ := hJ.at d1
          have e1 := hs.newV 7 23 rfl rfl d1 (show val 7 = _ from k1)
          have d2 := hdeps ⟨9, .data⟩ (by simp) rfl
          obtain ⟨r2, k2⟩ := hJ.at d2
          have e2 := hs.newV 9 25 rfl rfl d2 (show val 9 = _ from k2)
          have hix := index_words m.1 HFM.out.2.1 wx
          exact step_value (v := .string (mkS (wordOfN m.1))) (w' := wx) (by simp [execOp, e1, e2, go_sem, Act.eval, hix, Result.andThen]) ⟨_, rfl, .inl ⟨h15, (hJ.pure hi _ rfl (by decide) (fun _ => rfl))⟩⟩
        · -- 11
          intro done val a wx hi hdeps hs hJ0
          obtain ⟨h15a, hJ⟩ : done 15 = false ∧ LM wB r1 2 13 (ins5 m) (K5 m ku w.heap.size w'.heap.size) done val wx := by
            rcases hJ0 with h | h
            · exact h
            · exact absurd (h.1 11 (by decide)) (by rw [hi]; decide)
          have h15 : also done 11 15 = false := by simpa [also] using h15a
          have d1 := hdeps ⟨10, .data⟩ (by simp) rfl
          obtain ⟨r1, k1⟩ := hJ.at d1
          have e1 := hs.newV 10 26 rfl rfl d1 (show val 10 = _ from k1)
          exact step_enterJ (f := 23) (args := #[.string (mkS (wordOfN m.1))]) (w1 := wx) (by simp [e1, go_sem, Act.eval]) ((hJ.made hi rfl (by decide) K5.mono (.text (wordOfN m.1)) (fun r q _ h => ⟨q, rfl, h⟩) (fun r h1 h2 h3 h4 => ofText_F h2 (wordOfN m.1) rfl (by have := (word_key m.1).1; omega) (word_key m.1).2)).mono fun e w' ⟨v, he, h⟩ => ⟨v, he, .inl ⟨h15, h⟩⟩)
        · -- 12
          intro done val a wx hi hdeps hs hJ0
          obtain ⟨h15a, hJ⟩ : done 15 = false ∧ LM wB r1 2 13 (ins5 m) (K5 m ku w.heap.size w'.heap.size) done val wx := by
            rcases hJ0 with h | h
            · exact h
            · exact absurd (h.1 12 (by decide)) (by rw [hi]; decide)
          have h15 : also done 12 15 = false := by simpa [also] using h15a
          have d0 := hdeps ⟨2, .data⟩ (by simp) rfl
          have d1 := hdeps ⟨11, .data⟩ (by simp) rfl
          obtain ⟨mb, q, w', h0, h1, h2, h3⟩ := hJ.insert (rise5 _) (by simp [ins5]) (i := 12) (j := 11) (k := sMembership) (v := .text (wordOfN m.1)) hi (by decide) (by decide) d0 (by simp [ins5]) d1 (fun _ => trivial) (fun _ _ h => h)
          have e1 := hs.newV 2 19 rfl rfl d0 h0
          have e2 := hs.newV 11 27 rfl rfl d1 h1
          dsimp only [mkS, sMembership] at h2
          exact step_skip (w' := w') (by simp [execOp, e1, e2, Act.eval, h2, Result.andThen]) ⟨_, rfl, .inl ⟨h15, (h3)⟩⟩
        · -- 13
          intro done val a wx hi hdeps hs hJ0
          obtain ⟨h15a, hJ⟩ : done 15 = false ∧ LM wB r1 2 13 (ins5 m) (K5 m ku w.heap.size w'.heap.size) done val wx := by
            rcases hJ0 with h | h
            · exact h
            · exact absurd (h.1 13 (by decide)) (by rw [hi]; decide)
          have h15 : also done 13 15 = false := by simpa [also] using h15a
          have d0 := hdeps ⟨2, .data⟩ (by simp) rfl
          obtain ⟨mb, hmb⟩ := hJ.isMap d0
          have e0 := hs.newV 2 19 rfl rfl d0 hmb
          have hall : ∀ p ∈ ins5 m, done p.2.1 = true := by
            intro p hp
            simp only [ins5, List.mem_cons, List.not_mem_nil, or_false] at hp
            rcases hp with rfl | rfl
            · exact hdeps ⟨6, .data⟩ (by simp) rfl
            · exact hdeps ⟨12, .data⟩ (by simp) rfl
          exact step_value (v := val 2) (w' := wx) (by rw [hmb]; simp [execOp, e0, go_sem]) ⟨_, rfl, .inl ⟨h15, (hJ.move hi rfl d0 hall (fun _ => trivial))⟩⟩
        · -- 14
          intro done val a wx hi hdeps hs hJ0
          obtain ⟨h15a, hJ⟩ : done 15 = false ∧ LM wB r1 2 13 (ins5 m) (K5 m ku w.heap.size w'.heap.size) done val wx := by
            rcases hJ0 with h | h
            · exact h
            · exact absurd (h.1 14 (by decide)) (by rw [hi]; decide)
          have h15 : also done 14 15 = false := by simpa [also] using h15a
          have d1 := hdeps ⟨13, .data⟩ (by simp) rfl
          obtain ⟨g1, g2, g3⟩ := hJ.2 d1
          obtain ⟨mb, hmb⟩ := hJ.isMap g2
          have e1 := hs.newV 13 28 rfl rfl d1 (g1.trans hmb)
          exact step_enterJ (f := 22) (args := #[.map (some mb)]) (w1 := wx) (by simp [e1, go_sem, Act.eval]) ((hJ.ofMap hi rfl (by decide) K5.mono d1 (by simp [ins5]) (keys5 m) (fun r q _ h => ⟨q, rfl, h⟩) (g1.trans hmb)).mono fun e w' ⟨v, he, h⟩ => ⟨v, he, .inl ⟨h15, h⟩⟩)
        · -- 15
          intro done val a wx hi hdeps hs hJ0
          obtain ⟨h15a, hJ⟩ : done 15 = false ∧ LM wB r1 2 13 (ins5 m) (K5 m ku w.heap.size w'.heap.size) done val wx := by
            rcases hJ0 with h | h
            · exact h
            · exact absurd (h.1 15 (by decide)) (by rw [hi]; decide)

          have d1 := hdeps ⟨0, .data⟩ (by simp) rfl
          obtain ⟨r1, k1⟩ := hJ.at d1
          have e1 := hs.newV 0 17 rfl rfl d1 (show val 0 = _ from k1)
          have d2 := hdeps ⟨1, .data⟩ (by simp) rfl
          obtain ⟨r2, k2⟩ := hJ.at d2
          have e2 := hs.newV 1 18 rfl rfl d2 (show val 1 = _ from k2)
          have d3 := hdeps ⟨14, .data⟩ (by simp) rfl
          obtain ⟨r2, g1, g2, g3, g4, _⟩ := hJ.1.st
          obtain ⟨q, hq, hv⟩ := g4 14 d3
          have e3 := hs.newV 14 29 rfl rfl d3 hq
          have hL3 := HLB.out.made hJ.1.below g2 g1 g3
          obtain ⟨w4, hput, hL4, ht4⟩ := hL3.put ku hv
          have hkw : kb ≠ w.heap.size := by omega
          have hR4 := (HRB.out.turns (Turns.below (S := []) hJ.1.below) (by simp) (by simp)).turns ht4 (by simp) (by simpa using hkw)
          have hM4 : Mir encMem userJ (done_ ++ [(ku, encMem m)]) ((putK L ku (q, userJ m)).map fun p => (p.1, p.2.2)) := by
            rw [putL]; exact HM.out.snoc HL.out.rise encMem_inj HNK.out m
          refine step_skip (w' := w4) (by simp [execOp, e1, e2, e3, Act.eval, hput, Result.andThen]) ⟨_, rfl, .inr ⟨fun j hj => ?_, by rw [hFIN]; exact ⟨r2, _, hR4, hL4, hM4⟩⟩⟩
          by_cases hj15 : j = 15
          · simp [also, hj15]
          · have : done j = true := by
              have : j = 0 ∨ j = 1 ∨ j = 2 ∨ j = 3 ∨ j = 4 ∨ j = 5 ∨ j = 6 ∨ j = 7 ∨ j = 8 ∨ j = 9 ∨ j = 10 ∨ j = 11 ∨ j = 12 ∨ j = 13 ∨ j = 14 := by omega
              rcases this with rfl | rfl | rfl | rfl | rfl | rfl | rfl | rfl | rfl | rfl | rfl | rfl | rfl | rfl | rfl
              · exact hdeps ⟨0, .phase⟩ (by simp) rfl
              · exact hdeps ⟨1, .phase⟩ (by simp) rfl
              · exact hdeps ⟨2, .phase⟩ (by simp) rfl
              · exact hdeps ⟨3, .phase⟩ (by simp) rfl
              · exact hdeps ⟨4, .phase⟩ (by simp) rfl
              · exact hdeps ⟨5, .phase⟩ (by simp) rfl
              · exact hdeps ⟨6, .phase⟩ (by simp) rfl
              · exact hdeps ⟨7, .phase⟩ (by simp) rfl
              · exact hdeps ⟨8, .phase⟩ (by simp) rfl
              · exact hdeps ⟨9, .phase⟩ (by simp) rfl
              · exact hdeps ⟨10, .phase⟩ (by simp) rfl
              · exact hdeps ⟨11, .phase⟩ (by simp) rfl
              · exact hdeps ⟨12, .phase⟩ (by simp) rfl
              · exact hdeps ⟨13, .phase⟩ (by simp) rfl
              · exact hdeps ⟨14, .phase⟩ (by simp) rfl
            simp [also, this]
      · intro done2 val wR hdone hJ
        rcases hJ with h | h
        · rw [hdone 15 (by simp)] at h; cases h.1
        have hfin := h.2
        rw [hFIN] at hfin
        obtain ⟨R2, L2, hR4, hL4, hM4⟩ := hfin
        have HR4 := Lib.hid hR4
        have HL4 := Lib.hid hL4
        have HM4 := Lib.hid hM4
        clear hdone h hFIN hR4 hL4 hM4
        show Exit.inBlock _ _ _ (putAll _ _ [val 0, val 1, val 2, val 3, val 4, val 5, val 6, val 7, val 8, val 9, val 10, val 11, val 12, val 13, val 14, val 15]) wR
        simp only [putAll, Act.put]
        go_simp
        go_wp2_with fail
        refine ⟨⟨done_ ++ [(ku, encMem m)], left', R2, L2, HR4.out, HL4.out, HM4.out⟩, ?_⟩
        rw [HR4.out.left_eq, HR1.out.left_eq]
        have := HP.out.length_eq
        simp at this; omega

end Toc
