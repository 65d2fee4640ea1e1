/-
  Value: The walk of jsonval's parser over a value that is no bracket; what is deferred.
  Value2: The walk of jsonval's parser over a bracket that is one too many.
  Value3: Behind what is deferred: the parser's depth is as it was.
  Made: What has been read between brackets is a value: lists, objects.
  Get: The search for a key in a value that has been made.
-/
import Derived.Test.YtblbdgepocfngaaGreatDoorW7
import Derived.Defers
import Derived.StillTailTactics
import Derived.Test.YtblbdgepocfngaaGreatDoorW6
namespace Toc
open Go Go.RowKit Go.Proofs

theorem Stands.from_ {C : PC} {w wA w' : World} {j d : Nat} (s : Stands C wA w' j d) (h : Only [C.pb] w wA) : Stands C w w' j d := ⟨s.at_, h.trans s.only, s.pos⟩
theorem ValOf.from_ {C : PC} {w wA w' : World} {d : Nat} {o : Option (JV × Bytes)} {e : Ending} (s : ValOf C wA d o e w') (h : Only [C.pb] w wA) : ValOf C w d o e w' := by
  cases o with
  | none => exact Fails.before h s
  | some p =>
    obtain ⟨j, q, h1, h2, h3, h4⟩ := s
    exact ⟨j, q, h1, h2.from_ h, h3, h4.mono h.size⟩

set_option maxRecDepth 100000 in
theorem deeper_any (C : PC) (w : World) (b1 : Nat) (e : Nat) (c : Array Value) (T : TypeId) (hb : w.cell? ⟨b1, 0, none⟩ = some (ptrV C.pb)) (hp : w.heap[C.pb]? = some (.cells c T (0, 0))) (h2 : c[2]? = some (.int .i64 ((e : Int) + 1))) (he : e ≤ 10) (u : FrameMode) :
    CallsD Tryz.prog 136 #[ptrV b1] u w fun x u' w' => u' = u ∧ x = .returned (.tuple #[]) ∧ w' = w.setCell ⟨C.pb, 2, none⟩ (.int .i64 e) := by
  have c2 := blk_cell hp 2
  rw [h2] at c2
  have z2 := blk_free hp 2
  go_enter_d Tryz.func136, Tryz.ntmps136
  go_wp2_with fail
  go_end0
  exact ⟨rfl, rfl⟩

theorem leaves_none {P : Program} {fn : Func} {tmps : Array Value} {R : Ending → World → Prop} {v : Value} {w : World} (hr : (results fn tmps).run P w = .ok v w) (h : R (.returned v) w) : Leaves P fn tmps R [] .returning w := ⟨v, hr, h⟩

set_option maxRecDepth 100000 in
set_option maxHeartbeats 4000000 in
theorem value_letter (C : PC) (w : World) (i d : Nat) (hp : PW C w i d) {c : UInt8} {l : Bytes} (hd0 : C.bs.drop i = c :: l) (hc : letterB c = true) {o : Option (JV × Bytes)} (ho : wordL (c :: l) = o) :
    Calls Tryz.prog 58 #[ptrV C.pb] w fun e w' => ValOf C w d o e w' := by
  have hlt := drop_lt hd0
  have hcell := hp.bytes.cell i hlt
  rw [drop_get hd0] at hcell
  have hsm := hp.small
  have i0' : (0 : Int) ≤ i := by omega
  have i1 : (i : Int) < C.bs.length := by omega
  obtain ⟨c0, c1, c2, z1, z2⟩ := hp.cells
  have c0' := fun o => cell_alloc c0 o
  have c1' := fun o => cell_alloc c1 o
  have hcell' := fun o => cell_alloc hcell o
  have HP := Lib.hid hp
  have HD := Lib.hid hd0
  have HL := Lib.hid (fun wx => letter_any c wx)
  rw [hc] at HL
  have HOA := Lib.hid (fun o n => ((Only.refl [C.pb] w).alloc o).drewN n)
  have HPA := Lib.hid (fun o n => hp.only (HOA.out o n) (blk_old hp.at_ o) hp.pos hp.dep)
  clear hp hd0 c0 c1 c2 z1 z2 hcell
  go_enter_defers Tryz.func58, Tryz.ntmps58
  go_wp2_with fail
  go_quiet (fail)
  go_wp2_with fail
  refine (HL.out _).mono ?_
  rintro e w1 ⟨rfl, rfl⟩
  go_wp2_with fail
  cases o with
  | none =>
    refine (word_no C _ i d (HPA.out _ _) HD.out hc (by rw [HD.out]; exact ho)).mono ?_
    rintro e w2 ⟨f, p, c, b, h1, rfl, h3, h4, h5⟩
    go_wp2
    exact ValOf.from_ (d := d) (o := none) ⟨f, p, c, b, h1, rfl, h3, h4, h5⟩ (HOA.out _ _)
  | some p =>
    refine (word_ok C _ i d (HPA.out _ _) HD.out hc (by rw [HD.out]; exact ho)).mono ?_
    rintro e w2 ⟨j, q, rfl, h2, h3, h4⟩
    go_wp2
    exact leaves_none (results_tmp rfl _ _ _) (ValOf.from_ (o := some p) ⟨j, q, rfl, h2, h3, h4⟩ (HOA.out _ _))

set_option maxRecDepth 100000 in
set_option maxHeartbeats 4000000 in
theorem value_number (C : PC) (w : World) (i d : Nat) (hp : PW C w i d) {c : UInt8} {l : Bytes} (hd0 : C.bs.drop i = c :: l) (hl : letterB c = false) (hc : (digitB c || c == 45) = true) {o : Option (JV × Bytes)} (ho : numberL (c :: l) = o) :
    Calls Tryz.prog 58 #[ptrV C.pb] w fun e w' => ValOf C w d o e w' := by
  have hlt := drop_lt hd0
  have hcell := hp.bytes.cell i hlt
  rw [drop_get hd0] at hcell
  have hsm := hp.small
  have i0' : (0 : Int) ≤ i := by omega
  have i1 : (i : Int) < C.bs.length := by omega
  obtain ⟨c0, c1, c2, z1, z2⟩ := hp.cells
  have c0' := fun o => cell_alloc c0 o
  have c1' := fun o => cell_alloc c1 o
  have hcell' := fun o => cell_alloc hcell o
  have HP := Lib.hid hp
  have HD := Lib.hid hd0
  have HL := Lib.hid (fun wx => letter_any c wx)
  rw [hl] at HL
  have HG := Lib.hid (fun wx => digit_any c wx)
  have hnum : numericB c = true := by
    unfold numericB
    simp only [Bool.or_eq_true] at hc ⊢
    rcases hc with h | h
    · simp [h]
    · simp [h]
  have hmin : digitB c = true ∨ (digitB c = false ∧ ((c.toNat : Int) == 45) = true) := by
    cases h : digitB c
    · refine .inr ⟨rfl, ?_⟩
      rw [h] at hc
      have e : c = 45 := by simpa using hc
      subst e; rfl
    · exact .inl rfl
  have HOA := Lib.hid (fun o n => ((Only.refl [C.pb] w).alloc o).drewN n)
  have HPA := Lib.hid (fun o n => hp.only (HOA.out o n) (blk_old hp.at_ o) hp.pos hp.dep)
  clear hp hd0 c0 c1 c2 z1 z2 hcell
  go_enter_defers Tryz.func58, Tryz.ntmps58
  go_wp2_with fail
  go_quiet (fail)
  go_wp2_with fail
  refine (HL.out _).mono ?_
  rintro e w1 ⟨rfl, rfl⟩
  rcases hmin with hmin | ⟨hmin, h45⟩
  all_goals
    rw [hmin] at HG
    go_wp2_with fail
    refine (HG.out _).mono ?_
    rintro e w1 ⟨rfl, rfl⟩
    go_wp2_with fail
    cases o with
    | none =>
      refine (number_no C _ i d (HPA.out _ _) HD.out hnum (by rw [HD.out]; exact ho)).mono ?_
      rintro e w2 ⟨f, p, c, b, h1, rfl, h3, h4, h5⟩
      go_wp2
      exact ValOf.from_ (d := d) (o := none) ⟨f, p, c, b, h1, rfl, h3, h4, h5⟩ (HOA.out _ _)
    | some p =>
      refine (number_ok C _ i d (HPA.out _ _) HD.out hnum (by rw [HD.out]; exact ho)).mono ?_
      rintro e w2 ⟨j, q, rfl, h2, h3, h4⟩
      go_wp2
      exact leaves_none (results_tmp rfl _ _ _) (ValOf.from_ (o := some p) ⟨j, q, rfl, h2, h3, h4⟩ (HOA.out _ _))

set_option maxRecDepth 100000 in
set_option maxHeartbeats 400000 in
theorem value_text (C : PC) (w : World) (i d : Nat) (hp : PW C w i d) {c : UInt8} {l : Bytes} (hd0 : C.bs.drop i = c :: l) (hl : letterB c = false) (hdg : digitB c = false) (h34 : c = 34) {o : Option (JV × Bytes)} (ho : (textL l).map (fun p => (JV.text p.1, p.2)) = o) :
    Calls Tryz.prog 58 #[ptrV C.pb] w fun e w' => ValOf C w d o e w' := by
  have hlt := drop_lt hd0
  have hd1 := drop_next hd0
  have hcell := hp.bytes.cell i hlt
  rw [drop_get hd0] at hcell
  have hsm := hp.small
  have i0' : (0 : Int) ≤ i := by omega
  have i1 : (i : Int) < C.bs.length := by omega
  obtain ⟨c0, c1, c2, z1, z2⟩ := hp.cells
  have c0' := fun o => cell_alloc c0 o
  have c1' := fun o => cell_alloc c1 o
  have hcell' := fun o => cell_alloc hcell o
  have HP := Lib.hid hp
  have HD := Lib.hid hd0
  have h34' : ((c.toNat : Int) == 34) = true := by subst h34; rfl
  have HTX := Lib.hid (fun wA (h : PW C wA i d) oo (hoo : textL l = oo) => text_any C wA i d h hlt (o := oo) (by rw [hd1]; exact hoo))
  have HL := Lib.hid (fun wx => letter_any c wx)
  rw [hl] at HL
  have HG := Lib.hid (fun wx => digit_any c wx)
  have HOA := Lib.hid (fun o n => ((Only.refl [C.pb] w).alloc o).drewN n)
  have HPA := Lib.hid (fun o n => hp.only (HOA.out o n) (blk_old hp.at_ o) hp.pos hp.dep)
  clear hp hd0 c0 c1 c2 z1 z2 hcell
  have h45 : ((c.toNat : Int) == 45) = false := by subst h34; rfl
  rw [hdg] at HG
  clear h34 hdg hl
  go_enter_defers Tryz.func58, Tryz.ntmps58
  go_wp2_with fail
  go_quiet (fail)
  go_wp2_with fail
  refine (HL.out _).mono ?_
  rintro e w1 ⟨rfl, rfl⟩
  go_wp2_with fail
  refine (HG.out _).mono ?_
  rintro e w1 ⟨rfl, rfl⟩
  go_wp2_with fail
  cases htx : textL l with
  | none =>
    rw [htx] at ho
    cases ho
    refine (HTX.out _ (HPA.out _ _) none htx).mono ?_
    rintro e w2 ⟨f, p, c, b, h1, rfl, h3, h4, h5⟩
    go_wp2
    exact ValOf.from_ (d := d) (o := none) ⟨f, p, c, b, h1, rfl, h3, h4, h5⟩ (HOA.out _ _)
  | some p =>
    rw [htx] at ho
    cases ho
    refine (HTX.out _ (HPA.out _ _) (some p) htx).mono ?_
    rintro e w2 ⟨j, rfl, h2, h3⟩
    go_wp2
    exact leaves_none (results_tmp rfl _ _ _) (ValOf.from_ (d := d) (o := some (JV.text p.1, p.2)) ⟨j, w2.heap.size, rfl, h2.more ((Only.refl [] w2).alloc _), h3, Made.one h2.only.size (blk_new w2 _) (fun r h => .text h)⟩ (HOA.out _ _))

set_option maxRecDepth 100000 in
set_option maxHeartbeats 4000000 in
theorem value_other (C : PC) (w : World) (i d : Nat) (hp : PW C w i d) {c : UInt8} {l : Bytes} (hd0 : C.bs.drop i = c :: l) (hl : letterB c = false) (hdg : digitB c = false) (h45 : c ≠ 45) (h34 : c ≠ 34) (h91 : c ≠ 91) (h123 : c ≠ 123) :
    Calls Tryz.prog 58 #[ptrV C.pb] w fun e w' => Fails C w e w' := by
  have hlt := drop_lt hd0
  have hcell := hp.bytes.cell i hlt
  rw [drop_get hd0] at hcell
  have hsm := hp.small
  have i0' : (0 : Int) ≤ i := by omega
  have i1 : (i : Int) < C.bs.length := by omega
  obtain ⟨c0, c1, c2, z1, z2⟩ := hp.cells
  have c0' := fun o => cell_alloc c0 o
  have c1' := fun o => cell_alloc c1 o
  have hcell' := fun o => cell_alloc hcell o
  have HP := Lib.hid hp
  have HD := Lib.hid hd0
  have HL := Lib.hid (fun wx => letter_any c wx)
  rw [hl] at HL
  have HG := Lib.hid (fun wx => digit_any c wx)
  have HOA := Lib.hid (fun o n => ((Only.refl [C.pb] w).alloc o).drewN n)
  have HPA := Lib.hid (fun o n => hp.only (HOA.out o n) (blk_old hp.at_ o) hp.pos hp.dep)
  clear hp hd0 c0 c1 c2 z1 z2 hcell
  have g : ∀ n : Nat, n < 256 → c ≠ UInt8.ofNat n → ((c.toNat : Int) == (n : Int)) = false := fun n hn hc => by
    rw [Bool.eq_false_iff]; exact fun hh => hc ((u8_eq c n hn).1 hh)
  have g1 := g 45 (by omega) h45
  have g2 := g 34 (by omega) h34
  have g3 : ((c.toNat : Int) != 91) = true := by have := g 91 (by omega) h91; simpa [bne] using this
  have g4 : ((c.toNat : Int) != 123) = true := by have := g 123 (by omega) h123; simpa [bne] using this
  clear g
  rw [hdg] at HG
  go_enter_defers Tryz.func58, Tryz.ntmps58
  go_wp2_with fail
  go_quiet (fail)
  go_wp2_with fail
  refine (HL.out _).mono ?_
  rintro e w1 ⟨rfl, rfl⟩
  go_wp2_with fail
  refine (HG.out _).mono ?_
  rintro e w1 ⟨rfl, rfl⟩
  go_wp2_with fail
  have hP := HPA.out (.cells #[ptrV C.pb] 102) nq
  obtain ⟨d0, d1, d2, y1, y2⟩ := hP.cells
  have b0 : ((w.alloc (.cells #[ptrV C.pb] 102)).drewN nq).cell? ⟨w.heap.size, 0, none⟩ = some (ptrV C.pb) := blk_cell (blk_new w _) 0
  have HOB := HOA.out (.cells #[ptrV C.pb] 102) nq
  clear hP HPA HOA
  generalize (w.alloc (.cells #[ptrV C.pb] 102)).drewN nq = wA at *
  go_still_tail 5, (by kernel_rfl)
  change wpList _ _ _ _ _ wA.drew
  go_wp2_with fail
  refine (wrong_any C _ _ _ _).mono ?_
  rintro e w2 ⟨f, p, c, b, h1, rfl, h3, h4, h5⟩
  go_wp2
  exact Fails.before (HOB.trans ((Only.refl _ wA).drewN 1)) ⟨f, p, c, b, h1, rfl, h3, h4, h5⟩

end Toc

namespace Toc
open Go Go.RowKit Go.Proofs

set_option maxRecDepth 100000 in
set_option maxHeartbeats 4000000 in
theorem value_deep (C : PC) (w : World) (i d : Nat) (hp : PW C w i d) {c : UInt8} {l : Bytes} (hd0 : C.bs.drop i = c :: l) (hb : c = 91 ∨ c = 123) (hd : d = 10) :
    Calls Tryz.prog 58 #[ptrV C.pb] w fun e w' => Fails C w e w' := by
  have hlt := drop_lt hd0
  have hcell := hp.bytes.cell i hlt
  rw [drop_get hd0] at hcell
  have hsm := hp.small
  have i0' : (0 : Int) ≤ i := by omega
  have i1 : (i : Int) < C.bs.length := by omega
  obtain ⟨c0, c1, c2, z1, z2⟩ := hp.cells
  have c0' := fun o => cell_alloc c0 o
  have c1' := fun o => cell_alloc c1 o
  have c2' := fun o => cell_alloc c2 o
  have hcell' := fun o => cell_alloc hcell o
  have HP := Lib.hid hp
  have HD := Lib.hid hd0
  have HL := Lib.hid (fun wx => letter_any c wx)
  have HG := Lib.hid (fun wx => digit_any c wx)
  have HOA := Lib.hid (fun o n => ((Only.refl [C.pb] w).alloc o).drewN n)
  have HPA := Lib.hid (fun o n => hp.only (HOA.out o n) (blk_old hp.at_ o) hp.pos hp.dep)
  clear hp hd0 c0 c1 c2 z1 z2 hcell
  have hl : letterB c = false := by rcases hb with rfl | rfl <;> rfl
  have hdg : digitB c = false := by rcases hb with rfl | rfl <;> rfl
  have g1 : ((c.toNat : Int) == 45) = false := by rcases hb with rfl | rfl <;> rfl
  have g2 : ((c.toNat : Int) == 34) = false := by rcases hb with rfl | rfl <;> rfl
  have gg : (((c.toNat : Int) != 91) = false) ∨ (((c.toNat : Int) != 91) = true ∧ ((c.toNat : Int) != 123) = false) := by rcases hb with rfl | rfl; exact .inl rfl; exact .inr ⟨rfl, rfl⟩
  have d10 : ((d : Int) == 10) = true := by subst hd; rfl
  rw [hl] at HL
  rw [hdg] at HG
  clear hb hd hl hdg
  rcases gg with gg | ⟨gg, gg'⟩
  all_goals
    go_enter_defers Tryz.func58, Tryz.ntmps58
    go_wp2_with fail
    go_quiet (fail)
    go_wp2_with fail
    refine (HL.out _).mono ?_
    rintro e w1 ⟨rfl, rfl⟩
    go_wp2_with fail
    refine (HG.out _).mono ?_
    rintro e w1 ⟨rfl, rfl⟩
    go_wp2_with fail
    have hP := HPA.out (.cells #[ptrV C.pb] 102) nq
    obtain ⟨d0, d1, d2, y1, y2⟩ := hP.cells
    have b0 : ((w.alloc (.cells #[ptrV C.pb] 102)).drewN nq).cell? ⟨w.heap.size, 0, none⟩ = some (ptrV C.pb) := blk_cell (blk_new w _) 0
    have HOB := HOA.out (.cells #[ptrV C.pb] 102) nq
    clear hP HPA HOA
    generalize (w.alloc (.cells #[ptrV C.pb] 102)).drewN nq = wA at *
    go_still_tail 5, (by kernel_rfl)
    change wpList _ _ _ _ _ wA.drew
    go_wp2_with fail
    refine (wrong_any C _ _ _ _).mono ?_
    rintro e w2 ⟨f, p, c, b, h1, rfl, h3, h4, h5⟩
    go_wp2
    exact Fails.before (HOB.trans ((Only.refl _ wA).drewN 1)) ⟨f, p, c, b, h1, rfl, h3, h4, h5⟩

end Toc

namespace Toc
open Go Go.RowKit Go.Proofs

theorem Only.around {pb : Nat} {w wA w2 : World} {x y v2 : Value} {c : Array Value} {T : TypeId} (h1 : Only [pb] w wA) (hA : wA.heap[pb]? = some (.cells c T (0, 0))) (h2v : c[2]? = some v2)
    (h3 : Only [pb] ((wA.setCell ⟨pb, 1, none⟩ x).setCell ⟨pb, 2, none⟩ y) w2) : Only [pb] w (w2.setCell ⟨pb, 2, none⟩ v2) := by
  refine h1.trans ⟨h3.os, h3.tape, h3.output, by have := h3.size; simpa [World.setCell] using this, fun k hk hn => ?_, fun b c0 T0 fr hb => ?_⟩
  · have hk' : k ≠ pb := by simpa using hn
    rw [Below.heap_setCell _ _ _ _ (by simpa using hk'), h3.block k (by simpa [World.setCell] using hk) hn, Below.heap_setCell _ _ _ _ (by simpa using hk'), Below.heap_setCell _ _ _ _ (by simpa using hk')]
  · by_cases hbp : b = pb
    · subst hbp
      rw [hA] at hb
      cases hb
      have e1 := blk_set (v := y) (blk_set (v := x) hA 1) 2
      obtain ⟨c2, h4, h5, h6⟩ := h3.deep _ _ _ _ e1
      refine ⟨_, blk_set (v := v2) h4 2, by simpa using h5, fun k hk => ?_⟩
      simp only [Array.size_setIfInBounds] at h5
      have hsz := (Array.getElem?_eq_some_iff.1 h2v).1
      by_cases h2 : k = 2
      · subst h2
        rw [h2v, Array.getElem?_setIfInBounds_self_of_lt (by omega)]
      · rw [Array.getElem?_setIfInBounds_ne (by omega), h6 k hk, Array.getElem?_setIfInBounds_ne (by omega), Array.getElem?_setIfInBounds_ne (by omega)]
    · have e1 : ((wA.setCell ⟨pb, 1, none⟩ x).setCell ⟨pb, 2, none⟩ y).heap[b]? = some (.cells c0 T0 fr) := by
        rw [Below.heap_setCell _ _ _ _ (by simpa using hbp), Below.heap_setCell _ _ _ _ (by simpa using hbp)]; exact hb
      obtain ⟨c2, h4, h5⟩ := h3.deep _ _ _ _ e1
      exact ⟨c2, (Below.heap_setCell _ _ _ _ (by simpa using hbp)).trans h4, h5⟩

end Toc

namespace Toc
open Go Go.RowKit Go.Proofs

/-- A slice that owns its row, as one that is only read from now on. -/
theorem row_of_own {w : World} {base : Nat} {e : TypeId} {s : Nat} {sv : Value} {n : Nat} {xs : List Value} (h : w.ownsRow base e s sv n xs) :
    ∃ r : Ro, r.from base ∧ Has r w ∧ RowR r sv n xs := by
  rcases h.2 with ⟨h1, h0⟩ | ⟨g, cap, cur, h1, h2, h3, h4, _, h6, h7⟩
  · subst h0
    have hx : xs = [] := by have := h.1; simpa using this
    exact ⟨Ro.none, Ro.from_none _, Has.none _, .inl ⟨rfl, hx, h1⟩⟩
  · refine ⟨Ro.one g (.cells cur e (0, 0)), Ro.from_one h2 _, Has.one h3, .inr ⟨g, 0, cap, cur, e, (0, 0), h1, h4, Ro.one_self _ _, fun k hk => ?_⟩⟩
    have hk' : k < n * s := by rw [← h.1]; exact hk
    have e1 : (cur.toList.take (n * s))[k]? = xs[k]? := by rw [h7]
    rw [List.getElem?_take_of_lt hk', Array.getElem?_toList, List.getElem?_eq_getElem hk] at e1
    rw [Nat.zero_add]; exact e1

theorem Made.of {lo : Nat} {w : World} {q : Nat} {v : JV} {o : Obj} {r r2 : Ro} (hq : lo ≤ q) (ho : w.heap[q]? = some o) (h1 : r.from lo) (h2 : Has r w) (h3 : r2.from lo) (h4 : Has r2 w)
    (h : ∀ R : Ro, R q = some o → r.le R → r2.le R → IsV R q v) : Made lo w q v := by
  have hh := (Has.one ho).or (h2.or h4)
  exact ⟨_, Ro.from_or (Ro.from_one hq o) (Ro.from_or h1 h3), hh, h _ (Ro.le_left _ _ _ _ (Ro.one_self q o)) (Ro.le_trans (Ro.le_left r r2) (Ro.le_right (Has.one ho) (h2.or h4))) (Ro.le_trans (Ro.le_right h2 h4) (Ro.le_right (Has.one ho) (h2.or h4)))⟩

theorem list_made {C : PC} {base b1 q b4 k lo : Nat} {xs : List JV} {w : World} (h : ListInv C base b1 q b4 k xs w) (hq : lo ≤ q) (hb : lo ≤ base) : Made lo w q (.list xs) := by
  obtain ⟨sv, qs, r, h1, h2, h3, h4, h5, _, h7⟩ := h.row
  obtain ⟨r2, g1, g2, g3⟩ := row_of_own h2
  refine Made.of hq h1 (Ro.from_mono h4 hb) h5 (Ro.from_mono g1 hb) g2 (fun R e1 e2 e3 => ?_)
  refine .list e1 (by rw [h.len]; exact g3.mono e3) (by rw [h3, h.len]) (fun i hi hi' => (h7 i hi hi').mono e2)

theorem obj_made {C : PC} {base b1 q b4 k lo : Nat} {ms : List (Bytes × JV)} {w : World} (h : MemInv C base b1 q b4 k ms w) (hq : lo ≤ q) (hb : lo ≤ base) : Made lo w q (.obj ms) := by
  obtain ⟨sv, qs, r, h1, h2, h3, h4, h5, _, h7⟩ := h.row
  obtain ⟨r2, g1, g2, g3⟩ := row_of_own h2
  refine Made.of hq h1 (Ro.from_mono h4 hb) h5 (Ro.from_mono g1 hb) g2 (fun R e1 e2 e3 => ?_)
  exact .obj e1 (by rw [h.len]; exact g3.mono e3) (by rw [h3, h.len]) (fun i hi hi' => (h7 i _ _ (List.getElem?_eq_getElem hi') (List.getElem?_eq_getElem hi)).mono e2)

/-- Behind a bracket: the depth is as it was. -/
theorem around_ok {C : PC} {w wA w2 : World} {x y : Value} {d i i' j : Nat} (h1 : Only [C.pb] w wA) (hA : wA.heap[C.pb]? = some (pObj C i d)) (_ : x = .int .i64 i') (_ : y = .int .i64 ((d + 1 : Nat) : Int))
    (h3 : Stands C ((wA.setCell ⟨C.pb, 1, none⟩ x).setCell ⟨C.pb, 2, none⟩ y) w2 j (d + 1)) : Stands C w (w2.setCell ⟨C.pb, 2, none⟩ (.int .i64 d)) j d :=
  ⟨pObj_dep h3.at_ d, Only.around h1 hA rfl h3.only, h3.pos⟩
theorem around_no {C : PC} {w wA w2 : World} {x y : Value} {d i : Nat} {e : Ending} (hpb : C.pb < w.heap.size) (h1 : Only [C.pb] w wA) (hA : wA.heap[C.pb]? = some (pObj C i d))
    (h3 : Fails C ((wA.setCell ⟨C.pb, 1, none⟩ x).setCell ⟨C.pb, 2, none⟩ y) e w2) : Fails C w e (w2.setCell ⟨C.pb, 2, none⟩ (.int .i64 d)) := by
  obtain ⟨f, p, c, b, g1, g2, g3, g4, g5⟩ := h3
  have hs := h1.size
  have hs2 : ((wA.setCell ⟨C.pb, 1, none⟩ x).setCell ⟨C.pb, 2, none⟩ y).heap.size = wA.heap.size := by simp [World.setCell]
  refine ⟨f, p, c, b, g1, g2, ?_, by omega, Only.around h1 hA rfl g5⟩
  rw [Below.heap_setCell _ _ _ _ (by show b ≠ C.pb; omega)]; exact g3

end Toc

namespace Toc
open Go Go.RowKit Go.Proofs

set_option maxHeartbeats 1000000 in
theorem memberCmp2_any (a b : ByteArray) (pv : Value) (w : World) :
    Calls Tryz.prog 147 #[.agg #[.string a, pv], .string b] w fun e w' => e = .returned (.int .i64 (Lib.compareBytes a.data.toList b.data.toList)) ∧ Below w.heap.size w w' := by
  go_enter Tryz.func147, Tryz.ntmps147
  go_wp2_with fail
  refine (Tryz.strings_Compare a b _).mono ?_
  rintro e w1 ⟨rfl, rfl⟩
  go_wp2_with fail
  go_ret
  exact ⟨rfl, (Below.refl _ w).alloc (Nat.le_refl _) _⟩

/-- Members in a row that is read. -/
theorem row_form {r : Ro} {w : World} {a : Option Addr} {c n : Nat} {xs : List Value} (hh : Has r w) (h : RowR r (.slice a n c) n xs) (hn : 0 < n) :
    ∃ g off arr, (∃ T fr, w.heap[g]? = some (.cells arr T fr)) ∧ a = some ⟨g, off, none⟩ ∧ ∀ (k : Nat) v, xs[k]? = some v → w.cell? ⟨g, off + k, none⟩ = some v := by
  rcases h with ⟨h0, _⟩ | ⟨g, off, cap, arr, T, fr, h1, _, h2, h3⟩
  · omega
  · cases h1
    refine ⟨g, off, arr, ⟨T, fr, hh _ _ h2⟩, rfl, fun k v hk => ?_⟩
    obtain ⟨h4, rfl⟩ := List.getElem?_eq_some_iff.1 hk
    rw [blk_cell (hh _ _ h2)]; exact h3 k h4

set_option maxRecDepth 100000 in
set_option maxHeartbeats 4000000 in
theorem search_ro (w : World) (r : Ro) (hh : Has r w) (sv : Value) (n : Nat) (ms : List (Bytes × JV)) (qs : List Nat) (key : ByteArray) (hn : n ≤ 1048576) (hown : RowR r sv n (memC ms qs)) (hml : ms.length = n) (hql : qs.length = n) (hr : Rising ms) :
    Calls Tryz.prog 146 #[sv, .string key, .func (.func 147) #[] #[]] w fun e w' =>
      e = .returned (.tuple #[.int .i64 (keyPlace ms key.data.toList : Nat), .bool (keyAt ms (keyPlace ms key.data.toList) key.data.toList)]) ∧ Below w.heap.size w w' := by
  have HR := Lib.hid hr
  have HH := Lib.hid hh
  have HW := Lib.hid hown
  obtain ⟨a, c, rfl, hnc⟩ : ∃ a c, sv = .slice a n c ∧ n ≤ c := by
    rcases hown with ⟨h0, _, h⟩ | ⟨g, off, cap, arr, T, fr, h, hc, _⟩
    · exact ⟨none, 0, by rw [h, h0], by omega⟩
    · exact ⟨_, cap, h, hc⟩
  clear hown hr hh
  go_enter Tryz.func146, Tryz.ntmps146
  go_wp2
  go_loopw [9, 10] (fun s9 s10 wr => ∃ lo hi : Nat, s9 = .int .i64 lo ∧ s10 = .int .i64 hi ∧ lo ≤ hi ∧ hi ≤ n ∧ Below w.heap.size w wr ∧ (∀ t x, ms[t]? = some x → t < lo → Lib.compareBytes x.1 key.data.toList = -1) ∧ (∀ t x, ms[t]? = some x → hi ≤ t → Lib.compareBytes x.1 key.data.toList ≠ -1)) (fun s9 s10 _ => (RowKit.intOf s10 - RowKit.intOf s9).toNat)
  case atStart => exact ⟨0, n, rfl, rfl, by omega, by omega, Below.refl _ _, fun t x _ h => by omega, fun t x h h' => by have := (List.getElem?_eq_some_iff.1 h).1; omega⟩
  case round =>
    obtain ⟨lo, hi, rfl, rfl, hlh, hin, hb, hlo, hhi⟩ := hrel
    have HB := Lib.hid hb
    have HLO := Lib.hid hlo
    have HHI := Lib.hid hhi
    clear hb hlo hhi
    by_cases hlt : lo < hi
    · obtain ⟨g, off, cur, h2, hsv, h6⟩ := row_form HH.out HW.out (by omega)
      cases hsv
      have hm2 : (lo + hi) / 2 < n := by omega
      obtain ⟨m, hm⟩ : ∃ m, ms[(lo + hi) / 2]? = some m := ⟨_, List.getElem?_eq_getElem (by omega)⟩
      obtain ⟨q, hq⟩ : ∃ q, qs[(lo + hi) / 2]? = some q := ⟨_, List.getElem?_eq_getElem (by omega)⟩
      obtain ⟨e1, e2⟩ := memC_get ms qs _ m q hm hq
      have hc1 : wr.cell? ⟨g, off + (lo + hi) / 2 * 2, none⟩ = some (.string (mkS m.1)) := by
        rw [HB.out.cell (p := ⟨g, off + (lo + hi) / 2 * 2, none⟩) (cell_block_lt (h6 _ _ e1))]; exact h6 _ _ e1
      have hc2 : wr.cell? ⟨g, off + (lo + hi) / 2 * 2 + 1, none⟩ = some (ptrV q) := by
        rw [HB.out.cell (p := ⟨g, off + (lo + hi) / 2 * 2 + 1, none⟩) (cell_block_lt (h6 _ _ e2))]; exact h6 _ _ e2
      have hcmp := memberCmp2_any (mkS m.1) key (ptrV q) wr
      rw [list_mkS] at hcmp
      have HM := Lib.hid hm
      have i1 : ((lo : Int) + hi) / 2 < n := by omega
      obtain ⟨z, hz⟩ : ∃ z, Lib.compareBytes m.1 key.data.toList = z := ⟨_, rfl⟩
      rw [hz] at hcmp
      have HC := Lib.hid hcmp
      have HZ := Lib.hid hz
      clear hm hq e1 e2 h2 h6 hcmp hz
      by_cases hneg : z < 0
      · go_wp2_with fail
        refine HC.out.mono ?_
        rintro e w1 ⟨rfl, hb1⟩
        have HB1 := Lib.hid (below_trans HB.out hb1)
        clear hb1
        go_wp2_with fail
        go_roundw
        case rel =>
          refine ⟨(lo + hi) / 2 + 1, hi, by go_num, rfl, by omega, hin, HB1.out, fun t x hx htl => ?_, HHI.out⟩
          have hz1 : Lib.compareBytes m.1 key.data.toList = -1 := by
            rcases cb_vals m.1 key.data.toList with h | h | h
            · exact h
            · rw [HZ.out] at h; omega
            · rw [HZ.out] at h; omega
          rcases Nat.lt_or_ge t ((lo + hi) / 2) with h | h
          · exact cb_trans _ _ _ (HR.out _ _ _ _ hx HM.out h) hz1
          · have e : t = (lo + hi) / 2 := by omega
            subst e
            have hmx := HM.out
            rw [hx] at hmx
            rw [Option.some.inj hmx]; exact hz1
        case measure => simp [RowKit.intOf]; omega
      · have hneg' : 0 ≤ z := by omega
        go_wp2_with fail
        refine HC.out.mono ?_
        rintro e w1 ⟨rfl, hb1⟩
        have HB1 := Lib.hid (below_trans HB.out hb1)
        clear hb1
        go_wp2_with fail
        go_roundw
        case rel =>
          refine ⟨lo, (lo + hi) / 2, rfl, by go_num, by omega, by omega, HB1.out, HLO.out, fun t x hx htl hcc => ?_⟩
          rcases Nat.lt_or_ge ((lo + hi) / 2) t with h | h
          · have := cb_trans _ _ _ (HR.out _ _ _ _ HM.out hx h) hcc
            rw [HZ.out] at this; omega
          · have e : t = (lo + hi) / 2 := by omega
            subst e
            have hmx := HM.out
            rw [hx] at hmx
            rw [Option.some.inj hmx, HZ.out] at hcc; omega
        case measure => simp [RowKit.intOf]; omega
    · obtain rfl : lo = hi := by omega
      have hkp : keyPlace ms key.data.toList = lo := by
        unfold keyPlace
        refine takeWhile_len _ ms lo (by omega) (fun t h htl => ?_) (fun h => ?_)
        · have := HLO.out t _ (List.getElem?_eq_getElem h) htl
          rw [this]; rfl
        · have := HHI.out lo _ (List.getElem?_eq_getElem h) (Nat.le_refl _)
          simpa using this
      have HK := Lib.hid hkp
      clear hkp
      by_cases hln : lo < n
      · obtain ⟨g, off, cur, h2, hsv, h6⟩ := row_form HH.out HW.out (by omega)
        cases hsv
        obtain ⟨m, hm⟩ : ∃ m, ms[lo]? = some m := ⟨_, List.getElem?_eq_getElem (by omega)⟩
        obtain ⟨q, hq⟩ : ∃ q, qs[lo]? = some q := ⟨_, List.getElem?_eq_getElem (by omega)⟩
        obtain ⟨e1, e2⟩ := memC_get ms qs _ m q hm hq
        have hc1 : wr.cell? ⟨g, off + lo * 2, none⟩ = some (.string (mkS m.1)) := by
          rw [HB.out.cell (p := ⟨g, off + lo * 2, none⟩) (cell_block_lt (h6 _ _ e1))]; exact h6 _ _ e1
        have hc2 : wr.cell? ⟨g, off + lo * 2 + 1, none⟩ = some (ptrV q) := by
          rw [HB.out.cell (p := ⟨g, off + lo * 2 + 1, none⟩) (cell_block_lt (h6 _ _ e2))]; exact h6 _ _ e2
        have hcmp := memberCmp2_any (mkS m.1) key (ptrV q) wr
        rw [list_mkS] at hcmp
        have HM := Lib.hid hm
        have i1 : (lo : Int) < n := by omega
        obtain ⟨z, hz⟩ : ∃ z, Lib.compareBytes m.1 key.data.toList = z := ⟨_, rfl⟩
        rw [hz] at hcmp
        have HC := Lib.hid hcmp
        have HZ := Lib.hid hz
        clear hm hq e1 e2 h2 h6 hcmp hz
        go_wp2_with fail
        refine HC.out.mono ?_
        rintro e w1 ⟨rfl, hb1⟩
        have HB1 := Lib.hid (below_trans HB.out hb1)
        clear hb1
        go_wp2_with fail
        go_ret2
        refine ⟨?_, HB1.out⟩
        rw [HK.out]
        have hka : keyAt ms lo key.data.toList = (z == 0) := by
          unfold keyAt
          rw [HM.out, Bool.eq_iff_iff]
          simp only [beq_iff_eq]
          rw [← HZ.out]
          exact ⟨fun h => by rw [h]; exact cb_self _, fun h => cb_eq _ _ h⟩
        rw [hka]
        rfl
      · have i1 : (n : Int) ≤ lo := by omega
        go_wp2_with fail
        go_ret2
        refine ⟨?_, HB.out⟩
        rw [HK.out]
        have hka : keyAt ms lo key.data.toList = false := by
          unfold keyAt
          rw [List.getElem?_eq_none (by omega)]
        rw [hka]
        rfl


end Toc
