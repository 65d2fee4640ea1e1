/-
  Value4: The walk of jsonval's parser over a list.
  Value5: The walk of jsonval's parser over an object; over any value.
  ParseA: jsonval.Parse: the walk; what is deferred there takes the fault of a parser that gave up.
-/
import Derived.Test.YtblbdgepocfngaaGreatDoorW8
import Derived.Recover
namespace Toc
open Go Go.RowKit Go.Proofs

/-- The world as it is at a bracket: the parser's place and depth one further. -/
abbrev deeperW (C : PC) (w : World) (i d : Nat) : World := (w.setCell ⟨C.pb, 1, none⟩ (.int .i64 ((i : Int) + 1))).setCell ⟨C.pb, 2, none⟩ (.int .i64 ((d : Int) + 1))

theorem deeper_pw {C : PC} {w : World} {i d : Nat} (h : PW C w i d) (hd : d < 10) (hi : i < C.bs.length) : PW C (deeperW C w i d) (i + 1) (d + 1) := by
  have h1 : (deeperW C w i d).heap[C.pb]? = some (pObj C (i + 1) (d + 1)) := pObj_dep (pObj_at h.at_ (i + 1)) (d + 1)
  refine ⟨h1, ?_, h.ne, h.room, h.small, by omega, by omega, ?_, h.top⟩
  · obtain ⟨arr, T, fr, hb, hc⟩ := h.bytes
    refine ⟨arr, T, fr, ?_, hc⟩
    rw [blk_set_other h.ne, blk_set_other h.ne]; exact hb
  · exact h.glob.belowTop (((Below.refl _ _).setCell (by have := h.top; simp; omega) _).setCell (by have := h.top; simp; omega) _)

/-- Nothing has been read yet. -/
theorem list_start {C : PC} {w : World} {i d : Nat} {b1 : Nat} (_h : PW C w i d) (hb0 : w.cell? ⟨b1, 0, none⟩ = some (ptrV C.pb)) (hb1 : C.pb < b1) (hs : w.heap.size = b1 + 1) :
    ListInv C (b1 + 3) b1 (b1 + 1) (b1 + 2) 0 [] (((deeperW C w i d).alloc (vObj 4 false 0 emptyS nilS nilS)).alloc (.cells #[ptrV (b1 + 1)] 29)) := by
  have e1 : (deeperW C w i d).heap.size = b1 + 1 := by simp [World.setCell, hs]
  refine ⟨rfl, by simp [World.setCell, hs], ?_, ?_, nilS, [], Ro.none, ?_, ⟨rfl, .inl ⟨rfl, rfl⟩⟩, rfl, Ro.from_none _, Has.none _, (fun g hg => by cases hg), (fun i h _ => by simp at h)⟩
  · refine cell_alloc (cell_alloc ?_ _) _
    rw [cell_set_other _ (by show b1 ≠ C.pb; omega), cell_set_other _ (by show b1 ≠ C.pb; omega)]; exact hb0
  · have := blk_new ((deeperW C w i d).alloc (vObj 4 false 0 emptyS nilS nilS)) (.cells #[ptrV (b1 + 1)] 29)
    rw [show ((deeperW C w i d).alloc (vObj 4 false 0 emptyS nilS nilS)).heap.size = b1 + 2 by simp [hs, World.setCell]] at this
    exact blk_cell this 0
  · have := blk_new (deeperW C w i d) (vObj 4 false 0 emptyS nilS nilS)
    rw [e1] at this
    exact blk_old this _
theorem mem_start {C : PC} {w : World} {i d : Nat} {b1 : Nat} (_h : PW C w i d) (hb0 : w.cell? ⟨b1, 0, none⟩ = some (ptrV C.pb)) (hb1 : C.pb < b1) (hs : w.heap.size = b1 + 1) :
    MemInv C (b1 + 3) b1 (b1 + 1) (b1 + 2) 0 [] (((deeperW C w i d).alloc (vObj 5 false 0 emptyS nilS nilS)).alloc (.cells #[ptrV (b1 + 1)] 29)) := by
  have e1 : (deeperW C w i d).heap.size = b1 + 1 := by simp [World.setCell, hs]
  refine ⟨rfl, by simp [World.setCell, hs], ?_, ?_, (fun a b x y hx => by simp at hx), nilS, [], Ro.none, ?_, ⟨rfl, .inl ⟨rfl, rfl⟩⟩, rfl, Ro.from_none _, Has.none _, (fun g hg => by cases hg), (fun i m qx h _ => by simp at h)⟩
  · refine cell_alloc (cell_alloc ?_ _) _
    rw [cell_set_other _ (by show b1 ≠ C.pb; omega), cell_set_other _ (by show b1 ≠ C.pb; omega)]; exact hb0
  · have := blk_new ((deeperW C w i d).alloc (vObj 5 false 0 emptyS nilS nilS)) (.cells #[ptrV (b1 + 1)] 29)
    rw [show ((deeperW C w i d).alloc (vObj 5 false 0 emptyS nilS nilS)).heap.size = b1 + 2 by simp [hs, World.setCell]] at this
    exact blk_cell this 0
  · have := blk_new (deeperW C w i d) (vObj 5 false 0 emptyS nilS nilS)
    rw [e1] at this
    exact blk_old this _
theorem deeper_stands {C : PC} {w : World} {i d : Nat} (h : PW C w i d) (hi : i < C.bs.length) (o1 o2 : Obj) : Stands C (deeperW C w i d) (((deeperW C w i d).alloc o1).alloc o2) (i + 1) (d + 1) := by
  have h1 : (deeperW C w i d).heap[C.pb]? = some (pObj C (i + 1) (d + 1)) := pObj_dep (pObj_at h.at_ (i + 1)) (d + 1)
  exact ⟨blk_old (blk_old h1 _) _, ((Only.refl _ _).alloc _).alloc _, by omega⟩

/-- Of a call's world and the deferred closure: what it reads. -/
theorem deferred_box {C : PC} {w w2 : World} {i d b1 : Nat} (h : PW C w i d) (hb0 : w.cell? ⟨b1, 0, none⟩ = some (ptrV C.pb)) (hb1 : C.pb < b1) (h3 : Only [C.pb] (deeperW C w i d) w2) :
    w2.cell? ⟨b1, 0, none⟩ = some (ptrV C.pb) ∧ ∃ c : Array Value, w2.heap[C.pb]? = some (.cells c 104 (0, 0)) ∧ c[2]? = some (.int .i64 ((d : Int) + 1)) := by
  have h1 : (deeperW C w i d).heap[C.pb]? = some (pObj C (i + 1) (d + 1)) := pObj_dep (pObj_at h.at_ (i + 1)) (d + 1)
  refine ⟨h3.cell ?_ (by simp; omega), ?_⟩
  · rw [cell_set_other _ (by show b1 ≠ C.pb; omega), cell_set_other _ (by show b1 ≠ C.pb; omega)]; exact hb0
  · obtain ⟨c, g1, _, g3⟩ := h3.deep _ _ _ _ h1
    exact ⟨c, g1, by rw [g3 2 (by omega)]; rfl⟩

set_option maxRecDepth 100000 in
set_option maxHeartbeats 4000000 in
theorem value_list (C : PC) (w : World) (i d : Nat) (hp : PW C w i d) {l : Bytes} (hd0 : C.bs.drop i = 91 :: l) (hd : d < 10) (one : Bytes → Option (JV × Bytes))
    (IH : ∀ w i, PW C w i (d + 1) → i < C.bs.length → Calls Tryz.prog 58 #[ptrV C.pb] w fun e w' => ValOf C w (d + 1) (one (C.bs.drop i)) e w')
    {o : Option (JV × Bytes)} (ho : (rowTop (itemL one) 93 [] l).map (fun p => (JV.list p.1, p.2)) = o) :
    Calls Tryz.prog 58 #[ptrV C.pb] w fun e w' => ValOf C w d o e w' := by
  have hlt := drop_lt hd0
  have hcell := hp.bytes.cell i hlt
  rw [drop_get hd0] at hcell
  have hd1 := drop_next hd0
  have hsm := hp.small
  have hpb := blk_lt hp.at_
  have i0' : (0 : Int) ≤ i := by omega
  have i1 : (i : Int) < C.bs.length := by omega
  obtain ⟨c0, c1, c2, z1, z2⟩ := hp.cells
  have c0' := fun o => cell_alloc c0 o
  have c1' := fun o => cell_alloc c1 o
  have c2' := fun o => cell_alloc c2 o
  have hcell' := fun o => cell_alloc hcell o
  have HP := Lib.hid hp
  have HD := Lib.hid hd0
  have HD1 := Lib.hid hd1
  have HIH := Lib.hid IH
  have HL := Lib.hid (fun wx => letter_any 91 wx)
  have HG := Lib.hid (fun wx => digit_any 91 wx)
  have hl : letterB 91 = false := rfl
  have hdg : digitB 91 = false := rfl
  rw [hl] at HL
  rw [hdg] at HG
  have HOA := Lib.hid (fun o n => ((Only.refl [C.pb] w).alloc o).drewN n)
  have HPA := Lib.hid (fun o n => hp.only (HOA.out o n) (blk_old hp.at_ o) hp.pos hp.dep)
  have d10 : ((d : Int) == 10) = false := by rw [beq_eq_false_iff_ne]; omega
  have hmf : ∀ (fn : Fn) (first cap : Array Value) (w : World), (Instr.makeFunc fn first cap).run Tryz.prog w = .ok (.func fn first cap) w := fun _ _ _ _ => rfl
  obtain ⟨ro, hro⟩ : ∃ ro, rowTop (itemL one) 93 [] l = ro := ⟨_, rfl⟩
  rw [hro] at ho
  have HRO := Lib.hid hro
  have HO := Lib.hid ho
  clear hp hd0 hd1 IH ho c0 c1 c2 z1 z2 hcell hro
  go_enter_defers Tryz.func58, Tryz.ntmps58
  go_wp2_with fail
  go_quiet (fail)
  go_wp2_with fail
  refine (HL.out _).mono ?_
  rintro e w1 ⟨rfl, rfl⟩
  go_wp2_with fail
  refine (HG.out _).mono ?_
  rintro e w1 ⟨rfl, rfl⟩
  have hPA := HPA.out (.cells #[ptrV C.pb] 102) nq
  obtain ⟨d0, d1, d2, y1, y2⟩ := hPA.cells
  have b0 : ((w.alloc (.cells #[ptrV C.pb] 102)).drewN nq).cell? ⟨w.heap.size, 0, none⟩ = some (ptrV C.pb) := blk_cell (blk_new w _) 0
  have HOB := Lib.hid (HOA.out (.cells #[ptrV C.pb] 102) nq)
  have HPB := Lib.hid hPA
  have hsz : ((w.alloc (.cells #[ptrV C.pb] 102)).drewN nq).heap.size = w.heap.size + 1 := by simp [World.drewN]
  clear hPA HPA HOA
  generalize (w.alloc (.cells #[ptrV C.pb] 102)).drewN nq = wA at *
  have HSZ := Lib.hid hsz
  have hpl : Places C (deeperW C wA i d) w.heap.size (w.heap.size + 1) (w.heap.size + 2) (w.heap.size + 3) :=
    ⟨by simp [World.setCell, hsz]; omega, by simp [World.setCell, hsz], hpb, by omega, by omega, by omega⟩
  have HPL := Lib.hid hpl
  have hpw := deeper_pw HPB.out hd hlt
  have HPW := Lib.hid hpw
  have hrow := row_any C (deeperW C wA i d) (i + 1) (d + 1) (d + 1) hpw (by omega) (itemL one) (fun k xs w' => ListInv C (w.heap.size + 3) w.heap.size (w.heap.size + 1) (w.heap.size + 2) k xs w') (fun k s w w' h ho => h.only HPL.out ho)
    138 #[ptrV (w.heap.size + 2), ptrV w.heap.size] (fun _ => by simp [go_sem])
    (fun k s w' i' hk hin hst hi => item_any C (deeperW C wA i d) (i + 1) (d + 1) (d + 1) HPW.out (by omega) one HIH.out _ _ _ _ HPL.out k s w' i' hk hin hst hi rfl)
    93 (by decide) [] _ (i + 1) (list_start HPB.out b0 hpb HSZ.out) (deeper_stands HPB.out hlt _ _) (o := ro) (by rw [HD1.out]; exact HRO.out)
  have HROW := Lib.hid hrow
  clear hpl hpw hrow
  go_wp2_with fail
  refine HROW.out.mono ?_
  intro e w2 hr
  cases ro with
  | none =>
    have hon := HO.out
    cases hon
    have hr' := hr
    obtain ⟨f, p, c, b, h1, rfl, h3, h4, h5⟩ := hr
    obtain ⟨g1, c', g2, g3⟩ := deferred_box HPB.out b0 hpb h5
    have HF := Lib.hid (around_no hpb HOB.out HPB.out.at_ hr')
    have HD2 := Lib.hid (fun u => deeper_any C w2 w.heap.size d c' _ g1 g2 g3 (by omega) u)
    clear hr' h1 h3 h4 h5 g1 g2 g3
    go_wp2_with fail
    refine leaves_cons (f := 136) (args := #[ptrV w.heap.size]) (by simp) (by simp [go_sem]) ?_
    refine (HD2.out _).mono ?_
    rintro e u w3 ⟨rfl, rfl, rfl⟩
    exact HF.out
  | some p =>
    have hon := HO.out
    cases hon
    obtain ⟨j, rfl, h2, h3, m, h4, h5⟩ := hr
    obtain ⟨g1, c', g2, g3⟩ := deferred_box HPB.out b0 hpb h2.only
    have hptr := h5.ptr
    have HS := Lib.hid (around_ok HOB.out HPB.out.at_ rfl rfl h2)
    have HJ := Lib.hid h3
    have HM := Lib.hid ((list_made (lo := w.heap.size) h5 (by omega) (by omega)).only ((Only.refl [C.pb] w2).drewN 0) (by simpa using hpb))
    have HM2 := Lib.hid (list_made (lo := w.heap.size) h5 (by omega) (by omega))
    have HD2 := Lib.hid (fun u => deeper_any C w2 w.heap.size d c' _ g1 g2 g3 (by omega) u)
    clear h2 h3 h4 h5 g1 g2 g3 HM
    go_wp2_with fail
    refine leaves_cons (f := 136) (args := #[ptrV w.heap.size]) (by simp) (by simp [go_sem]) ?_
    refine (HD2.out _).mono ?_
    rintro e u w3 ⟨rfl, rfl, rfl⟩
    refine leaves_none (results_tmp rfl _ _ _) ?_
    obtain ⟨r, r1, r2, r3⟩ := HM2.out
    exact ⟨j, _, rfl, HS.out, HJ.out, r, r1, r2.setCell (Ro.from_ne r1 hpb) _, r3⟩

end Toc

namespace Toc
open Go Go.RowKit Go.Proofs

set_option maxRecDepth 100000 in
set_option maxHeartbeats 4000000 in
theorem value_obj (C : PC) (w : World) (i d : Nat) (hp : PW C w i d) {l : Bytes} (hd0 : C.bs.drop i = 123 :: l) (hd : d < 10) (one : Bytes → Option (JV × Bytes))
    (IH : ∀ w i, PW C w i (d + 1) → i < C.bs.length → Calls Tryz.prog 58 #[ptrV C.pb] w fun e w' => ValOf C w (d + 1) (one (C.bs.drop i)) e w')
    {o : Option (JV × Bytes)} (ho : (rowTop (memberL one) 125 [] l).map (fun p => (JV.obj p.1, p.2)) = o) :
    Calls Tryz.prog 58 #[ptrV C.pb] w fun e w' => ValOf C w d o e w' := by
  have hlt := drop_lt hd0
  have hcell := hp.bytes.cell i hlt
  rw [drop_get hd0] at hcell
  have hd1 := drop_next hd0
  have hsm := hp.small
  have hpb := blk_lt hp.at_
  have i0' : (0 : Int) ≤ i := by omega
  have i1 : (i : Int) < C.bs.length := by omega
  obtain ⟨c0, c1, c2, z1, z2⟩ := hp.cells
  have c0' := fun o => cell_alloc c0 o
  have c1' := fun o => cell_alloc c1 o
  have c2' := fun o => cell_alloc c2 o
  have hcell' := fun o => cell_alloc hcell o
  have HP := Lib.hid hp
  have HD := Lib.hid hd0
  have HD1 := Lib.hid hd1
  have HIH := Lib.hid IH
  have HL := Lib.hid (fun wx => letter_any 123 wx)
  have HG := Lib.hid (fun wx => digit_any 123 wx)
  have hl : letterB 123 = false := rfl
  have hdg : digitB 123 = false := rfl
  rw [hl] at HL
  rw [hdg] at HG
  have HOA := Lib.hid (fun o n => ((Only.refl [C.pb] w).alloc o).drewN n)
  have HPA := Lib.hid (fun o n => hp.only (HOA.out o n) (blk_old hp.at_ o) hp.pos hp.dep)
  have d10 : ((d : Int) == 10) = false := by rw [beq_eq_false_iff_ne]; omega
  have hmf : ∀ (fn : Fn) (first cap : Array Value) (w : World), (Instr.makeFunc fn first cap).run Tryz.prog w = .ok (.func fn first cap) w := fun _ _ _ _ => rfl
  obtain ⟨ro, hro⟩ : ∃ ro, rowTop (memberL one) 125 [] l = ro := ⟨_, rfl⟩
  rw [hro] at ho
  have HRO := Lib.hid hro
  have HO := Lib.hid ho
  clear hp hd0 hd1 IH ho c0 c1 c2 z1 z2 hcell hro
  go_enter_defers Tryz.func58, Tryz.ntmps58
  go_wp2_with fail
  go_quiet (fail)
  go_wp2_with fail
  refine (HL.out _).mono ?_
  rintro e w1 ⟨rfl, rfl⟩
  go_wp2_with fail
  refine (HG.out _).mono ?_
  rintro e w1 ⟨rfl, rfl⟩
  have hPA := HPA.out (.cells #[ptrV C.pb] 102) nq
  obtain ⟨d0, d1, d2, y1, y2⟩ := hPA.cells
  have b0 : ((w.alloc (.cells #[ptrV C.pb] 102)).drewN nq).cell? ⟨w.heap.size, 0, none⟩ = some (ptrV C.pb) := blk_cell (blk_new w _) 0
  have HOB := Lib.hid (HOA.out (.cells #[ptrV C.pb] 102) nq)
  have HPB := Lib.hid hPA
  have hsz : ((w.alloc (.cells #[ptrV C.pb] 102)).drewN nq).heap.size = w.heap.size + 1 := by simp [World.drewN]
  clear hPA HPA HOA
  generalize (w.alloc (.cells #[ptrV C.pb] 102)).drewN nq = wA at *
  have HSZ := Lib.hid hsz
  have hpl : Places C (deeperW C wA i d) w.heap.size (w.heap.size + 1) (w.heap.size + 2) (w.heap.size + 3) :=
    ⟨by simp [World.setCell, hsz]; omega, by simp [World.setCell, hsz], hpb, by omega, by omega, by omega⟩
  have HPL := Lib.hid hpl
  have hpw := deeper_pw HPB.out hd hlt
  have HPW := Lib.hid hpw
  have hrow := row_any C (deeperW C wA i d) (i + 1) (d + 1) (d + 1) hpw (by omega) (memberL one) (fun k xs w' => MemInv C (w.heap.size + 3) w.heap.size (w.heap.size + 1) (w.heap.size + 2) k xs w') (fun k s w w' h ho => h.only HPL.out ho)
    139 #[ptrV w.heap.size, ptrV (w.heap.size + 2)] (fun _ => by simp [go_sem])
    (fun k s w' i' hk hin hst hi => memberClosure_any C (deeperW C wA i d) (i + 1) (d + 1) (d + 1) HPW.out (by omega) one HIH.out _ _ _ _ HPL.out k s w' i' hk hin hst hi rfl)
    125 (by decide) [] _ (i + 1) (mem_start HPB.out b0 hpb HSZ.out) (deeper_stands HPB.out hlt _ _) (o := ro) (by rw [HD1.out]; exact HRO.out)
  have HROW := Lib.hid hrow
  clear hpl hpw hrow
  go_wp2_with fail
  refine HROW.out.mono ?_
  intro e w2 hr
  cases ro with
  | none =>
    have hon := HO.out
    cases hon
    have hr' := hr
    obtain ⟨f, p, c, b, h1, rfl, h3, h4, h5⟩ := hr
    obtain ⟨g1, c', g2, g3⟩ := deferred_box HPB.out b0 hpb h5
    have HF := Lib.hid (around_no hpb HOB.out HPB.out.at_ hr')
    have HD2 := Lib.hid (fun u => deeper_any C w2 w.heap.size d c' _ g1 g2 g3 (by omega) u)
    clear hr' h1 h3 h4 h5 g1 g2 g3
    go_wp2_with fail
    refine leaves_cons (f := 136) (args := #[ptrV w.heap.size]) (by simp) (by simp [go_sem]) ?_
    refine (HD2.out _).mono ?_
    rintro e u w3 ⟨rfl, rfl, rfl⟩
    exact HF.out
  | some p =>
    have hon := HO.out
    cases hon
    obtain ⟨j, rfl, h2, h3, m, h4, h5⟩ := hr
    obtain ⟨g1, c', g2, g3⟩ := deferred_box HPB.out b0 hpb h2.only
    have hptr := h5.ptr
    have HS := Lib.hid (around_ok HOB.out HPB.out.at_ rfl rfl h2)
    have HJ := Lib.hid h3
    have HM := Lib.hid ((obj_made (lo := w.heap.size) h5 (by omega) (by omega)).only ((Only.refl [C.pb] w2).drewN 0) (by simpa using hpb))
    have HM2 := Lib.hid (obj_made (lo := w.heap.size) h5 (by omega) (by omega))
    have HD2 := Lib.hid (fun u => deeper_any C w2 w.heap.size d c' _ g1 g2 g3 (by omega) u)
    clear h2 h3 h4 h5 g1 g2 g3 HM
    go_wp2_with fail
    refine leaves_cons (f := 136) (args := #[ptrV w.heap.size]) (by simp) (by simp [go_sem]) ?_
    refine (HD2.out _).mono ?_
    rintro e u w3 ⟨rfl, rfl, rfl⟩
    refine leaves_none (results_tmp rfl _ _ _) ?_
    obtain ⟨r, r1, r2, r3⟩ := HM2.out
    exact ⟨j, _, rfl, HS.out, HJ.out, r, r1, r2.setCell (Ro.from_ne r1 hpb) _, r3⟩

theorem plainL_letter {c : UInt8} {l : Bytes} (h : letterB c = true) : plainL c l = wordL (c :: l) := by unfold plainL; rw [if_pos h]
theorem plainL_number {c : UInt8} {l : Bytes} (h : letterB c = false) (h2 : (digitB c || c == 45) = true) : plainL c l = numberL (c :: l) := by unfold plainL; rw [if_neg (by simp [h]), if_pos h2]
theorem plainL_text {c : UInt8} {l : Bytes} (h : c = 34) : plainL c l = (textL l).map fun p => (JV.text p.1, p.2) := by subst h; rfl
theorem plainL_no {c : UInt8} {l : Bytes} (h : letterB c = false) (h2 : (digitB c || c == 45) = false) (h3 : c ≠ 34) : plainL c l = none := by
  unfold plainL; rw [if_neg (by simp [h]), if_neg (by simp [h2]), if_neg (by simpa using h3)]

theorem value_plain (C : PC) (w : World) (i d : Nat) (hp : PW C w i d) {c : UInt8} {l : Bytes} (hd0 : C.bs.drop i = c :: l) (h1 : c ≠ 91) (h2 : c ≠ 123) {o : Option (JV × Bytes)} (ho : plainL c l = o) :
    Calls Tryz.prog 58 #[ptrV C.pb] w fun e w' => ValOf C w d o e w' := by
  cases hl : letterB c with
  | true => exact value_letter C w i d hp hd0 hl (by rw [← plainL_letter hl]; exact ho)
  | false =>
    cases hn : (digitB c || c == 45) with
    | true => exact value_number C w i d hp hd0 hl hn (by rw [← plainL_number hl hn]; exact ho)
    | false =>
      have hdg : digitB c = false := by cases h : digitB c; rfl; rw [h] at hn; cases hn
      by_cases h34 : c = 34
      · exact value_text C w i d hp hd0 hl hdg h34 (by rw [← plainL_text h34]; exact ho)
      · have h45 : c ≠ 45 := by intro e; subst e; cases hn
        rw [plainL_no hl hn h34] at ho
        subst ho
        exact value_other C w i d hp hd0 hl hdg h45 h34 h1 h2

/-- A value, at a byte that is no blank. -/
theorem value_any (C : PC) : ∀ (k d : Nat), k + d = 10 → ∀ (w : World) (i : Nat), PW C w i d → i < C.bs.length →
    Calls Tryz.prog 58 #[ptrV C.pb] w fun e w' => ValOf C w d (valueL k (C.bs.drop i)) e w'
  | 0, d, hk, w, i, hp, hi => by
    obtain ⟨c, l, hd0⟩ : ∃ c l, C.bs.drop i = c :: l := ⟨_, _, List.drop_eq_getElem_cons hi⟩
    rw [hd0, valueL]
    by_cases hb : c = 91 ∨ c = 123
    · rw [if_pos (by rcases hb with rfl | rfl <;> rfl)]
      exact value_deep C w i d hp hd0 hb (by omega)
    · rw [if_neg (by simpa using hb)]
      exact value_plain C w i d hp hd0 (fun e => hb (.inl e)) (fun e => hb (.inr e)) rfl
  | k + 1, d, hk, w, i, hp, hi => by
    obtain ⟨c, l, hd0⟩ : ∃ c l, C.bs.drop i = c :: l := ⟨_, _, List.drop_eq_getElem_cons hi⟩
    have ih := value_any C k (d + 1) (by omega)
    rw [hd0, valueL]
    by_cases h1 : c = 91
    · subst h1
      exact value_list C w i d hp hd0 (by omega) (valueL k) ih rfl
    · rw [if_neg (by simpa using h1)]
      by_cases h2 : c = 123
      · subst h2
        exact value_obj C w i d hp hd0 (by omega) (valueL k) ih rfl
      · rw [if_neg (by simpa using h2)]
        exact value_plain C w i d hp hd0 h1 h2 rfl

end Toc

namespace Toc
open Go Go.RowKit Go.Proofs

theorem fault_yes (v : Value) (w : World) : (Instr.typeAssert (.iface 99 v) 20 99 true).run Tryz.prog w = .ok (.tuple #[v, .bool true]) w := by kernel_rfl

set_option maxRecDepth 100000 in
theorem catch_panicking (b0 b1 : Nat) (hb : b0 ≠ b1) (v0 v1 pv : Value) (w : World) (h0 : w.cell? ⟨b0, 0, none⟩ = some v0) (h1 : w.cell? ⟨b1, 0, none⟩ = some v1) (z0 : w.frozen? ⟨b0, 0, none⟩ = false) (z1 : w.frozen? ⟨b1, 0, none⟩ = false) :
    CallsD Tryz.prog 56 #[ptrV b0, ptrV b1] (.panicking [{ v := .iface 99 pv, recovered := false }]) w fun e u' w' =>
      e = .returned (.tuple #[]) ∧ u' = .panicking [{ v := .iface 99 pv, recovered := true }] ∧ w' = (w.setCell ⟨b0, 0, none⟩ (.pointer none)).setCell ⟨b1, 0, none⟩ (.iface 99 pv) := by
  refine callsD_of_wpS Tryz.func56 rfl fun c₀ cs hu => ?_
  apply wpS_seq
  apply wpS_region
  simp [wpOpsS, go_sem, recoverD, hu, Tryz.ntmps56, Exit.thenS]
  refine wpS_of_wp ?_
  have ea : (#[ptrV b0, ptrV b1] ++ (Array.replicate 11 undef).setIfInBounds 3 (Value.iface 99 pv) : Array Value) = #[ptrV b0, ptrV b1, undef, undef, undef, .iface 99 pv, undef, undef, undef, undef, undef, undef, undef] := by simp [Array.replicate]
  rw [ea]
  have hf := fault_yes pv
  go_wp2_with fail
  simp [bodyPostS, results, Tryz.results56]

set_option maxRecDepth 100000 in
theorem catch_idle (b0 b1 : Nat) (w : World) :
    CallsD Tryz.prog 56 #[ptrV b0, ptrV b1] .returning w fun e u' w' => e = .returned (.tuple #[]) ∧ u' = .returning ∧ w' = w := by
  refine callsD_of_wpS Tryz.func56 rfl fun c₀ cs hu => ?_
  apply wpS_seq
  apply wpS_region
  simp [wpOpsS, go_sem, recoverD, hu, Tryz.ntmps56, Exit.thenS]
  refine wpS_of_wp ?_
  have ea : (#[ptrV b0, ptrV b1] ++ (Array.replicate 11 undef).setIfInBounds 3 Value.nilIface : Array Value) = #[ptrV b0, ptrV b1, undef, undef, undef, .nilIface, undef, undef, undef, undef, undef, undef, undef] := by simp [Array.replicate]
  rw [ea]
  go_wp2_with fail
  cases c₀
  simp_all [bodyPostS, results, Tryz.results56]

/-- What Parse gives. -/
def ParseRes (w : World) (o : Option JV) (e : Ending) (w' : World) : Prop :=
  Below w.heap.size w w' ∧
  match o with
  | some v => ∃ q, e = .returned (.tuple #[ptrV q, .nilIface]) ∧ Made w.heap.size w' q v
  | none => ∃ b, e = .returned (.tuple #[.pointer none, .iface 99 (ptrV b)])

set_option maxRecDepth 100000 in
theorem parse_results {w : World} {b0 b1 : Nat} {x y : Value} {T0 T1 : TypeId} (h0 : w.heap[b0]? = some (.cells #[x] T0 (0, 0))) (h1 : w.heap[b1]? = some (.cells #[y] T1 (0, 0))) (tmps : Array Value) (t2 : tmps.getD 2 undef = ptrV b0) (t3 : tmps.getD 3 undef = ptrV b1) :
    (results Tryz.f20 tmps).run Tryz.prog w = .ok (.tuple #[x, y]) w := by
  have c0 : w.cell? ⟨b0, 0, none⟩ = some x := blk_cell h0 0
  have c1 : w.cell? ⟨b1, 0, none⟩ = some y := blk_cell h1 0
  have t2 : tmps[2]?.getD undef = ptrV b0 := by simpa using t2
  have t3 : tmps[3]?.getD undef = ptrV b1 := by simpa using t3
  simp [results, Tryz.results20, go_sem, t2, t3, c0, c1, Result.andThen]

theorem PW.setOther {C : PC} {w : World} {i d b : Nat} (h : PW C w i d) (h1 : b ≠ C.pb) (h2 : b ≠ C.bb) (h3 : gTop ≤ b) (o : Nat) (v : Value) : PW C (w.setCell ⟨b, o, none⟩ v) i d := by
  refine ⟨(blk_set_other (Ne.symm h1) _ _).trans h.at_, ?_, h.ne, h.room, h.small, h.pos, h.dep, h.glob.belowTop ((Below.refl _ _).setCell h3 _), h.top⟩
  obtain ⟨arr, T, fr, g1, g2⟩ := h.bytes
  exact ⟨arr, T, fr, (blk_set_other (Ne.symm h2) _ _).trans g1, g2⟩

/-- A parser gave up: what is deferred takes its fault. -/
theorem parse_caught {w w2 : World} {x y : Value} {b : Nat} {T0 T1 : TypeId} (hs : Below w.heap.size w w2) (h0 : w2.heap[w.heap.size]? = some (.cells #[x] T0 (0, 0))) (h1 : w2.heap[w.heap.size + 1]? = some (.cells #[y] T1 (0, 0)))
    (tmps : Array Value) (t2 : tmps.getD 2 undef = ptrV w.heap.size) (t3 : tmps.getD 3 undef = ptrV (w.heap.size + 1)) :
    Leaves Tryz.prog Tryz.f20 tmps (fun e w' => ParseRes w none e w') [{ target := .fn (.func 56) #[ptrV w.heap.size, ptrV (w.heap.size + 1)], args := #[] }] (.panicking [{ v := .iface 99 (ptrV b), recovered := false }]) w2 := by
  refine leaves_cons (f := 56) (args := #[ptrV w.heap.size, ptrV (w.heap.size + 1)]) (by simp) (by simp [go_sem]) ?_
  refine (catch_panicking w.heap.size (w.heap.size + 1) (by omega) x y _ w2 (blk_cell h0 0) (blk_cell h1 0) (blk_free h0 0) (blk_free h1 0)).mono ?_
  rintro e u w3 ⟨rfl, rfl, rfl⟩
  have g0 : ((w2.setCell ⟨w.heap.size, 0, none⟩ (.pointer none)).setCell ⟨w.heap.size + 1, 0, none⟩ (.iface 99 (ptrV b))).heap[w.heap.size]? = some (.cells #[.pointer none] T0 (0, 0)) := by
    rw [blk_set_other (by omega), blk_set h0 0]; rfl
  have g1 : ((w2.setCell ⟨w.heap.size, 0, none⟩ (.pointer none)).setCell ⟨w.heap.size + 1, 0, none⟩ (.iface 99 (ptrV b))).heap[w.heap.size + 1]? = some (.cells #[.iface 99 (ptrV b)] T1 (0, 0)) := by
    rw [blk_set (c := #[y]) (T := T1) (fr := (0, 0)) (by rw [blk_set_other (by omega)]; exact h1) 0]; rfl
  refine leaves_none (parse_results g0 g1 tmps t2 t3) ⟨?_, b, rfl⟩
  exact (hs.setCell (by simp) _).setCell (by simp) _

theorem parse_done {w w2 : World} {q : Nat} {v : JV} {T0 T1 : TypeId} (hs : Below w.heap.size w w2) (h0 : w2.heap[w.heap.size]? = some (.cells #[ptrV q] T0 (0, 0))) (h1 : w2.heap[w.heap.size + 1]? = some (.cells #[.nilIface] T1 (0, 0))) (hm : Made w.heap.size w2 q v)
    (tmps : Array Value) (t2 : tmps.getD 2 undef = ptrV w.heap.size) (t3 : tmps.getD 3 undef = ptrV (w.heap.size + 1)) :
    Leaves Tryz.prog Tryz.f20 tmps (fun e w' => ParseRes w (some v) e w') [{ target := .fn (.func 56) #[ptrV w.heap.size, ptrV (w.heap.size + 1)], args := #[] }] .returning w2 := by
  refine leaves_cons (f := 56) (args := #[ptrV w.heap.size, ptrV (w.heap.size + 1)]) (by simp) (by simp [go_sem]) ?_
  refine (catch_idle w.heap.size (w.heap.size + 1) w2).mono ?_
  rintro e u w3 ⟨rfl, rfl, rfl⟩
  exact leaves_none (parse_results h0 h1 tmps t2 t3) ⟨hs, q, rfl, hm⟩

set_option maxRecDepth 100000 in
set_option maxHeartbeats 1000000 in
theorem parse_long (w : World) (bs : Bytes) (a : Option Addr) (cap : Nat) (hl : 4096 < bs.length) :
    Calls Tryz.prog 20 #[.slice a bs.length cap] w fun e w' => ParseRes w none e w' := by
  have hl' : (4096 : Int) < bs.length := by omega
  go_enter_defers Tryz.func20, Tryz.ntmps20
  go_wp2_with fail
  have h1 := blk_new (w.alloc (.cells #[.pointer none] 29)) (.cells #[.iface 99 (ptrV (w.heap.size + 1 + 1))] 31)
  rw [show (w.alloc (.cells #[.pointer none] 29)).heap.size = w.heap.size + 1 by simp] at h1
  refine leaves_none (parse_results (b0 := w.heap.size) (b1 := w.heap.size + 1) (blk_old (blk_old (blk_new w _) _) _) (blk_old h1 _) _ rfl rfl) ⟨?_, _, rfl⟩
  exact (((Below.refl _ w).alloc (Nat.le_refl _) _).alloc (by simp) _).alloc (by simp; omega) _

set_option maxRecDepth 100000 in
set_option maxHeartbeats 4000000 in
theorem parse_short (w : World) (hG : Glob w) (bs : Bytes) (bb off cap : Nat) (hl : bs.length ≤ 4096) (hb : BytesAt w bb off bs) (hc : bs.length ≤ cap) {o : Option JV} (ho : parseL bs = o) :
    Calls Tryz.prog 20 #[.slice (some ⟨bb, off, none⟩) bs.length cap] w fun e w' => ParseRes w o e w' := by
  have hbb : bb < w.heap.size := by obtain ⟨arr, T, fr, h, _⟩ := hb; exact blk_lt h
  have hmf : ∀ (fn : Fn) (first cap : Array Value) (w : World), (Instr.makeFunc fn first cap).run Tryz.prog w = .ok (.func fn first cap) w := fun _ _ _ _ => rfl
  have hW : ∃ wP : World, wP = ((w.alloc (.cells #[.pointer none] 29)).alloc (.cells #[.nilIface] 31)).alloc (pObj ⟨w.heap.size + 2, bb, off, cap, bs⟩ 0 0) := ⟨_, rfl⟩
  obtain ⟨wP, hwP⟩ := hW
  have h0 : wP.heap[w.heap.size]? = some (.cells #[.pointer none] 29 (0, 0)) := by rw [hwP]; exact blk_old (blk_old (blk_new w _) _) _
  have h1 : wP.heap[w.heap.size + 1]? = some (.cells #[.nilIface] 31 (0, 0)) := by rw [hwP]; have := blk_new (w.alloc (.cells #[.pointer none] 29)) (.cells #[.nilIface] 31); exact blk_old (by simpa using this) _
  have h2 : wP.heap[w.heap.size + 2]? = some (pObj ⟨w.heap.size + 2, bb, off, cap, bs⟩ 0 0) := by rw [hwP]; have := blk_new ((w.alloc (.cells #[.pointer none] 29)).alloc (.cells #[.nilIface] 31)) (pObj ⟨w.heap.size + 2, bb, off, cap, bs⟩ 0 0); simpa using this
  have hB : Below w.heap.size w wP := by rw [hwP]; exact (((Below.refl _ w).alloc (Nat.le_refl _) _).alloc (by simp) _).alloc (by simp; omega) _
  have hsz : wP.heap.size = w.heap.size + 3 := by rw [hwP]; simp
  obtain ⟨C, hC⟩ : ∃ C : PC, C = ⟨w.heap.size + 2, bb, off, cap, bs⟩ := ⟨_, rfl⟩
  have hpb : C.pb = w.heap.size + 2 := by rw [hC]
  have hbs : C.bs = bs := by rw [hC]
  have hp : PW C wP 0 0 := by
    rw [hC]
    refine ⟨h2, ?_, by dsimp only; omega, hc, hl, by simp, by omega, hG.below hB, by have := hG.top; dsimp only; omega⟩
    obtain ⟨arr, T, fr, g1, g2⟩ := hb
    exact ⟨arr, T, fr, (hB.block _ hbb).trans g1, g2⟩
  -- what a parser that gave up, and one that did not, leave
  have hno : ∀ (e : Ending) (w2 : World), Fails C wP e w2 → ∃ b : Nat, e = .panicked [{ v := .iface 99 (ptrV b), recovered := false }] ∧ Below w.heap.size w w2 ∧ w2.heap[w.heap.size]? = some (.cells #[.pointer none] 29 (0, 0)) ∧ w2.heap[w.heap.size + 1]? = some (.cells #[.nilIface] 31 (0, 0)) := by
    rintro e w2 ⟨f, p, c, b, g1, g2, g3, g4, g5⟩
    exact ⟨b, g2, hB.trans (g5.below_of (by omega) (by simp; omega)), g5.heap h0 (by simp; omega), g5.heap h1 (by simp; omega)⟩
  have hl' : ¬ (4096 : Int) < bs.length := by omega
  have HNO := Lib.hid hno
  have HBBN := Lib.hid (show C.bb = bb by rw [hC])
  have HG := Lib.hid hG
  have HP := Lib.hid hp
  have HBS := Lib.hid hbs
  have HB := Lib.hid hB
  have HO := Lib.hid ho
  have H0 := Lib.hid h0
  have H1 := Lib.hid h1
  have HWP := Lib.hid hwP
  have HPB := Lib.hid hpb
  have HSZ := Lib.hid hsz
  clear hno hp hbs hB ho h0 h1 h2 hwP hC hpb hsz hb
  go_enter_defers Tryz.func20, Tryz.ntmps20
  go_wp2_with fail
  show Calls _ _ #[ptrV (w.heap.size + 2)] (((w.alloc (.cells #[.pointer none] 29)).alloc (.cells #[.nilIface] 31)).alloc (pObj ⟨w.heap.size + 2, bb, off, cap, bs⟩ 0 0)) _
  rw [← HWP.out, ← HPB.out]
  cases hm : mustL bs with
  | none =>
    have hon : o = none := by rw [← HO.out]; unfold parseL; rw [if_neg (by omega), hm]
    subst hon
    refine (must_no C wP 0 0 HP.out (by rw [List.drop_zero, HBS.out]; exact hm)).mono ?_
    intro e w2 hf
    obtain ⟨b, rfl, g1, g2, g3⟩ := HNO.out e w2 hf
    have G := Lib.hid (And.intro g1 (And.intro g2 g3))
    clear g1 g2 g3 hf
    go_wp2_with fail
    exact parse_caught G.out.1 G.out.2.1 G.out.2.2 _ rfl rfl
  | some r =>
    obtain ⟨c, t, rfl, _⟩ := mustL_some hm
    refine (must_ok C wP 0 0 HP.out (c := c) (t := t) (by rw [List.drop_zero, HBS.out]; exact hm)).mono ?_
    rintro e w2 ⟨j, rfl, hst, hj⟩
    have HST := Lib.hid hst
    have HJ := Lib.hid hj
    have HM := Lib.hid hm
    have hji := drop_lt hj
    clear hst hj hm
    go_wp2_with fail
    have hv := value_any C 10 0 rfl w2 j (HST.out.pw HP.out) hji
    rw [HJ.out] at hv
    refine hv.mono ?_
    intro e w3 hr
    clear hv
    cases hvl : valueL 10 (c :: t) with
    | none =>
      rw [hvl] at hr
      have hon : o = none := by rw [← HO.out]; unfold parseL; rw [if_neg (by omega), HM.out]; dsimp only; rw [hvl]
      subst hon
      obtain ⟨b, rfl, g1, g2, g3⟩ := HNO.out e w3 (Fails.before HST.out.only hr)
      have G := Lib.hid (And.intro g1 (And.intro g2 g3))
      clear g1 g2 g3 hr hvl
      go_wp2_with fail
      exact parse_caught G.out.1 G.out.2.1 G.out.2.2 _ rfl rfl
    | some p =>
      obtain ⟨v, l'⟩ := p
      rw [hvl] at hr
      obtain ⟨j3, q, rfl, hst3, hj3, hm3⟩ := hr
      have hpo : o = if (skipWs l').isEmpty then some v else none := by rw [← HO.out]; unfold parseL; rw [if_neg (by omega), HM.out]; dsimp only; rw [hvl]
      have HPO := Lib.hid hpo
      have HS3 := Lib.hid (HST.out.trans hst3)
      have HJ3 := Lib.hid hj3
      have HM3 := Lib.hid (hm3.mono (Nat.le_trans (by rw [HSZ.out]; omega) HST.out.only.size : w.heap.size + 3 ≤ w2.heap.size))
      have g0 := HS3.out.only.heap H0.out (by rw [HPB.out]; simp)
      have g1 := HS3.out.only.heap H1.out (by rw [HPB.out]; simp)
      have c0 : w3.cell? ⟨w.heap.size, 0, none⟩ = some (.pointer none) := blk_cell g0 0
      have z0 := blk_free g0 0
      have G0 := Lib.hid g0
      have G1 := Lib.hid g1
      have HB3 := Lib.hid (HB.out.trans (HS3.out.only.below_of (by rw [HSZ.out]; omega) (by rw [HPB.out]; simp)))
      have hp3 := (HS3.out.pw HP.out)
      have HP4 := Lib.hid (hp3.setOther (b := w.heap.size) (by rw [HPB.out]; omega) (by rw [HBBN.out]; omega) HG.out.top 0 (ptrV q))
      clear hst3 hj3 hm3 g0 g1 hpo hp3 hvl
      go_wp2_with fail
      refine (blanks_any C _ j3 0 HP4.out).mono ?_
      rintro e w5 ⟨j5, rfl, hst5, hj5⟩
      have hb0 : (w3.setCell ⟨w.heap.size, 0, none⟩ (ptrV q)).heap[w.heap.size]? = some (.cells #[ptrV q] 29 (0, 0)) := by rw [blk_set G0.out 0]; rfl
      have hb1 : (w3.setCell ⟨w.heap.size, 0, none⟩ (ptrV q)).heap[w.heap.size + 1]? = some (.cells #[.nilIface] 31 (0, 0)) := by rw [blk_set_other (by omega)]; exact G1.out
      have k0 := hst5.only.heap hb0 (by rw [HPB.out]; simp)
      have k1 := hst5.only.heap hb1 (by rw [HPB.out]; simp)
      have K0 := Lib.hid k0
      have K1 := Lib.hid k1
      have HB5 := Lib.hid ((HB3.out.setCell (p := ⟨w.heap.size, 0, none⟩) (Nat.le_refl _) (ptrV q)).trans (hst5.only.below_of (by have := HB3.out.size; simpa [World.setCell] using this) (by rw [HPB.out]; simp)))
      have d0 : w5.cell? ⟨w.heap.size, 0, none⟩ = some (ptrV q) := blk_cell k0 0
      have d1 : w5.cell? ⟨w.heap.size + 1, 0, none⟩ = some .nilIface := blk_cell k1 0
      have y0 := blk_free k0 0
      have y1 := blk_free k1 0
      obtain ⟨e0, e1, e2, x1, x2⟩ := (hst5.pw HP4.out).cells
      have HJ5 := Lib.hid hj5
      obtain ⟨r, r1, r2, r3⟩ := HM3.out
      have HM5 : Hid (Made (w.heap.size + 3) w5 q v) := Lib.hid (⟨r, r1, (r2.setCell (Ro.from_ne r1 (by simp)) (ptrV q)).only hst5.only (fun b hb => by rw [HPB.out] at hb; simp at hb; subst hb; exact Ro.from_ne r1 (by omega)), r3⟩ : Made (w.heap.size + 3) w5 q v)
      clear hst5 hb0 hb1 k0 k1 hj5 r1 r2 r3
      by_cases hlt : j5 < C.bs.length
      · have hon : o = none := by
          rw [HPO.out, ← HJ3.out, ← HJ5.out, if_neg]
          rw [List.drop_eq_getElem_cons hlt]; simp [hlt]
        subst hon
        have hdt : decide (j5 < C.bs.length) = true := by simpa using hlt
        go_wp2_with fail
        refine (wrong_any C _ _ _ _).mono ?_
        rintro e w6 ⟨f, p, c, b, h1, rfl, h3, h4, h5⟩
        have M0 := Lib.hid (h5.heap K0.out (by rw [HPB.out]; simp))
        have M1 := Lib.hid (h5.heap K1.out (by rw [HPB.out]; simp))
        have MB := Lib.hid (HB5.out.trans (h5.below_of (by have := HB5.out.size; omega) (by rw [HPB.out]; simp)))
        clear h1 h3 h4 h5
        go_wp2_with fail
        exact parse_caught MB.out M0.out M1.out _ rfl rfl
      · have hon : o = some v := by
          rw [HPO.out, ← HJ3.out, ← HJ5.out, if_pos]
          rw [List.drop_eq_nil_of_le (by omega)]; rfl
        subst hon
        have hdt : decide (j5 < C.bs.length) = false := by simpa using hlt
        go_wp2_with fail
        refine parse_done (q := q) (T0 := 29) (T1 := 31) ((HB5.out.setCell (by simp) _).setCell (by simp) _) ?_ ?_ ?_ _ rfl rfl
        · rw [blk_set_other (by omega), blk_set K0.out 0]; rfl
        · rw [blk_set (c := #[.nilIface]) (T := 31) (fr := (0, 0)) (by rw [blk_set_other (by omega)]; exact K1.out) 0]; rfl
        · obtain ⟨r, r1, r2, r3⟩ := HM5.out
          exact ⟨r, Ro.from_mono r1 (by omega), (r2.setCell (Ro.from_ne r1 (by simp)) _).setCell (Ro.from_ne r1 (by simp)) _, r3⟩

theorem parse_any (w : World) (hG : Glob w) (bs : Bytes) (bb off cap : Nat) (hb : BytesAt w bb off bs) (hc : bs.length ≤ cap) {o : Option JV} (ho : parseL bs = o) :
    Calls Tryz.prog 20 #[.slice (some ⟨bb, off, none⟩) bs.length cap] w fun e w' => ParseRes w o e w' := by
  by_cases hl : bs.length ≤ 4096
  · exact parse_short w hG bs bb off cap hl hb hc ho
  · have hon : o = none := by rw [← ho]; unfold parseL; rw [if_pos (by omega)]
    subst hon
    exact parse_long w bs _ cap (by omega)

end Toc
