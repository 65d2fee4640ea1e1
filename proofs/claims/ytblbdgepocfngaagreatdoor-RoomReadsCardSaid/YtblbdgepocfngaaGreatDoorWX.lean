/-
  Alike: The law's alike: an event of the program's and the document's own, read alike, are alike.
  Event: The law's event: a text read by the program and by the document: both refuse it, or both give the same event.
  LawReads: The walk of the law RoomReads: it returns true.
-/
import Derived.Test.YtblbdgepocfngaaGreatDoorWV
import Derived.Test.YtblbdgepocfngaaGreatDoorWP
import Derived.Test.YtblbdgepocfngaaGreatDoorWU
import Derived.Test.YtblbdgepocfngaaGreatDoorWF
import Derived.Test.YtblbdgepocfngaaGreatDoorWT
import Derived.LaidEqlPtr
namespace Toc
open Go Go.RowKit Go.Proofs

/-- How an event of the document's lies. -/
def REvV (r : Ro) (ge : Nat) (E : Ev) : Prop := ∃ bg, r ge = some (rEvObjE E (ptrV bg)) ∧ IsR r bg E.body
theorem REvV.mono {r r' : Ro} {qe : Nat} {E : Ev} (h : REvV r qe E) (hr : r.le r') : REvV r' qe E := by
  obtain ⟨bq, h1, h2⟩ := h
  exact ⟨bq, hr _ _ h1, h2.mono hr⟩

set_option maxRecDepth 100000 in
set_option maxHeartbeats 4000000 in
theorem alike_any (r r2 : Ro) (w : World) (hG : Glob w) (hh : Has r w) (hh2 : Has r2 w) {qe ge : Nat} {E : Ev} (he : EvV r qe E) (hg : REvV r2 ge E) (hok : JOk E.body) (hlen : (printL E.body).length ≤ 140737488355328) :
    Calls Tryz.prog 74 #[ptrV qe, ptrV ge] w fun e w' => e = .returned (.bool true) ∧ Below w.heap.size w w' := by
  obtain ⟨bq, he1, hv1⟩ := he
  obtain ⟨bg, hg1, hv2⟩ := hg
  obtain ⟨sp, hsp⟩ : ∃ s, mkS (printL E.body) = s := ⟨_, rfl⟩
  have HP := Lib.hid (fun (wx : World) (hb : Below w.heap.size w wx) => vprint_any r wx (hG.below hb) (hh.below hb) hv1 hok hlen hsp)
  have HR := Lib.hid (fun (wx : World) (hb : Below w.heap.size w wx) => rprint_any r2 wx (hh2.below hb) hv2 hok hlen hsp)
  have HS := Lib.hid (show ∀ x, Below w.heap.size w x → x.cell? ⟨qe, 7, none⟩ = some (ptrV bq) ∧ x.cell? ⟨ge, 7, none⟩ = some (ptrV bg) from fun x hx => ⟨blk_cell (hh.below hx _ _ he1) 7, blk_cell (hh2.below hx _ _ hg1) 7⟩)
  obtain ⟨s0, hs0⟩ : ∃ s, mkS E.id = s := ⟨_, rfl⟩
  obtain ⟨s1, hs1⟩ : ∃ s, mkS E.room = s := ⟨_, rfl⟩
  obtain ⟨s2, hs2⟩ : ∃ s, mkS E.sender = s := ⟨_, rfl⟩
  obtain ⟨s3, hs3⟩ : ∃ s, mkS E.type = s := ⟨_, rfl⟩
  obtain ⟨b4, hb4⟩ : ∃ b, E.state = b := ⟨_, rfl⟩
  obtain ⟨s5, hs5⟩ : ∃ s, mkS E.key = s := ⟨_, rfl⟩
  obtain ⟨s6, hs6⟩ : ∃ s, mkS E.redacts = s := ⟨_, rfl⟩
  have c0 : w.cell? ⟨qe, 0, none⟩ = some (.string s0) := by rw [← hs0]; exact blk_cell (hh _ _ he1) 0
  have c1 : w.cell? ⟨qe, 1, none⟩ = some (.string s1) := by rw [← hs1]; exact blk_cell (hh _ _ he1) 1
  have c2 : w.cell? ⟨qe, 2, none⟩ = some (.string s2) := by rw [← hs2]; exact blk_cell (hh _ _ he1) 2
  have c3 : w.cell? ⟨qe, 3, none⟩ = some (.string s3) := by rw [← hs3]; exact blk_cell (hh _ _ he1) 3
  have c4 : w.cell? ⟨qe, 4, none⟩ = some (.bool b4) := by rw [← hb4]; exact blk_cell (hh _ _ he1) 4
  have c5 : w.cell? ⟨qe, 5, none⟩ = some (.string s5) := by rw [← hs5]; exact blk_cell (hh _ _ he1) 5
  have c6 : w.cell? ⟨qe, 6, none⟩ = some (.string s6) := by rw [← hs6]; exact blk_cell (hh _ _ he1) 6
  have d0 : w.cell? ⟨ge, 0, none⟩ = some (.string s0) := by rw [← hs0]; exact blk_cell (hh2 _ _ hg1) 0
  have d1 : w.cell? ⟨ge, 1, none⟩ = some (.string s1) := by rw [← hs1]; exact blk_cell (hh2 _ _ hg1) 1
  have d2 : w.cell? ⟨ge, 2, none⟩ = some (.string s2) := by rw [← hs2]; exact blk_cell (hh2 _ _ hg1) 2
  have d3 : w.cell? ⟨ge, 3, none⟩ = some (.string s3) := by rw [← hs3]; exact blk_cell (hh2 _ _ hg1) 3
  have d4 : w.cell? ⟨ge, 4, none⟩ = some (.bool b4) := by rw [← hb4]; exact blk_cell (hh2 _ _ hg1) 4
  have d5 : w.cell? ⟨ge, 5, none⟩ = some (.string s5) := by rw [← hs5]; exact blk_cell (hh2 _ _ hg1) 5
  have d6 : w.cell? ⟨ge, 6, none⟩ = some (.string s6) := by rw [← hs6]; exact blk_cell (hh2 _ _ hg1) 6
  clear hs0 hs1 hs2 hs3 hb4 hs5 hs6 hh hh2 he1 hg1 hv1 hv2 hG hok hlen hsp
  go_enter Tryz.func74, Tryz.ntmps74
  go_upto_region 1 with fail
  go_cut [5] (fun x5 wy => x5 = .bool true ∧ Below w.heap.size w wy)
  case first =>
    cases b4
    all_goals
      go_wp2_with fail
      go_quiet (fail)
      go_wp2_with fail
      go_meet
      exact ⟨rfl, below_drewN _ _⟩
  case rest =>
    obtain ⟨rfl, hbc⟩ := hcut
    have HB := Lib.hid hbc.drew
    have s0 := HS.out wc.drew HB.out
    clear hbc c0 c1 c2 c3 c4 c5 c6 d0 d1 d2 d3 d4 d5 d6
    go_wp2_with fail
    go_region_held3 (fun x => x.cell? ⟨qe, 7, none⟩ = some (ptrV bq) ∧ x.cell? ⟨ge, 7, none⟩ = some (ptrV bg))
      (first | (with_reducible exact s0) | (with_reducible exact s1) | (with_reducible exact s2))
      (first
        | (go_at_call 31
           refine (HP.out _ HB.out).mono ?_
           rintro e w1 ⟨rfl, hb1⟩
           have HB1 := Lib.hid (below_trans HB.out hb1)
           have s1 := HS.out w1 HB1.out
           clear hb1)
        | (go_at_call 45
           refine (HR.out _ HB1.out).mono ?_
           rintro e w2 ⟨rfl, hb2⟩
           have HB2 := Lib.hid (below_trans HB1.out hb2)
           have s2 := HS.out w2 HB2.out
           clear hb2))
    all_goals
      clear s0 s1 s2
      go_wp2_with fail
      go_ret
      exact ⟨rfl, HB2.out⟩

end Toc

namespace Toc
open Go Go.RowKit Go.Proofs

/-- Parse of a string's bytes. -/
theorem parse_o (w : World) (hG : Glob w) (s : ByteArray) {n : Nat} (hn : s.data.toList.length = n) {o : Option JV} (ho : parseL s.data.toList = o) :
    Calls Tryz.prog 20 #[.slice (some ⟨w.heap.size, 0, none⟩) n (grownCap w s.size 0 5)] (Lib.bytesWorld w 5 s) fun e w' =>
      ∃ pv er r, e = .returned (.tuple #[pv, er]) ∧ r.from w.heap.size ∧ Has r w' ∧ PV r pv o ∧ Below w.heap.size w w' := by
  subst hn
  have hbB := bytes_below w s
  have hp := parse_any (Lib.bytesWorld w 5 s) (hG.below hbB) s.data.toList w.heap.size 0 (grownCap w s.size 0 5) (bytes_at w s) (by rw [← Lib.size_eq]; exact grownCap_ge _ _ _ _) ho
  refine hp.mono ?_
  rintro e w' ⟨hb6, h⟩
  cases o with
  | none =>
    obtain ⟨b, rfl⟩ := h
    exact ⟨_, _, Ro.none, rfl, Ro.from_none _, Has.none _, rfl, below_trans hbB hb6⟩
  | some v =>
    obtain ⟨q, rfl, r, hrf, hrh, hrv⟩ := h
    exact ⟨_, _, r, rfl, Ro.from_mono hrf hbB.size, hrh, ⟨q, rfl, hrv⟩, below_trans hbB hb6⟩
/-- The document's. -/
theorem rparse_o (w : World) (s : ByteArray) {n : Nat} (hn : s.data.toList.length = n) {o : Option JV} (ho : parseL s.data.toList = o) :
    Calls Tryz.prog 72 #[.slice (some ⟨w.heap.size, 0, none⟩) n (grownCap w s.size 0 5)] (Lib.bytesWorld w 5 s) fun e w' =>
      ∃ pa, ∃ a b : Int, ∃ r, e = .returned (.tuple #[.pointer pa, .int .i64 a, .int .i64 b]) ∧ r.from w.heap.size ∧ Has r w' ∧ PR r pa o ∧ Below w.heap.size w w' := by
  subst hn
  have hbB := bytes_below w s
  have hp := rparse_any (Lib.bytesWorld w 5 s) s.data.toList w.heap.size (grownCap w s.size 0 5) (bytes_at w s) ho
  refine hp.mono ?_
  rintro e w' ⟨hb6, h⟩
  cases o with
  | none =>
    obtain ⟨a, b, rfl⟩ := h
    exact ⟨_, a, b, Ro.none, rfl, Ro.from_none _, Has.none _, rfl, below_trans hbB hb6⟩
  | some v =>
    obtain ⟨q, rfl, r, hrf, hrh, hrv⟩ := h
    exact ⟨_, 0, 0, r, rfl, Ro.from_mono hrf hbB.size, hrh, ⟨q, rfl, hrv⟩, below_trans hbB hb6⟩

theorem isO_five (o : Option JV) : isO o 5 = true → ∃ l, o = some (.obj l) := by
  intro h
  cases o with
  | none => cases h
  | some v => cases v <;> first | exact ⟨_, rfl⟩ | cases h
theorem readEv_no {o : Option JV} (h : isO o 5 = false) : readEv o = (90, none) := by
  cases o with
  | none => rfl
  | some v =>
    show readEvJ v = _
    unfold readEvJ
    rw [isO_obj] at h
    rw [if_pos (by
      have : (kindJ v == 5) = false := h
      simpa using this)]
/-- The document's ReadEvent of any value, or none. -/
theorem rreadEvent_o (r : Ro) (w : World) (hh : Has r w) {pa : Option Addr} {o : Option JV} (hp : PR r pa o) (hok : OkO o) :
    Calls Tryz.prog 73 #[.pointer pa] w fun e w' => ReadRetR pa o w e w' := by
  cases h5 : isO o 5 with
  | true =>
    obtain ⟨l, rfl⟩ := isO_five o h5
    obtain ⟨q, rfl, hv⟩ := hp
    exact rreadEvent_obj r w hh hv (hok _ rfl)
  | false =>
    refine (rreadEvent_no r w hh hp h5).mono ?_
    rintro e w' ⟨rfl, rfl⟩
    exact ReadRetR.no (readEv_no h5) (Below.refl _ _) rfl

theorem readEv_some {o : Option JV} {n : Int} {E : Ev} (h : readEv o = (n, some E)) : n = 0 ∧ ∃ l, o = some (.obj l) ∧ E.body = .obj l := by
  cases o with
  | none => cases h
  | some v =>
    have h' : readEvJ v = (n, some E) := h
    unfold readEvJ at h'
    split at h'
    · cases h'
    · rename_i hk
      have hk5 : kindJ v = 5 := by simpa using hk
      repeat' split at h'
      all_goals first | (cases h'; done) | skip
      obtain ⟨h1, h2⟩ := Prod.mk.inj h'
      obtain rfl := Option.some.inj h2
      cases v with
      | obj l => exact ⟨h1.symm, l, rfl, rfl⟩
      | _ => cases hk5

/-- What the law's event gives. -/
def EventRet (o : Option JV) (w : World) (e : Ending) (w' : World) : Prop :=
  Below w.heap.size w w' ∧
  match readEv o with
  | (_, none) => e = .returned (.tuple #[.pointer none, .pointer none, .bool true])
  | (_, some E) => ∃ qe ge r r2, e = .returned (.tuple #[ptrV qe, ptrV ge, .bool true]) ∧ r.from w.heap.size ∧ r2.from w.heap.size ∧ Has r w' ∧ Has r2 w' ∧ EvV r qe E ∧ REvV r2 ge E

theorem eq_same (q : Nat) (w : World) : (binOp .eql 29 (ptrV q) (ptrV q)).run Tryz.prog w = .ok (.bool true) w := by
  obtain ⟨j, hj⟩ : ∃ j, Tryz.prog.info? 117 = some j := Option.isSome_iff_exists.1 (by kernel_rfl)
  exact run_eql_ptr_same w _ Tryz.underlying29 hj

set_option maxRecDepth 100000 in
set_option maxHeartbeats 4000000 in
theorem event_any (w : World) (hG : Glob w) (s : ByteArray) {o : Option JV} (ho : parseL s.data.toList = o) :
    Calls Tryz.prog 28 #[.string s] w fun e w' => EventRet o w e w' := by
  have hok : OkO o := fun v hv => parseL_ok (by rw [ho, hv])
  have hfew : ∀ v, o = some v → (printL v).length ≤ 98304 := fun v hv => parseL_few (by rw [ho, hv])
  obtain ⟨n, hn⟩ : ∃ n, s.data.toList.length = n := ⟨_, rfl⟩
  have hcv : ∀ wx : World, (convert 9 34 (.string s)).run Tryz.prog wx = .ok (.slice (some ⟨wx.heap.size, 0, none⟩) n (grownCap wx s.size 0 5)) (Lib.bytesWorld wx 5 s) := fun wx => by
    rw [← hn]; exact conv_bytes wx s
  have HP := Lib.hid (fun (wx : World) (hb : Below w.heap.size w wx) => parse_o wx (hG.below hb) s hn ho)
  have HRP := Lib.hid (fun (wx : World) => rparse_o wx s hn ho)
  have HG := Lib.hid hG
  have HOK := Lib.hid hok
  have HFEW := Lib.hid hfew
  clear hn ho hok hfew hG
  go_enter Tryz.func28, Tryz.ntmps28
  go_wp2_with fail
  refine (HP.out w (Below.refl _ _)).mono ?_
  rintro e w1 ⟨pv, er, r, rfl, hrf, hrh, hpv, hb1⟩
  have HB1 := Lib.hid hb1
  have HF := Lib.hid hrf
  have HH1 := Lib.hid hrh
  have HV := Lib.hid hpv
  clear hb1 hrf hrh hpv
  go_wp2_with fail
  refine (HRP.out w1).mono ?_
  rintro e w2 ⟨pa, a, b, r2, rfl, hrf, hrh, hpa, hb2⟩
  have HB2 := Lib.hid (below_trans HB1.out hb2)
  have HF2 := Lib.hid (Ro.from_mono hrf HB1.out.size)
  have HH2 := Lib.hid (HH1.out.below hb2)
  have HR2 := Lib.hid hrh
  have HPA := Lib.hid hpa
  clear hb2 hrf hrh hpa hcv
  go_wp2_with fail
  refine (readEvent_o r w2 (HG.out.below HB2.out) HH2.out HV.out HOK.out).mono ?_
  rintro e w3 ⟨hb3, hre⟩
  have HB3 := Lib.hid (below_trans HB2.out hb3)
  have HH3 := Lib.hid (HH2.out.below hb3)
  have HR3 := Lib.hid (HR2.out.below hb3)
  have HS3 := Lib.hid hb3.size
  have HRR := Lib.hid (rreadEvent_o r2 w3 HR3.out HPA.out HOK.out)
  clear hb3
  cases hE : readEv o with
  | mk k oE =>
  rw [hE] at hre
  cases oE with
  | none =>
    dsimp only at hre
    subst hre
    have HE := Lib.hid hE
    clear hE
    go_wp2_with fail
    refine HRR.out.mono ?_
    rintro e w4 ⟨hb4, hrr⟩
    rw [HE.out] at hrr
    dsimp only at hrr
    subst hrr
    have HB4 := Lib.hid (below_trans HB3.out hb4)
    clear hb4
    go_wp2_with fail
    go_ret3
    refine ⟨HB4.out, ?_⟩
    rw [HE.out]
    rfl
  | some E =>
    dsimp only at hre
    obtain ⟨qe, rfl, hqe, hev⟩ := hre
    obtain ⟨rfl, l, rfl, hbody⟩ := readEv_some hE
    obtain ⟨q, rfl, hqv⟩ := HV.out
    obtain ⟨g, rfl, hgv⟩ := HPA.out
    have h1 := Has.one hev
    have HRO := Lib.hid (h1.or HH3.out)
    have HEV := Lib.hid (show EvV ((Ro.one qe (evObjE E (ptrV q))).or r) qe E from ⟨q, Ro.le_left _ _ _ _ (Ro.one_self _ _), by rw [hbody]; exact hqv.mono (Ro.le_right h1 HH3.out)⟩)
    have HFR := Lib.hid (Ro.from_or (Ro.from_one (Nat.le_trans HB2.out.size hqe) (evObjE E (ptrV q))) HF.out)
    have HE := Lib.hid hE
    have HBODY := Lib.hid hbody
    clear hE hev hqe hqv hgv h1 hbody
    go_wp2_with fail
    refine HRR.out.mono ?_
    rintro e w4 ⟨hb4, hrr⟩
    rw [HE.out] at hrr
    dsimp only at hrr
    obtain ⟨ge, rfl, hge, hgev⟩ := hrr
    have HB4 := Lib.hid (below_trans HB3.out hb4)
    have HRO4 := Lib.hid (HRO.out.below hb4)
    have h2 := Has.one hgev
    have hr4 := HR3.out.below hb4
    have HRR4 := Lib.hid (h2.or hr4)
    have HREV := Lib.hid (show REvV ((Ro.one ge (rEvObjE E (.pointer (some ⟨g, 0, none⟩)))).or r2) ge E from ⟨g, Ro.le_left _ _ _ _ (Ro.one_self _ _), by rw [HBODY.out]; exact (show IsR r2 g (.obj l) from by obtain ⟨g', hg', hx⟩ := HPA.out; cases hg'; exact hx).mono (Ro.le_right h2 hr4)⟩)
    have HFR2 := Lib.hid (Ro.from_or (Ro.from_one (Nat.le_trans HB3.out.size hge) (rEvObjE E (.pointer (some ⟨g, 0, none⟩)))) HF2.out)
    have HAL := Lib.hid (alike_any _ _ w4 (HG.out.below HB4.out) HRO4.out HRR4.out HEV.out HREV.out (by rw [HBODY.out]; exact HOK.out _ rfl) (by rw [HBODY.out]; exact Nat.le_trans (HFEW.out _ rfl) (by decide)))
    clear hb4 hge hgev h2 hr4
    go_wp2_with fail
    refine HAL.out.mono ?_
    rintro e w5 ⟨rfl, hb5⟩
    have HB5 := Lib.hid (below_trans HB4.out hb5)
    have HRO5 := Lib.hid (HRO4.out.below hb5)
    have HRR5 := Lib.hid (HRR4.out.below hb5)
    have c7 : w5.cell? ⟨qe, 7, none⟩ = some (ptrV q) := by
      obtain ⟨bq, h1, _⟩ := HEV.out
      have e1 := HRO5.out _ _ (Ro.le_left (Ro.one qe (evObjE E (ptrV q))) r _ _ (Ro.one_self _ _))
      exact blk_cell e1 7
    clear hb5
    have hpe := fun wx : World => eq_same q wx
    go_wp2_with fail
    go_region
    all_goals
      go_wp2_with fail
      go_ret3
      refine ⟨HB5.out.drew, ?_⟩
      rw [HE.out]
      exact ⟨qe, ge, _, _, rfl, HFR.out, HFR2.out, HRO5.out.heapEq rfl, HRR5.out.heapEq rfl, HEV.out, HREV.out⟩

end Toc

namespace Toc
open Go Go.RowKit Go.Proofs

set_option maxRecDepth 100000 in
set_option maxHeartbeats 4000000 in
theorem lawReads_any (s : ByteArray) (w : World) (hG : Glob w) :
    Calls Tryz.prog 5 #[.string s] w fun e w' => e = .returned (.bool true) ∧ Below w.heap.size w w' := by
  have HG := Lib.hid hG
  have HE := Lib.hid (show ∀ wx : World, Glob wx → Calls Tryz.prog 28 #[.string s] wx fun e w' => (∃ p q, e = .returned (.tuple #[p, q, .bool true])) ∧ Below wx.heap.size wx w' from fun wx hx => by
    refine (event_any wx hx s rfl).mono ?_
    rintro e w' ⟨hb, h⟩
    cases hE : readEv (parseL s.data.toList) with
    | mk k oE =>
    rw [hE] at h
    cases oE with
    | none => exact ⟨⟨_, _, h⟩, hb⟩
    | some E =>
      obtain ⟨qe, ge, _, _, rfl, _⟩ := h
      exact ⟨⟨_, _, rfl⟩, hb⟩)
  clear hG
  go_enter Tryz.func5, Tryz.ntmps5
  go_wp2_with fail
  refine (shown_any w HG.out).mono ?_
  rintro e w1 ⟨rfl, h1⟩
  have H1 := Lib.hid h1
  clear h1
  go_wp2_with fail
  refine (HE.out w1 (HG.out.below H1.out)).mono ?_
  rintro e w2 ⟨⟨p, q, rfl⟩, h2⟩
  have H2 := Lib.hid (below_trans H1.out h2)
  clear h2
  go_wp2_with fail
  go_ret
  exact ⟨rfl, H2.out⟩

end Toc
