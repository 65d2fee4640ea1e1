/-
  LawCreates: The walk of the law RoomCreates: it returns true.
-/
import Derived.Test.YtblbdgepocfngaaGreatDoorWM
import Derived.Test.YtblbdgepocfngaaGreatDoorWL
import Derived.Test.YtblbdgepocfngaaGreatDoorWF
namespace Toc
open Go Go.RowKit Go.Proofs

theorem create_ok {u : Bytes} (hu : u ∈ userL) : JOk (createV u) := parseL_ok (create_parse u hu)

/-- A document's bytes, read: the value, whose blocks lie above. -/
theorem parse_of (w : World) (hG : Glob w) (s : ByteArray) {bs : Bytes} (hs : s.data.toList = bs) {n : Nat} (hn : bs.length = n) {v : JV} (hv : parseL bs = some v) :
    Calls Tryz.prog 20 #[.slice (some ⟨w.heap.size, 0, none⟩) n (grownCap w n 0 5)] (Lib.bytesWorld w 5 s) fun e w' =>
      ∃ q r, e = .returned (.tuple #[ptrV q, .nilIface]) ∧ r.from w.heap.size ∧ Has r w' ∧ IsV r q v ∧ Below w.heap.size w w' := by
  have hbB := bytes_below w s
  have hns : s.size = n := by rw [Lib.size_eq, hs, hn]
  have hnl : s.data.toList.length = n := by rw [hs, hn]
  have hp := parse_any (Lib.bytesWorld w 5 s) (hG.below hbB) s.data.toList w.heap.size 0 (grownCap w s.size 0 5) (bytes_at w s) (by rw [← Lib.size_eq]; exact grownCap_ge _ _ _ _) (o := some v) (by rw [hs]; exact hv)
  rw [hnl, hns] at hp
  refine hp.mono ?_
  rintro e w' ⟨hb6, q, rfl, r, hrf, hrh, hrv⟩
  exact ⟨q, r, rfl, Ro.from_mono hrf hbB.size, hrh, hrv, below_trans hbB hb6⟩

/-- Where the law stands while it makes a map: the room, the map, what has been made. -/
structure LW (w0 w : World) (rb kb lb nb : Nat) (R : RoomSt) (r : Ro) (mb : Nat) (L : List (Bytes × (Nat × JV))) : Prop where
  below : Below w0.heap.size w0 w
  room : RoomAt w rb kb lb nb R
  mv : MapV w r mb L
  nrb : r rb = none
  hm : w0.heap.size ≤ mb
  hr : rb < w.heap.size
  ne : rb ≠ mb ∧ kb ≠ mb ∧ lb ≠ mb ∧ nb ≠ mb

theorem LW.made {w0 w w' : World} {rb kb lb nb : Nat} {R : RoomSt} {r r' : Ro} {mb : Nat} {L : List (Bytes × (Nat × JV))} (h : LW w0 w rb kb lb nb R r mb L) (hb : Below w.heap.size w w') (hh : Has r' w') (hle : r.le r') (hno : ∀ k, r k = none → k < w.heap.size → r' k = none) : LW w0 w' rb kb lb nb R r' mb L :=
  ⟨below_trans h.below hb, h.room.below hb, h.mv.grow hb hh hle (hno _ h.mv.off h.mv.map.lt), hno _ h.nrb h.hr, h.hm, Nat.lt_of_lt_of_le h.hr hb.size, h.ne⟩
theorem LW.put {w0 w : World} {rb kb lb nb : Nat} {R : RoomSt} {r : Ro} {mb : Nat} {L : List (Bytes × (Nat × JV))} (h : LW w0 w rb kb lb nb R r mb L) (k : Bytes) {q : Nat} {v : JV} (hv : IsV r q v) :
    ∃ w', (Instr.mapUpdate 39 (.map (some mb)) (.string (mkS k)) (ptrV q)).run Tryz.prog w = .ok () w' ∧ LW w0 w' rb kb lb nb R r mb (putK L k (q, v)) := by
  obtain ⟨w', h1, h2, h3⟩ := h.mv.put k hv
  have hne := h.ne
  refine ⟨w', h1, ((Turns.below (S := []) h.below).extend h3 (by simpa using h.hm)).toBelow (by simp), h.room.turns h3 (by simp; omega) (by simp; omega) (by simp; omega) (by simp; omega), h2, h.nrb, h.hm, Nat.lt_of_lt_of_le h.hr h3.size, h.ne⟩

/-- Inside it: a second map. -/
structure LI (w0 w : World) (r0 r : Ro) (mb : Nat) (L : List (Bytes × (Nat × JV))) : Prop where
  below : Below w0.heap.size w0 w
  mv : MapV w r mb L
  hm : w0.heap.size ≤ mb
  le : r0.le r
  no : ∀ k, r0 k = none → k < w0.heap.size → r k = none
theorem LI.new {w : World} {r : Ro} (h : Has r w) : LI w (w.alloc (.map #[] 0)) r r w.heap.size [] :=
  ⟨(Below.refl _ _).alloc (Nat.le_refl _) _, MapV.new h, Nat.le_refl _, Ro.le_refl r, fun _ h _ => h⟩
theorem LI.made {w0 w w' : World} {r0 r r' : Ro} {mb : Nat} {L : List (Bytes × (Nat × JV))} (h : LI w0 w r0 r mb L) (hb : Below w.heap.size w w') (hh : Has r' w') (hle : r.le r') (hno : ∀ k, r k = none → k < w.heap.size → r' k = none) : LI w0 w' r0 r' mb L :=
  ⟨below_trans h.below hb, h.mv.grow hb hh hle (hno _ h.mv.off h.mv.map.lt), h.hm, Ro.le_trans h.le hle, fun k hk hl => hno k (h.no k hk hl) (Nat.lt_of_lt_of_le hl h.below.size)⟩
theorem LI.put {w0 w : World} {r0 r : Ro} {mb : Nat} {L : List (Bytes × (Nat × JV))} (h : LI w0 w r0 r mb L) (k : Bytes) {q : Nat} {v : JV} (hv : IsV r q v) :
    ∃ w', (Instr.mapUpdate 39 (.map (some mb)) (.string (mkS k)) (ptrV q)).run Tryz.prog w = .ok () w' ∧ LI w0 w' r0 r mb (putK L k (q, v)) := by
  obtain ⟨w', h1, h2, h3⟩ := h.mv.put k hv
  exact ⟨w', h1, ((Turns.below (S := []) h.below).extend h3 (by simpa using h.hm)).toBelow (by simp), h2, h.hm, h.le, h.no⟩

set_option maxRecDepth 100000 in
set_option maxHeartbeats 4000000 in
theorem lawCreates_any (x y z : Int) (hx1 : -9223372036854775808 ≤ x) (hx2 : x ≤ 9223372036854775807) (hy1 : -9223372036854775808 ≤ y) (hy2 : y ≤ 9223372036854775807) (hz1 : -9223372036854775808 ≤ z) (hz2 : z ≤ 9223372036854775807) (w : World) (hG : Glob w) :
    Calls Tryz.prog 4 #[.int .i64 x, .int .i64 y, .int .i64 z] w fun e w' => e = .returned (.bool true) ∧ Below w.heap.size w w' := by
  have HG := Lib.hid hG
  have hmm := @run_makeMap Tryz.prog
  have HUX := Lib.hid (fun wx => users_any x hx1 hx2 wx)
  have HUY := Lib.hid (fun wx => users_any y hy1 hy2 wx)
  have HPI := Lib.hid (fun wx => pick_any z 1001 hz1 hz2 (by omega) (by omega) wx)
  have hpr := pickI_range z 1001 (by omega)
  have HUM := Lib.hid (And.intro (userOf_mem x) (userOf_mem y))
  generalize pickI z 1001 = n at *
  generalize userOf x = ux at *
  generalize userOf y = uy at *
  obtain ⟨sx, hsx⟩ : ∃ s, mkS ux = s := ⟨_, rfl⟩
  obtain ⟨sy, hsy⟩ : ∃ s, mkS uy = s := ⟨_, rfl⟩
  rw [hsx] at HUX
  rw [hsy] at HUY
  have hzx : sx.size = 7 := by rw [← hsx, size_mkS]; exact (user_ne _ HUM.out.1).2.1
  have hzy : sy.size = 7 := by rw [← hsy, size_mkS]; exact (user_ne _ HUM.out.2).2.1
  have HSX := Lib.hid hsx
  have HSY := Lib.hid hsy
  clear hG hx1 hx2 hy1 hy2 hz1 hz2 hsx hsy
  have hcv := conv_bytes
  go_enter Tryz.func4, Tryz.ntmps4
  go_wp2_with fail
  refine (shown_any w HG.out).mono ?_
  rintro e w1 ⟨rfl, hb1⟩
  have HB1 := Lib.hid hb1
  clear hb1
  go_wp2_with fail
  refine (new_ok w1 (HG.out.below HB1.out) _ (by decide) (by kernel_rfl)).mono ?_
  rintro e w2 ⟨rb, kb, lb, nb, rfl, hR, hb2, l1, l2, l3, l4⟩
  have HB2 := Lib.hid (below_trans HB1.out hb2)
  have HR2 := Lib.hid hR
  have hlr := blk_lt hR.blk
  have hlk := hR.known.lt
  have hll := hR.levels.lt
  have hln := hR.needs.lt
  clear hR hb2
  go_wp2_with fail
  refine (HPI.out w2).mono ?_
  rintro e w3 ⟨rfl, rfl⟩
  go_wp2_with fail
  refine (HUX.out w2).mono ?_
  rintro e w3 ⟨rfl, hb3⟩
  have HB3 := Lib.hid (below_trans HB2.out hb3)
  have HR3 := Lib.hid (HR2.out.below hb3)
  have hz3 := hb3.size
  have HP3 := Lib.hid (fun (s : ByteArray) (hs : s.data.toList = createT ux) => parse_of w3 (HG.out.below HB3.out) s hs (n := 102) (by rw [createT, List.length_append, List.length_append, (user_ne _ HUM.out.1).2.1]; rfl) (create_parse _ HUM.out.1))
  clear hb3
  go_wp2_with fail
  refine (HP3.out _ (by rw [← HSX.out]; simp [createT, crA, crB, ByteArray.data_append])).mono ?_
  rintro e w4 ⟨q1, r1, rfl, hr1, hh1, hv1, hb4⟩
  have HB4 := Lib.hid (below_trans HB3.out hb4)
  have HR4 := Lib.hid (HR3.out.below hb4)
  have HF1 := Lib.hid hr1
  have HH1 := Lib.hid hh1
  have HV1 := Lib.hid hv1
  have hz4 := hb4.size
  clear hr1 hh1 hv1 hb4
  go_wp2_with fail
  refine (HUY.out w4).mono ?_
  rintro e w5 ⟨rfl, hb5⟩
  have HB5 := Lib.hid (below_trans HB4.out hb5)
  have HR5 := Lib.hid (HR4.out.below hb5)
  have HH5 := Lib.hid (HH1.out.below hb5)
  have hz5 := hb5.size
  have HP5 := Lib.hid (fun (s : ByteArray) (hs : s.data.toList = createT uy) => parse_of w5 (HG.out.below HB5.out) s hs (n := 102) (by rw [createT, List.length_append, List.length_append, (user_ne _ HUM.out.2).2.1]; rfl) (create_parse _ HUM.out.2))
  clear hb5
  go_wp2_with fail
  refine (HP5.out _ (by rw [← HSY.out]; simp [createT, crA, crB, ByteArray.data_append])).mono ?_
  rintro e w6 ⟨q2, r2, rfl, hr2, hh2, hv2, hb6⟩
  have HB6 := Lib.hid (below_trans HB5.out hb6)
  have HR6 := Lib.hid (HR5.out.below hb6)
  have HF2 := Lib.hid hr2
  have HH6 := Lib.hid (HH5.out.below hb6)
  have HH2 := Lib.hid hh2
  have HV2 := Lib.hid hv2
  have hz6 := hb6.size
  have hr0 : ∀ b, b < w3.heap.size → (r1.or r2) b = none := fun b hb => by
    unfold Ro.or
    rw [Ro.from_ne HF1.out hb, Ro.from_ne HF2.out (by omega)]; rfl
  have hW : LW w (w6.alloc (.map #[] 0)) rb kb lb nb (newRoom sR) (r1.or r2) w6.heap.size [] :=
    ⟨HB6.out.alloc HB6.out.size _, HR6.out.below ((Below.refl _ _).alloc (Nat.le_refl _) _), MapV.new (HH6.out.or HH2.out), hr0 _ (by omega), HB6.out.size, by simp; omega, ⟨by omega, by omega, by omega, by omega⟩⟩
  have HV1 := Lib.hid (HV1.out.mono (Ro.le_left r1 r2))
  have HV2 := Lib.hid (HV2.out.mono (Ro.le_right HH6.out HH2.out))
  have HW := Lib.hid hW
  clear hr2 hh2 hv2 hb6 hW hr0
  generalize hmb : w6.heap.size = mb at *
  go_wp2_with fail
  refine (ofText_V HW.out.mv.has sY rfl (by decide) (by decide)).mono ?_
  rintro e w7 ⟨qv7, rr7, rfl, hq, hh, hv, hle, hno, hb⟩
  have hW := HW.out.made hb hh hle hno
  obtain ⟨w7', hrun, hW'⟩ := hW.put sEventId hv
  dsimp only [mkS, sEventId] at hrun
  have HW := Lib.hid hW'
  have HV1 := Lib.hid (HV1.out.mono hle)
  have HV2 := Lib.hid (HV2.out.mono hle)
  clear hq hh hv hle hno hb hW hW'
  go_wp2_with fail
  refine (ofText_V HW.out.mv.has sR rfl (by decide) (by decide)).mono ?_
  rintro e w8 ⟨qv8, rr8, rfl, hq, hh, hv, hle, hno, hb⟩
  have hW := HW.out.made hb hh hle hno
  obtain ⟨w8', hrun, hW'⟩ := hW.put sRoomId hv
  dsimp only [mkS, sRoomId] at hrun
  have HW := Lib.hid hW'
  have HV1 := Lib.hid (HV1.out.mono hle)
  have HV2 := Lib.hid (HV2.out.mono hle)
  clear hq hh hv hle hno hb hW hW'
  go_wp2_with fail
  refine (ofText_V HW.out.mv.has sZaway rfl (by decide) (by decide)).mono ?_
  rintro e w9 ⟨qv9, rr9, rfl, hq, hh, hv, hle, hno, hb⟩
  have hW := HW.out.made hb hh hle hno
  obtain ⟨w9', hrun, hW'⟩ := hW.put sSender hv
  dsimp only [mkS, sSender] at hrun
  have HW := Lib.hid hW'
  have HV1 := Lib.hid (HV1.out.mono hle)
  have HV2 := Lib.hid (HV2.out.mono hle)
  clear hq hh hv hle hno hb hW hW'
  go_wp2_with fail
  refine (ofText_V HW.out.mv.has sPower rfl (by decide) (by decide)).mono ?_
  rintro e w10 ⟨qv10, rr10, rfl, hq, hh, hv, hle, hno, hb⟩
  have hW := HW.out.made hb hh hle hno
  obtain ⟨w10', hrun, hW'⟩ := hW.put sType hv
  dsimp only [mkS, sType] at hrun
  have HW := Lib.hid hW'
  have HV1 := Lib.hid (HV1.out.mono hle)
  have HV2 := Lib.hid (HV2.out.mono hle)
  clear hq hh hv hle hno hb hW hW'
  go_wp2_with fail
  refine (ofText_V HW.out.mv.has ([] : Bytes) rfl (by decide) (by decide)).mono ?_
  rintro e w11 ⟨qv11, rr11, rfl, hq, hh, hv, hle, hno, hb⟩
  have hW := HW.out.made hb hh hle hno
  obtain ⟨w11', hrun, hW'⟩ := hW.put sStateKey hv
  dsimp only [mkS, sStateKey] at hrun
  have HW := Lib.hid hW'
  have HV1 := Lib.hid (HV1.out.mono hle)
  have HV2 := Lib.hid (HV2.out.mono hle)
  clear hq hh hv hle hno hb hW hW'
  go_wp2_with fail
  have HI := Lib.hid (LI.new HW.out.mv.has)
  generalize hmc : w11'.heap.size = mc at *
  refine (ofInt_V HI.out.mv.has n (by omega) (by omega)).mono ?_
  rintro e w12 ⟨qi, ri, rfl, hq, hh, hv, hle, hno, hb⟩
  have hI := HI.out.made hb hh hle hno
  obtain ⟨w12', hrun, hI'⟩ := hI.put sUsersDefault hv
  dsimp only [mkS, sUsersDefault] at hrun
  have HI := Lib.hid hI'
  clear hq hh hv hle hno hb hI hI'
  go_wp2_with fail
  refine (HI.out.mv.ofMap (Nat.le_trans (KOk.nil.put (k := sUsersDefault) _ (by decide) (by decide)).1 (by decide)) (KOk.nil.put _ (by decide) (by decide)).2).mono ?_
  rintro e w13 ⟨qc, rc, rfl, hq, hh, hv, hle, hno, hb⟩
  have hI := HI.out.made hb hh hle hno
  have hW := HW.out.made hI.below hh hI.le hI.no
  obtain ⟨w13', hrun', hW'⟩ := hW.put sContent hv
  dsimp only [mkS, sContent] at hrun'
  have HW1 := Lib.hid hW'
  have HV1 := Lib.hid (HV1.out.mono hI.le)
  have HV2 := Lib.hid (HV2.out.mono hI.le)
  clear hq hh hv hle hno hb hI hW hW'
  go_wp2_with fail
  have hko := (((((KOk.nil.put (k := sEventId) (qv7, JV.text sY) (by decide) (by decide)).put (k := sRoomId) (qv8, JV.text sR) (by decide) (by decide)).put (k := sSender) (qv9, JV.text sZaway) (by decide) (by decide)).put (k := sType) (qv10, JV.text sPower) (by decide) (by decide)).put (k := sStateKey) (qv11, JV.text []) (by decide) (by decide)).put (k := sContent) (qc, JV.obj (List.map (fun p => (p.fst, p.snd.snd)) (putK [] sUsersDefault (qi, JV.int n)))) (by decide) (by decide)
  refine (HW1.out.mv.ofMap (Nat.le_trans hko.1 (by decide)) hko.2).mono ?_
  rintro e w14 ⟨q3, r3, rfl, hq, hh, hv, hle, hno, hb⟩
  have hW := HW1.out.made hb hh hle hno
  have hv3 : IsV r3 q3 (levelsV n) := hv
  have HB14 := Lib.hid hW.below
  have HR14 := Lib.hid hW.room
  have HH14 := Lib.hid hW.mv.has
  have HN14 := Lib.hid hW.nrb
  have hr14 := hW.hr
  have HV1 := Lib.hid (HV1.out.mono hle)
  have HV2 := Lib.hid (HV2.out.mono hle)
  have HV3 := Lib.hid hv3
  have HE1 := Lib.hid (event_of r3 w14 (HG.out.below hW.below) hh HV1.out (create_ok HUM.out.1) (create_event _ HUM.out.1))
  clear hq hh hv hle hno hb hW hv3
  go_wp2_with fail
  refine HE1.out.mono ?_
  rintro e w15 ⟨qe1, r4, rfl, hq, hh, hE, hle, hno, hb⟩
  have HB15 := Lib.hid (below_trans HB14.out hb)
  have HR15 := Lib.hid (HR14.out.below hb)
  have HN15 := Lib.hid (hno _ HN14.out hr14)
  have hr15 := Nat.lt_of_lt_of_le hr14 hb.size
  have HEV1 := Lib.hid hE
  have HE2 := Lib.hid (event_of r4 w15 (HG.out.below HB15.out) hh (HV2.out.mono hle) (create_ok HUM.out.2) (create_event _ HUM.out.2))
  have HV3 := Lib.hid (HV3.out.mono hle)
  clear hq hh hE hle hno hb
  go_wp2_with fail
  refine HE2.out.mono ?_
  rintro e w16 ⟨qe2, r5, rfl, hq, hh, hE, hle, hno, hb⟩
  have HB16 := Lib.hid (below_trans HB15.out hb)
  have HR16 := Lib.hid (HR15.out.below hb)
  have HN16 := Lib.hid (hno _ HN15.out hr15)
  have hr16 := Nat.lt_of_lt_of_le hr15 hb.size
  have HEV1 := Lib.hid (EvV.mono HEV1.out hle)
  have HEV2 := Lib.hid hE
  have HE3 := Lib.hid (event_of r5 w16 (HG.out.below HB16.out) hh (HV3.out.mono hle) (levels_ok (by omega) (by omega)) (levels_event n))
  clear hq hh hE hle hno hb
  go_wp2_with fail
  refine HE3.out.mono ?_
  rintro e w17 ⟨qe3, r6, rfl, hq, hh, hE, hle, hno, hb⟩
  have HB17 := Lib.hid (below_trans HB16.out hb)
  have HR17 := Lib.hid (HR16.out.below hb)
  have HN17 := Lib.hid (hno _ HN16.out hr16)
  have HEV1 := Lib.hid (EvV.mono HEV1.out hle)
  have HEV2 := Lib.hid (EvV.mono HEV2.out hle)
  have HEV3 := Lib.hid hE
  have HH17 := Lib.hid hh
  clear hq hh hE hle hno hb
  go_wp2_with fail
  refine (HUX.out w17).mono ?_
  rintro e w18 ⟨rfl, hb18⟩
  have HB18 := Lib.hid (below_trans HB17.out hb18)
  have HR18 := Lib.hid (HR17.out.below hb18)
  have HH18 := Lib.hid (HH17.out.below hb18)
  clear hb18
  go_wp2_with fail
  refine (level_any w18 HR18.out ux HSX.out (n := 0) ?_).mono ?_
  · have hne := (user_ne _ HUM.out.1).1
    unfold levelR newRoom
    simp [getK, hne]
  rintro e w19 ⟨rfl, rfl⟩
  have hux := (user_ne _ HUM.out.1).1
  have hA1 := apply_create r6 w18 (HG.out.below HB18.out) HH18.out HEV1.out (ev_ok (create_ok HUM.out.1) (create_event _ HUM.out.1)) HR18.out (create_may _ _ rfl) rfl rfl rfl rfl
  have HA1 := Lib.hid hA1
  have HUX0 := Lib.hid hux
  clear hA1 hux
  go_wp2_with fail
  refine HA1.out.mono ?_
  rintro e w20 ⟨rfl, hR20, hT20⟩
  have hrbl : w.heap.size ≤ rb := by have := HB1.out.size; omega
  have HB20 := Lib.hid (((Turns.below (S := []) HB18.out).extend hT20 (by simpa using hrbl)).toBelow (by simp))
  have HH20 := Lib.hid (HH18.out.turns hT20 (by simpa using HN17.out))
  have HA2 := Lib.hid (apply_created r6 w20 (HG.out.below HB20.out) HH20.out HEV2.out (ev_ok (create_ok HUM.out.2) (create_event _ HUM.out.2)) hR20 (create_may _ _ rfl) rfl rfl rfl HUX0.out)
  clear hR20 hT20
  go_wp2_with fail
  refine HA2.out.mono ?_
  rintro e w21 ⟨rfl, hR21, hb21⟩
  have HB21 := Lib.hid (below_trans HB20.out hb21)
  have HH21 := Lib.hid (HH20.out.below hb21)
  have HR21 := Lib.hid hR21
  clear hR21 hb21
  go_wp2_with fail
  refine (HUX.out w21).mono ?_
  rintro e w22 ⟨rfl, hb22⟩
  have HB22 := Lib.hid (below_trans HB21.out hb22)
  have HR22 := Lib.hid (HR21.out.below hb22)
  have HH22 := Lib.hid (HH21.out.below hb22)
  clear hb22
  go_wp2_with fail
  refine (level_any w22 HR22.out ux HSX.out (n := 100) ?_).mono ?_
  · have hne := HUX0.out
    unfold levelR applyC newRoom createE
    simp [getK, hne]
  rintro e w23 ⟨rfl, rfl⟩
  go_wp2_with fail
  refine (level_any w22 HR22.out sOther rfl (n := 0) ?_).mono ?_
  · have hne : sOther ≠ ux := Ne.symm (user_ne _ HUM.out.1).2.2
    unfold levelR applyC newRoom createE
    simp [getK, hne]
  rintro e w23 ⟨rfl, rfl⟩
  have HA3 := Lib.hid (apply_levels r6 w22 (HG.out.below HB22.out) HH22.out HEV3.out (ev_ok (levels_ok (by omega) (by omega)) (levels_event n)) HR22.out (levels_may _ _ rfl) rfl rfl rfl HN17.out rfl (by rw [show getO (contentO (levelsE n)) sUsers = none by kernel_rfl]; decide) (by rw [show getO (contentO (levelsE n)) sNotifications = none by kernel_rfl]; decide))
  go_wp2_with fail
  refine HA3.out.mono ?_
  rintro e w24 ⟨lb', nb', rfl, hl1, hl2, hR24, hT24⟩
  have HB24 := Lib.hid (((Turns.below (S := []) HB22.out).extend hT24 (by simpa using hrbl)).toBelow (by simp))
  have HR24 := Lib.hid hR24
  clear hR24 hT24
  go_wp2_with fail
  refine (HUX.out w24).mono ?_
  rintro e w25 ⟨rfl, hb25⟩
  have HB25 := Lib.hid (below_trans HB24.out hb25)
  have HR25 := Lib.hid (HR24.out.below hb25)
  clear hb25
  go_wp2_with fail
  refine (level_any w25 HR25.out ux HSX.out (n := n) ?_).mono ?_
  · show otherOf (contentO (levelsE n)) = n
    exact levels_other (by omega) (by omega)
  rintro e w26 ⟨rfl, rfl⟩
  go_wp2_with fail
  go_ret
  exact ⟨rfl, HB25.out⟩

end Toc
